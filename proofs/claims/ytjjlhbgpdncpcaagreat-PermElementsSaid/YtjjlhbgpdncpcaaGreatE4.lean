/- What the claim's theorem is built on, part 4: words, walks of the code, and what they tell. -/
import Derived.Test.YtjjlhbgpdncpcaaGreatE3
import Derived.Test.YtjjlhbgpdncpcaaGreatE2
set_option linter.unusedVariables false
set_option linter.unusedSimpArgs false
set_option maxHeartbeats 8000000
set_option maxRecDepth 100000
open Go.RowKit Go.Proofs.YtjjlhbgpdncpcaaGreatW.PrintWords Go.Proofs.YtjjlhbgpdncpcaaGreatW.PrintLast Go.Proofs.YtjjlhbgpdncpcaaGreatW.PrintMore
namespace Go.Proofs.YtjjlhbgpdncpcaaGreat.P.M
def cdF (a:Int) (l:List Int):Int:=l.foldl (fun a x=>6*a+x) a
theorem cdF_inj:∀ {p q:List Int} {a b:Int},p.length=q.length→(∀x∈p,0≤x∧x<6)→(∀x∈q,0≤x∧x<6)→cdF a p=cdF b q→a=b∧p=q
 | [],[],a,b,_,_,_,h=>⟨h,rfl⟩
 | [],_::_,_,_,h,_,_,_=>by simp at h
 |_::_,[],_,_,h,_,_,_=>by simp at h
 | x::p,y::q,a,b,h,hp,hq,e=>by
  have ih:=cdF_inj (p:=p) (q:=q) (a:=6*a+x) (b:=6*b+y) (by simpa using h) (fun z hz=>hp z (by simp[hz])) (fun z hz=>hq z (by simp[hz])) e;have h1:=hp x (by simp);have h2:=hq y (by simp);have:x=y:=by omega
  subst this
  exact⟨by omega,by rw[ih.2]⟩
theorem cdF_bound:∀ {l:List Int} {a:Int},0≤a→(∀x∈l,0≤x∧x<6)→0≤cdF a l∧cdF a l<(a+1)*6^l.length
 | [],a,h,_=>by simp[cdF];omega
 | x::l,a,h,hl=>by
  have hx:=hl x (by simp);have ih:=cdF_bound (l:=l) (a:=6*a+x) (by omega) (fun z hz=>hl z (by simp[hz]));have e:cdF a (x::l)=cdF (6*a+x) l:=rfl;rw[e]
  refine⟨ih.1,Int.lt_of_lt_of_le ih.2 ?_⟩;rw[List.length_cons,Int.pow_succ,←Int.mul_assoc,Int.mul_right_comm]
  exact Int.mul_le_mul_of_nonneg_right (by omega) (Int.le_of_lt (Int.pow_pos (by decide)))
theorem cdF_take (l:List Int) (i:Nat) (h:i<l.length):cdF 0 (l.take (i+1))=6*cdF 0 (l.take i)+ap l i:=by
 rw[List.take_succ_eq_append_getElem h,cdF,List.foldl_append]
 simp only[List.foldl_cons,List.foldl_nil]
 rw[ap_nat,List.getD_eq_getElem?_getD,List.getElem?_eq_getElem h];rfl
theorem six_le (n:Nat) (h:n≤6):(6:Int)^n≤46656:=by
 have:n=0∨n=1∨n=2∨n=3∨n=4∨n=5∨n=6:=by omega
 rcases this with rfl|rfl|rfl|rfl|rfl|rfl|rfl<;>decide
theorem cd_small {n:Nat} (hn:n≤6) {p:List Int} (hp:Pm n p):0≤cdF 0 p∧cdF 0 p<46656:=by
 have:=cdF_bound (l:=p) (a:=0) (by omega) (fun x hx=>by have:=hp.2.1 x hx;omega)
 refine⟨this.1,Int.lt_of_lt_of_le this.2 ?_⟩
 rw[hp.1]
 have:=six_le n hn
 omega
theorem cd_inj {n:Nat} (hn:n≤6) {p q:List Int} (hp:Pm n p) (hq:Pm n q) (e:cdF 0 p=cdF 0 q):p=q:=
 (cdF_inj (by rw[hp.1,hq.1]) (fun x hx=>by have:=hp.2.1 x hx;omega) (fun x hx=>by have:=hq.2.1 x hx;omega) e).2
theorem code_loop {n:Nat} (hn:n≤6) {p:List Int} (hp:Pm n p):∀(m i:Nat),i+m=n→Tells (fun k=>r30_code.l0 k p (cdF 0 (p.take i)) (i:Int)) (cdF 0 p)
 | 0,i,hi=>by
  have hpl:=hp.1
  refine Tells.shift ?_;simp only[r30_code.l0]
  refine Tells.neg (by omega) (Tells.now' ?_);rw[List.take_of_length_le (by omega)]
 | m +1,i,hi=>by
  have hpl:=hp.1
  refine Tells.shift ?_;simp only[r30_code.l0,rd_ap]
  have hb:∀j:Nat,0≤cdF 0 (p.take j)∧cdF 0 (p.take j)<46656:=by
   intro j;have:=cdF_bound (l:=p.take j) (a:=0) (by omega) (fun x hx=>by have:=hp.2.1 x (List.mem_of_mem_take hx);omega)
   refine⟨this.1,Int.lt_of_lt_of_le this.2 ?_⟩;have h2:=six_le (p.take j).length (by rw[List.length_take];omega);omega
  have h1:=hb i;have h2:=hb (i+1);rw[cdF_take p i (by omega)] at h2
  refine Tells.pos (by omega) (Tells.pos (by omega) ?_);rw[w64 (n:=6*cdF 0 (p.take i)) (by omega) (by omega),w64 (n:=6*cdF 0 (p.take i)+ap p i) (by omega) (by omega),w64 (n:=(i:Int)+1) (by omega) (by omega),←cdF_take p i (by omega)]
  exact code_loop hn hp m (i+1) (by omega)
theorem code_tells {n:Nat} (hn:n≤6) {p:List Int} (hp:Pm n p):Tells (fun k=>r30_code.f k p) (cdF 0 p):=by
 unfold r30_code.f
 exact code_loop hn hp n 0 (by omega)
open Classical in
theorem less_loop {n:Nat} (hn:n≤64) {p q:List Int} (hp:p.length=n) (hq:q.length=n):∀(m i:Nat),i+m=n→(∀j:Int,0≤j→j<i→ap p j=ap q j)→Tells (fun k=>r30_Less.l0 k p q (i:Int)) (decide (Lx n p q))
 | 0,i,hi,he=>by
  refine Tells.shift ?_;simp only[r30_Less.l0]
  refine Tells.neg (by omega) (Tells.now' ?_)
  refine(dF ?_).symm;rintro ⟨j,h0,h1,_,h3⟩;have:=he j h0 (by omega);omega
 | m + 1,i,hi,he=>by
  refine Tells.shift ?_;simp only[r30_Less.l0,rd_ap]
  refine Tells.pos (by omega) (Tells.pos (by omega) (Tells.pos (by omega) ?_))
  by_cases e:ap p i=ap q i
  ·refine Tells.pos e ?_;rw[w64 (n:=(i:Int)+1) (by omega) (by omega)]
   refine less_loop hn hp hq m (i+1) (by omega) (fun j h0 h1=> ?_)
   by_cases e2:j=i
   ·rw[e2];exact e
   ·exact he j h0 (by omega)
  ·refine Tells.neg e (Tells.now' ?_)
   by_cases hlt:ap p i<ap q i
   ·exact decide_eq_decide.2 ⟨fun _=>⟨(i:Int),by omega,by omega,he,hlt⟩,fun _=>hlt⟩
   ·refine decide_eq_decide.2 ⟨fun h=>absurd h hlt,?_⟩;rintro ⟨j,h0,h1,h2,h3⟩;exfalso
    rcases Int.lt_trichotomy j i with k|k|k
    ·have:=he j h0 k;omega
    ·rw[k] at h3;omega
    ·exact e (h2 i (by omega) k)
open Classical in
theorem less_tells {n:Nat} (hn:n≤64) {p q:List Int} (hp:p.length=n) (hq:q.length=n):Tells (fun k=>r30_Less.f k p q) (decide (Lx n p q)):=by
 unfold r30_Less.f
 exact less_loop hn hp hq n 0 (by omega) (fun j h0 h1=>by omega)
theorem Lx.trans {n:Nat} {p q r:List Int} (h:Lx n p q) (k:Lx n q r):Lx n p r:=by
 obtain⟨i,h0,h1,h2,h3⟩:=h
 obtain⟨j,k0,k1,k2,k3⟩:=k
 rcases Int.lt_trichotomy i j with e|e|e
 ·exact⟨i,h0,h1,fun a a0 a1=>(h2 a a0 a1).trans (k2 a a0 (by omega)),by have:=k2 i h0 e;omega⟩
 ·subst e
  exact⟨i,h0,h1,fun a a0 a1=>(h2 a a0 a1).trans (k2 a a0 a1),by omega⟩
 ·exact⟨j,k0,k1,fun a a0 a1=>(h2 a a0 (by omega)).trans (k2 a a0 a1),by have:=h2 j k0 e;omega⟩
theorem Lx.total {n:Nat} {p q:List Int} (hp:p.length=n) (hq:q.length=n):Lx n p q∨p=q∨Lx n q p:=by
 by_cases h:∃i:Nat,i<n∧ap p i≠ap q i
 ·have : ∃ i:Nat,(i<n∧ap p i≠ap q i)∧∀j<i,¬(j<n∧ap p j≠ap q j):=by
     obtain⟨i,hi⟩:=h
     have key:∀m:Nat,∀i≤m,(i<n∧ap p i≠ap q i)→∃i:Nat,(i<n∧ap p i≠ap q i)∧∀j<i,¬(j<n∧ap p j≠ap q j):=by
      intro m
      induction m with
      |zero=>intro i hi h;exact⟨i,h,fun j hj=>by omega⟩
      | succ m ih=>
       intro i hi h
       by_cases hc:∃j<i,(j<n∧ap p j≠ap q j)
       ·obtain⟨j,hj,hh⟩:=hc
        exact ih j (by omega) hh
       ·exact⟨i,h,fun j hj hh=>hc ⟨j,hj,hh⟩⟩
     exact key i i (Nat.le_refl _) hi
  obtain⟨i,⟨h1,h2⟩,h3⟩:=this
  have eqs:∀j:Int,0≤j→j<i→ap p j=ap q j:=by
   intro j j0 j1;have:=h3 j.toNat (by omega)
   apply Classical.byContradiction;intro hc
   exact this ⟨by omega,by rw[show((j.toNat:Nat):Int)=j by omega];exact hc⟩
  rcases Int.lt_trichotomy (ap p i) (ap q i) with e|e|e
  ·exact .inl ⟨i,by omega,by omega,eqs,e⟩
  ·exact absurd e h2
  ·exact .inr (.inr ⟨i,by omega,by omega,fun j j0 j1=>(eqs j j0 j1).symm,e⟩)
 right;left
 refine ap_ext hp hq (fun i h0 h1=> ?_)
 apply Classical.byContradiction
 intro hc
 exact h ⟨i.toNat,by omega,by rw[show((i.toNat:Nat):Int)=i by omega];exact hc⟩
open Classical in
theorem fixes_loop {p:List Int} {b:Int} (hb:b≤p.length) (hl:p.length≤64):∀(m i:Nat),(i:Int)+m=b→(∀j:Int,0≤j→j<i→ap p j=j)→Tells (fun k=>r30_fixes.l0 k p b (i:Int)) (decide (Fx b p))
 | 0,i,hi,he=>by
  refine Tells.shift ?_;simp only[r30_fixes.l0]
  refine Tells.neg (by omega) (Tells.now' ?_)
  exact(dT (fun j h0 h1=>he j h0 (by omega))).symm
 | m +1,i,hi,he=>by
  refine Tells.shift ?_;simp only[r30_fixes.l0,rd_ap]
  refine Tells.pos (by omega) (Tells.pos (by omega) (Tells.pos (by omega) ?_))
  by_cases e:ap p i=i
  ·refine Tells.pos e ?_;rw[w64 (n:=(i:Int)+1) (by omega) (by omega)]
   refine fixes_loop hb hl m (i+1) (by omega) (fun j h0 h1=> ?_)
   by_cases e2:j=i
   ·rw[e2];exact e
   ·exact he j h0 (by omega)
  ·refine Tells.neg e (Tells.now' ?_)
   refine(dF (fun h=>e (h i (by omega) (by omega)))).symm
open Classical in
theorem fixes_tells {p:List Int} {b:Nat} (hb:b≤p.length) (hl:p.length≤64):Tells (fun k=>r30_fixes.f k p (b:Int)) (decide (Fx (b:Int) p)):=by
 unfold r30_fixes.f
 exact fixes_loop (by omega) hl b 0 (by omega) (fun j h0 h1=>by omega)
def at1 (l:List (List Int)) (i:Nat):List Int:=l.getD i []
theorem at1_eq {l:List (List Int)} {i:Nat} (h:i<l.length):at1 l i=l[i]:=by simp[at1,h]
theorem at1_set {l:List (List Int)} {i:Nat} (h:i<l.length) (v:List Int) (j:Nat):at1 (l.set i v) j=if j=i then v else at1 l j:=by
 by_cases e:j=i
 ·subst e
  rw[if_pos rfl,at1,List.getD_eq_getElem?_getD,List.getElem?_set_self h];rfl
 rw[if_neg e,at1,List.getD_eq_getElem?_getD,List.getElem?_set_ne (by omega),←List.getD_eq_getElem?_getD];rfl
def Le (n:Nat) (p q:List Int):Prop:=¬Lx n q p
theorem Le.trans {n:Nat} {p q r:List Int} (hp:p.length=n) (hq:q.length=n) (hr:r.length=n) (h:Le n p q) (k:Le n q r):Le n p r:=by
 intro c
 rcases Lx.total hp hq with a|a|a
 ·rcases Lx.total hq hr with b|b|b
  ·exact(a.trans b).asymm c
  ·subst b;exact a.asymm c
  ·exact k b
 ·subst a;exact k c
 ·exact h a
theorem swap_perm {l:List (List Int)} {i j:Nat} (hi:i<l.length) (hj:j<l.length) (hne:i≠j):((l.set i (at1 l j)).set j (at1 l i)).Perm l:=by
 rw[at1_eq hi,at1_eq hj]
 exact List.set_set_perm hi hj
structure SortI (n:Nat) (l0 l:List (List Int)):Prop where
 perm:l.Perm l0
 len:∀p∈l0,p.length=n
theorem SortI.at {n:Nat} {l0 l:List (List Int)} (h:SortI n l0 l) {i:Nat} (hi:i<l.length):(at1 l i).length=n:=by
 rw[at1_eq hi]
 exact h.len _ (h.perm.mem_iff.1 (List.getElem_mem hi))
theorem rd1_at (l:List (List Int)) (i:Nat):Zo l (i:Int)=at1 l i:=by simp[Zo,at1]
open Classical in
theorem sort_l3 {n:Nat} (hn:n≤64) {l0:List (List Int)} (m:l0.length≤4611686018427387904) (i:Nat) (P:List (List Int)→Prop)
    (cont:∀l,SortI n l0 l→(∀a b:Nat,a<b→b<i+1→Le n (at1 l a) (at1 l b))→∃r,P r∧Tells (fun k=>r30_Group.l2 k l ((i:Int)+1)) r):
    ∀(j:Nat) (l:List (List Int)),j≤i→i<l0.length→SortI n l0 l→(∀a b:Nat,a<b→b≤i→a≠j→b≠j→Le n (at1 l a) (at1 l b))→(∀b:Nat,j<b→b≤i→Le n (at1 l j) (at1 l b))→
    ∃r,P r∧Tells (fun k=>r30_Group.l3 k l (i:Int) (j:Int)) r
 | 0, l,hj,hi,hs,h1,h2=>by
  obtain⟨r,hr,ht⟩:=cont l hs (fun a b hab hb=>by
   by_cases e:a=0
   ·subst e;exact h2 b hab (by omega)
   ·exact h1 a b hab (by omega) e (by omega))
  refine⟨r,hr,Tells.shift ?_⟩;simp only[r30_Group.l3]
  refine Tells.neg (by omega) ?_;rw[w64 (n:=(i:Int)+1) (by omega) (by omega)]
  exact ht
 | j + 1, l,hj,hi,hs,h1,h2=>by
  have hll:=hs.perm.length_eq;have hw:wrap64 (((j+1:Nat):Int)-1)=(j:Int):=by rw[w64 (by omega) (by omega)];omega
  have hlt:=less_tells hn (hs.at (i:=j+1) (by omega)) (hs.at (i:=j) (by omega))
  by_cases hx:Lx n (at1 l (j+1)) (at1 l j)
  ·-- swap
   rw[dT hx] at hlt
   have hA:∀a:Nat,at1 ((l.set (j+1) (at1 l j)).set j (at1 l (j+1))) a=if a=j then at1 l (j+1) else if a=j+1 then at1 l j else at1 l a:=by
    intro a;rw[at1_set (by rw[List.length_set];omega)]
    by_cases e:a=j
    ·rw[if_pos e,if_pos e]
    ·rw[if_neg e,if_neg e,at1_set (by omega)]
   have hs':SortI n l0 ((l.set (j+1) (at1 l j)).set j (at1 l (j+1))):=⟨(swap_perm (by omega) (by omega) (by omega)).trans hs.perm,hs.len⟩
   obtain ⟨r,hr,ht⟩:=sort_l3 hn m i P cont j _ (by omega) hi hs' (fun a b hab hb ha hbj=>by
    rw[hA a,hA b,if_neg ha,if_neg hbj]
    by_cases e1:a=j+1
    ·rw[if_pos e1,if_neg (by omega)]
     exact h1 j b (by omega) hb (by omega) (by omega)
    ·rw [if_neg e1]
     by_cases e2:b=j+1
     ·rw[if_pos e2]
      exact h1 a j (by omega) (by omega) e1 (by omega)
     ·rw[if_neg e2];exact h1 a b hab hb e1 e2) (fun b hb hbi=>by
    rw[hA j,hA b,if_pos rfl,if_neg (by omega)]
    by_cases e2:b=j+1
    ·rw[if_pos e2];exact fun c=>hx.asymm c
    ·rw[if_neg e2];exact h2 b (by omega) hbi)
   refine⟨r,hr,Tells.shift ?_⟩;simp only[r30_Group.l3,hw,rd1_at]
   refine Tells.pos (by omega) (Tells.pos (by omega) (Tells.pos (by omega) (Tells.pos (by omega) (Tells.pos (by omega) (Tells.bind hlt (Tells.pos rfl ?_))))));rw[show(((j+1:Nat):Int)).toNat=j+1 by omega,show((j:Nat):Int).toNat=j by omega]
   exact ht
  ·rw [dF hx] at hlt
   obtain ⟨r,hr,ht⟩:=cont l hs (fun a b hab hb=>by
    by_cases e1:a=j+1
    ·subst e1;exact h2 b (by omega) (by omega)
    ·by_cases e2:b=j+1
     ·subst e2
      by_cases e3:a=j
      ·subst e3;exact hx
      ·exact Le.trans (hs.at (by omega)) (hs.at (by omega)) (hs.at (by omega)) (h1 a j (by omega) (by omega) (by omega) (by omega)) hx
     ·exact h1 a b hab (by omega) e1 e2)
   refine⟨r,hr,Tells.shift ?_⟩;simp only[r30_Group.l3,hw,rd1_at]
   refine Tells.pos (by omega) (Tells.pos (by omega) (Tells.pos (by omega) (Tells.pos (by omega) (Tells.pos (by omega) (Tells.bind hlt (Tells.neg (by simp) ?_))))));rw[w64 (n:=(i:Int)+1) (by omega) (by omega)]
   exact ht
theorem sort_l2 {n:Nat} (hn:n≤64) {l0:List (List Int)} (e:l0.length≤4611686018427387904):∀(m i:Nat) (l:List (List Int)),l0.length≤i+m→SortI n l0 l→(∀a b:Nat,a<b→b<i→b<l0.length→Le n (at1 l a) (at1 l b))→
    ∃r,(r.Perm l0∧∀a b:Nat,a<b→b<l0.length→Le n (at1 r a) (at1 r b))∧Tells (fun k=>r30_Group.l2 k l (i:Int)) r
 | m, i,l,hi,hs,h=>by
  have hll:=hs.perm.length_eq
  by_cases hlt:i<l0.length
  ·match m,hi with
   |0,hi=>omega
   | m+1,hi=>
    obtain⟨r,hr,ht⟩:=sort_l3 hn e i (fun r=>r.Perm l0∧∀a b:Nat,a<b→b<l0.length→Le n (at1 r a) (at1 r b)) (fun l' hs' h'=>sort_l2 hn e m (i+1) l' (by omega) hs' (fun a b hab hb _=>h' a b hab hb)) i l (Nat.le_refl _) hlt hs (fun a b hab hb ha hbi=>h a b hab (by omega) (by omega)) (fun b hb hbi=>by omega)
    refine⟨r,hr,Tells.shift ?_⟩;simp only[r30_Group.l2]
    exact Tells.pos (by omega) ht
  ·refine⟨l,⟨hs.perm,fun a b hab hb=>h a b hab (by omega) hb⟩,Tells.shift ?_⟩;simp only[r30_Group.l2]
   exact Tells.neg (by omega) Tells.now
theorem sort_tells {n:Nat} (hn:n≤64) (l:List (List Int)) (hl:l.length≤4611686018427387904) (hp:∀p∈l,p.length=n) (hnd:l.Nodup):∃r,(∀p,p∈r↔p∈l)∧r.length=l.length∧r.Pairwise (Lx n)∧Tells (fun k=>r30_Group.l2 k l 1) r:=by
 obtain⟨r,⟨h1,h2⟩,ht⟩:=sort_l2 hn hl l.length 1 l (by omega) ⟨List.Perm.refl _,hp⟩ (fun a b hab hb _=>by omega)
 refine⟨r,fun p=>h1.mem_iff,h1.length_eq,?_,ht⟩
 rw[List.pairwise_iff_getElem]
 intro i j hi hj hij
 have hle:=h2 i j hij (by have:=h1.length_eq;omega)
 rw[at1_eq hi,at1_eq hj] at hle
 rcases Lx.total (hp _ (h1.mem_iff.1 (List.getElem_mem hi))) (hp _ (h1.mem_iff.1 (List.getElem_mem hj))) with a|a|a
 ·exact a
 ·have hn':r.Nodup:=h1.nodup_iff.2 hnd
  exact absurd a (List.pairwise_iff_getElem.1 hn' i j hi hj hij)
 ·exact absurd a hle
end Go.Proofs.YtjjlhbgpdncpcaaGreat.P.M
namespace Go.Proofs.YtjjlhbgpdncpcaaGreat.P
section
attribute [local go_sem] ZH ZF ZL ZK ZB ZA ZG ZE
mutual
def perm_Cycles.l0:Nat→List Int→List (List Int)→List Bool→Int→Int→Option ((List (List Int))×Int)
 |0,_,_,_,_,_=>none
 |k+1,x0,x5,x6,x19,x20=>if x20<x19 then(perm_Cycles.l1 k x0 x5 x6 ([]:List Int) x20 x19 x20) else(some (x5,0))
def perm_Cycles.l1:Nat→List Int→List (List Int)→List Bool→List Int→Int→Int→Int→Option ((List (List Int))×Int)
 |0,_,_,_,_,_,_,_=>none
 |k+1,x0,x5,x6,x8,x9,x19,x20=>if 0≤x9 then(if x9<(x6.length:Int) then(if rdOf false x6 x9=true then(if(x8.length:Int)>1 then(if x5.length<5864062014805 then(perm_Cycles.l0 k x0 (x5++ [x8]) x6 x19 (wrap64 (x20+1))) else(none)) else(perm_Cycles.l0 k x0 x5 x6 x19 (wrap64 (x20+1)))) else(if x8.length<17592186044416 then(if x9<(x0.length:Int) then(perm_Cycles.l1 k x0 x5 (x6.set (x9:Int).toNat true) (x8++ [x9]) (rd x0 x9) x19 x20) else(none)) else(none))) else(none)) else(none)
end
def perm_Cycles.f (k:Nat) (l0:List Int):Option ((List (List Int))×Int):=(perm_Check.f l0).bind fun t130=>(if t130=0 then(if 0≤(l0.length:Int) then(if((l0.length:Int):Int).toNat≤281474976710656 then(perm_Cycles.l0 k l0 ([]:List (List Int)) (List.replicate ((l0.length:Int):Int).toNat false) (l0.length:Int) 0) else(none)) else(none)) else(some (([]:List (List Int)),t130)))
theorem perm_Cycles.calls (k :Nat) (A0:Option Addr) (c0:Nat) (l0:List Int) (r1:List (List Int)) (r2:Int) (w:World) (bn:Kd.C (Kd.int .i64) w A0 l0.length l0) (bm:l0.length≤c0) (h:perm_Cycles.f k l0=some (r1,r2)):
    Calls Tryz.prog 16 #[.slice A0 l0.length c0] w fun e w'=>∃bo:Value,e= .returned (.tuple #[bo,.int .i64 r2])∧Kd.S (Kd.slice 3 (Kd.int .i64)) 32 w' w.heap.size (fun _=>True) bo r1∧Below w.heap.size w w':=by
 have aX:=aM bn
 have ba:=aM bm
 clear bn bm
 have HB:=aM (Below.refl w.heap.size w)
 have H:((perm_Check.f l0).bind fun O=>(if O=0 then(if 0≤(l0.length:Int) then(if((l0.length:Int):Int).toNat≤281474976710656 then(perm_Cycles.l0 k l0 ([]:List (List Int)) (List.replicate ((l0.length:Int):Int).toNat false) (l0.length:Int) 0) else(none)) else(none)) else(some (([]:List (List Int)),O))))=some (r1,r2):=h
 clear h
 replace H:=oB H
 obtain⟨O,a8,H⟩:=H
 replace H:(if O=0 then(if 0≤(l0.length:Int) then(if((l0.length:Int):Int).toNat≤281474976710656 then(perm_Cycles.l0 k l0 ([]:List (List Int)) (List.replicate ((l0.length:Int):Int).toNat false) (l0.length:Int) 0) else(none)) else(none)) else(some (([]:List (List Int)),O)))=some (r1,r2):=H
 have A2:=aM a8
 clear a8
 by_cases c3:O=0
 ·rw [if_pos c3] at H
  have ak:=beq_iff_eq.mpr c3;have al:=bne_eq_false_iff_eq.mpr c3;clear c3
  by_cases c4:0≤(l0.length:Int)
  ·rw [if_pos c4] at H; have aC:=eq_true c4;have aD:=dT c4;clear c4
   by_cases c5:((l0.length:Int):Int).toNat≤281474976710656
   ·rw [if_pos c5] at H; have aE:=eq_true c5;have aG:=dT c5;clear c5;obtain⟨aQ,U⟩:∃y_:List Bool,y_=(List.replicate ((l0.length:Int):Int).toNat false):=⟨_,rfl⟩;replace H:(perm_Cycles.l0 k l0 ([]:List (List Int)) aQ (l0.length:Int) 0)=some (r1,r2):=by first|(rw[U];with_reducible exact H)|(have H2_:=(Option.bind_some _ _).symm.trans H;rw[U];with_reducible exact H2_)|(have H2_:=(Option.bind_some _ _).symm.trans H;with_reducible exact H2_)|with_reducible exact H|(rw[U];exact H)|exact H
    have ai:=aM U;clear U;have H':=aM H;clear H
    go_enter Tryz.func16,Tryz.ntmps16
    go_wp2_with (first|((with_reducible refine Zr (f:=28) rfl ?_);refine ZI (some 11) rfl rfl Tryz.func28 (by kernel_rfl) rfl #[.slice A0 l0.length c0] rfl zz127 ?_;(with_reducible refine(perm_Check.calls _ _ l0 O _ ?sa ?sb A2.out).mono ?_);(case sa=>exact zC aX.out);(case sb=>exact ba.out);rintro e w6 ⟨rfl,hb⟩;refine⟨_,rfl,?_⟩;replace HB:=aM (Zd zz128 hb);(try clear hb);(try clear bw);(try clear hk);(try clear hi))|((with_reducible refine Zq (N:=17) rfl ?_);refine Kd.R_make Kd.bool _ 4 rfl (N:=17) rfl 81 _ _ rfl (l0.length:Int) rfl rfl Tryz.underlying81 (.bool false) 1 info4 rfl (by decide) (by omega) false (ok:=fun _=>True) (okp:=fun _=>True) rfl (fun _ hk=>hk) trivial (oD zz156) (Nat.le_trans (Nat.mul_le_mul_right _ (oD zz156:(l0.length:Int).toNat≤281474976710656)) (by omega)) (Below.refl _ _) (Nat.le_refl _) ?_;intro aN w7 an hb hg_ hnew_;clear hg_ hnew_;(first|rw[←ai.out] at an|(simp only[Int.reduceToNat] at an;rw[←ai.out] at an));have aU:=aM (Kd.R_lower an (Zc zz128));replace HB:=aM (Zd zz128 hb);clear hb an))
    go_loopg [5,20] k (fun kq v5 bx w'=>∃(D:List (List Int)) (ae:List Bool) (o:Int),bx= .int .i64 o∧Aside0 (perm_Cycles.l0 kq l0 D ae (l0.length:Int) o=some (r1,r2))∧Aside0 (kq≤k)∧Aside0 (Kd.S (Kd.slice 3 (Kd.int .i64)) 32 w' w.heap.size (fun _=>True) v5 D)∧Aside0 (Kd.R Kd.bool 4 w' w.heap.size (fun _=>True) aN ae)∧Aside0 (Below w.heap.size w w'))
    case atStart=>exact⟨(([]:List (List Int))),(aQ),(0),zz157,H',⟨Nat.le_refl _⟩,⟨zz125⟩,⟨(zR aU)⟩,⟨zz128⟩⟩
    case round =>
     clear H';(try clear c1);(try clear c2);(try clear p2);(try clear c3);(try clear ak);(try clear al);(try clear c4);(try clear aC);(try clear aD);(try clear c5);(try clear aE);(try clear aG);obtain⟨D,ae,o,rfl,HA,HK1,HO_5,HO_6,HB⟩:=hrel
     cases gk with
     |zero=>exact absurd HA.out (by simp[perm_Cycles.l0])
     | succ k1=>
      have H:=HA.out;clear HA;simp only[perm_Cycles.l0] at H
      by_cases c9:o<(l0.length:Int)
      ·rw [if_pos c9] at H;have aH:=dT c9;clear c9;have H':=aM H;clear H;go_wp2
       go_loopg [8,9] k1 (fun kq v8 v9 w'=>∃(B:List Bool) (z:List Int) (m:Int),v9= .int .i64 m∧Aside0 (perm_Cycles.l1 kq l0 D B z m (l0.length:Int) o=some (r1,r2))∧Aside0 (kq≤k1)∧Aside0 (Kd.S (Kd.slice 3 (Kd.int .i64)) 32 w' w.heap.size (fun k_=>some k_≠(v8:Value).ownBlock) u5 D)∧Aside0 (Kd.R Kd.bool 4 w' w.heap.size (fun _=>True) aN B)∧Aside0 (Kd.R (Kd.int .i64) 3 w' w.heap.size (fun _=>True) v8 z)∧Aside0 (Below w.heap.size w w'))
       case atStart=>exact⟨(ae),(([]:List Int)),(o),zz157,H',⟨Nat.le_refl _⟩,⟨(by(with_reducible repeat(first|apply Kd.S_alloc|apply Kd.S_drewN|apply Kd.S_drew));exact Kd.S_mono HO_5.out (fun _ hk=>zz169))⟩,⟨(zR HO_6)⟩,⟨zz126⟩,⟨zz128⟩⟩
       case round =>
        clear H';(try clear c1);(try clear c2);(try clear p2);(try clear c3);(try clear ak);(try clear al);(try clear c4);(try clear aC);(try clear aD);(try clear c5);(try clear aE);(try clear aG);(try clear c9);(try clear aH);(try clear p2);obtain⟨B,z,m,rfl,HA,HK2,HO_5,HO_6,HO_8,HB⟩:=hrel
        cases gk with
        |zero=>exact absurd HA.out (by simp[perm_Cycles.l1])
        | succ k2=>
         have H:=HA.out;clear HA;simp only[perm_Cycles.l1] at H
         by_cases c10:0≤m
         ·rw [if_pos c10] at H;have bs:=dT c10;clear c10
          by_cases ar:m<(B.length:Int)
          ·rw [if_pos ar] at H;have bu:=dT ar;clear ar;obtain⟨aA,ad⟩:∃b_:Bool,b_=(rdOf false B m):=⟨_,rfl⟩;replace H:(if aA=true then(if(z.length:Int)>1 then(if D.length<5864062014805 then(perm_Cycles.l0 k2 l0 (D++ [z]) B (l0.length:Int) (wrap64 (o+1))) else(none)) else(perm_Cycles.l0 k2 l0 D B (l0.length:Int) (wrap64 (o+1)))) else(if z.length<17592186044416 then(if m<(l0.length:Int) then(perm_Cycles.l1 k2 l0 D (B.set (m:Int).toNat true) (z++ [m]) (rd l0 m) (l0.length:Int) o) else(none)) else(none)))=some (r1,r2):=by rw[←ad] at H;exact H
           have ac:=aM ad;clear ad
           by_cases au:aA=true
           ·subst au;have H1:(if(z.length:Int)>1 then(if D.length<5864062014805 then(perm_Cycles.l0 k2 l0 (D++ [z]) B (l0.length:Int) (wrap64 (o+1))) else(none)) else(perm_Cycles.l0 k2 l0 D B (l0.length:Int) (wrap64 (o+1))))=some (r1,r2):=by rw[if_pos rfl] at H;exact H
            clear H;have H:=H1;clear H1
            by_cases ag:(z.length:Int)>1
            ·rw [if_pos ag] at H;have a3:=dT ag;have a4:decide (1<z.length)=true:=dT (by omega);clear ag
             by_cases av:D.length<5864062014805
             ·rw[if_pos av] at H;have aY:=aM av;clear av;obtain⟨aR,X⟩:∃y_:List (List Int),y_=(D++ [z]):=⟨_,rfl⟩;replace H:(perm_Cycles.l0 k2 l0 aR B (l0.length:Int) (wrap64 (o+1)))=some (r1,r2):=by first|(rw[X];with_reducible exact H)|(have H2_:=(Option.bind_some _ _).symm.trans H;rw[X];with_reducible exact H2_)|(have H2_:=(Option.bind_some _ _).symm.trans H;with_reducible exact H2_)|with_reducible exact H|(rw[X];exact H)|exact H
              have a0:=aM X;clear X;have H':=aM H;clear H;obtain⟨bz,bE,bc⟩:=Kd.R_slice HO_6.out;subst bc;have J:0≤(m:Int):=oD zz156;have L:m<(B.length:Int):=oD zz156;obtain⟨aj,aa,I⟩:=Kd.at_bool (Kd.R_reads' HO_6.out).2.2 m J L
              (try rw[←ac.out] at I)
              cases aa;replace J:=eq_true J;replace L:=eq_true L;obtain⟨ay,aI,bg⟩:=Kd.R_slice HO_8.out;subst bg
              go_wp2_with (first|((with_reducible refine ZQ (b:= .append) (xs:= #[.tmp 43,.tmp 45]) rfl ?_);at_builtin;refine Kd.S_append (Kd.slice 3 (Kd.int .i64)) (w0:=w) w.heap.size rfl (.tmp 43) (.tmp 45) 46 32 (.slice none 0 0) 24 rfl Tryz.underlying46 info32 rfl (by decide) (by omega) u5 D z [.slice ay z.length aI] (fun _=>True) (fun k_=>some k_=(.slice ay z.length aI:Value).ownBlock) rfl rfl ?aP (fun k_ hk_=>((Kd.R_mono (ok':=fun k_=>((fun _=>True)) k_∧some k_≠(u5:Value).ownBlock) (Kd.R_apart' (HO_8.out) (Kd.S_typed HO_5.out) (by decide)) (fun k_ hk=>⟨trivial,hk.2⟩))).1 k_ hk_.symm) ?aF ?aO ?aB ?aS ?aL ?_;(case aP=>exact Kd.M_row (Kd.R_mono (Kd.R_tight rfl (Kd.R_mono (ok':=fun k_=>((fun _=>True)) k_∧some k_≠(u5:Value).ownBlock) (Kd.R_apart' (HO_8.out) (Kd.S_typed HO_5.out) (by decide)) (fun k_ hk=>⟨trivial,hk.2⟩))) (fun _ h_=>h_)));(case aB=>exact zz128);(case aF=>exact(fun _ _=>trivial));(case aO=>exact(by(with_reducible repeat(first|apply Kd.S_alloc|apply Kd.S_drewN|apply Kd.S_drew));exact Kd.S_mono HO_5.out (fun k_ hk=>⟨trivial,fun e_=>hk e_⟩)));(case aS=>exact(Zc zz128));(case aL=>have:=aY.out;omega);intro bI bK ho hb hg hat;rw[←a0.out] at ho;replace HO_6:=aM (Kd.R_over' (zR HO_6) (Kd.S_typed (zS HO_5)) (by decide) hg);replace HB:=aM (hb);have aV:=aM (ho);clear HO_5 HO_8;clear ho hb hg hat))
              go_roundg k2
              case measure=>have:=HK1.out;have:=HK2.out;omega
              case rel=>exact⟨(aR),(B),(wrap64 (o+1)),zz157,H',⟨zz159⟩,⟨(zS aV)⟩,⟨(zR HO_6)⟩,⟨zz128⟩⟩
             rw[if_neg av] at H
             exact absurd H (by simp)
            rw[if_neg ag] at H;have a3:=dF ag;have a4:decide (1<z.length)=false:=dF (by omega);clear ag;have H':=aM H;clear H;obtain⟨bA,bF,bh⟩:=Kd.R_slice HO_6.out;subst bh;have J:0≤(m:Int):=oD zz156;have L:m<(B.length:Int):=oD zz156;obtain⟨aj,aa,I⟩:=Kd.at_bool (Kd.R_reads' HO_6.out).2.2 m J L
            (try rw[←ac.out] at I)
            cases aa;replace J:=eq_true J;replace L:=eq_true L;obtain⟨Ao20,co20,bi⟩:=Kd.R_slice HO_8.out;subst bi;go_wp2
            go_roundg k2
            case measure=>have:=HK1.out;have:=HK2.out;omega
            case rel=>exact⟨(D),(B),(wrap64 (o+1)),zz157,H',⟨zz159⟩,⟨(by(with_reducible repeat(first|apply Kd.S_alloc|apply Kd.S_drewN|apply Kd.S_drew));exact Kd.S_mono HO_5.out (fun _ hk=>trivial))⟩,⟨(zR HO_6)⟩,⟨zz128⟩⟩
           replace au:=Bool.eq_false_iff.mpr au;subst au;have H1:(if z.length<17592186044416 then(if m<(l0.length:Int) then(perm_Cycles.l1 k2 l0 D (B.set (m:Int).toNat true) (z++ [m]) (rd l0 m) (l0.length:Int) o) else(none)) else(none))=some (r1,r2):=by rw[if_neg (show¬(false=true) by decide)] at H;exact H
           clear H;have H:=H1;clear H1;obtain⟨af,Y⟩:∃y_:List Bool,y_=(B.set (m:Int).toNat true):=⟨_,rfl⟩;replace H:(if z.length<17592186044416 then(if m<(l0.length:Int) then(perm_Cycles.l1 k2 l0 D af (z++ [m]) (rd l0 m) (l0.length:Int) o) else(none)) else(none))=some (r1,r2):=by first|(rw[Y];with_reducible exact H)|(have H2_:=(Option.bind_some _ _).symm.trans H;rw[Y];with_reducible exact H2_)|(have H2_:=(Option.bind_some _ _).symm.trans H;with_reducible exact H2_)|with_reducible exact H|(rw[Y];exact H)|exact H
           have a1:=aM Y;clear Y
           by_cases aw:z.length<17592186044416
           ·rw [if_pos aw] at H;have aZ:=aM aw;clear aw;obtain⟨aT,Z⟩:∃y_:List Int,y_=(z++ [m]):=⟨_,rfl⟩;replace H:(if m<(l0.length:Int) then(perm_Cycles.l1 k2 l0 D af aT (rd l0 m) (l0.length:Int) o) else(none))=some (r1,r2):=by first|(rw[Z];with_reducible exact H)|(have H2_:=(Option.bind_some _ _).symm.trans H;rw[Z];with_reducible exact H2_)|(have H2_:=(Option.bind_some _ _).symm.trans H;with_reducible exact H2_)|with_reducible exact H|(rw[Z];exact H)|exact H
            have a2:=aM Z;clear Z
            by_cases ax:m<(l0.length:Int)
            ·rw[if_pos ax] at H;have bv:=dT ax;clear ax;have H':=aM H;clear H;obtain⟨bB,am,bj⟩:=Kd.R_slice HO_6.out;subst bj;have J:0≤(m:Int):=oD zz156;have L:m<(B.length:Int):=oD zz156;obtain⟨aj,aa,I⟩:=Kd.at_bool (Kd.R_reads' HO_6.out).2.2 m J L
             (try rw[←ac.out] at I)
             cases aa;replace J:=eq_true J;replace L:=eq_true L;have a5:0≤(m:Int):=oD zz156;have a6:(m:Int)<((B.length:Int):Int):=oD zz156;obtain⟨ab,bH,aJ,aK,bk,bD,az⟩:=Kd.R_form HO_6.out (by omega)
             (first|cases aJ|(injection aJ with ea_ en_ ec_;(first|subst ea_|(injection ea_ with ea_;subst ea_));subst ec_;clear en_))
             have a9:=aM aK;have bC:=aM az;clear aK bk az
             (first|simp only[Z5] at I|skip)
             obtain⟨bq,bp⟩:=Kd.R_celln false HO_6.out (m:Int) a5 a6;replace a5:=eq_true a5;replace a6:=eq_true a6;have ah:=Kd.R_putg HO_6.out (m:Int) true
             go_wp2_with (first|((with_reducible refine ZO (t:=4) (p:=35) rfl ?_);refine ZM (t:=4) (p:=35) (v:= ?vo_w26) (w1:=(wr.setCell ⟨ab,(m:Int).toNat,none⟩ (.bool true))) ?hg ?ho ?hn ?hr ?_;(case ho=>rfl);(case hg=>rfl);(case hn=>rfl);(case hr=>first|(go_simp;done)|(go_simp;rfl));intro a7 hw;have hg:wr.grownBy a7 (some ab):=(by rw[hw];exact ah.2);have hp_:Kd.R Kd.bool 4 a7 w.heap.size (fun _=>True) (.slice (some ⟨ab,0,none⟩) B.length am) af:=(by rw[hw,a1.out];exact ah.1);clear ah;replace HO_5:=aM (Kd.S_over' (v:=(.slice (some ⟨ab,0,none⟩) B.length am)) (zS HO_5) (Kd.R_typed HO_6.out) (by decide) hg);replace HO_8:=aM (Kd.R_over' (v:=(.slice (some ⟨ab,0,none⟩) B.length am)) (zR HO_8) (Kd.R_typed HO_6.out) (by decide) hg);replace HO_6:=aM (hp_);replace HB:=aM ((by rw[hw];exact Zi (HB.out) a9.out:Below w.heap.size w a7));clear hg hw hp_)|((with_reducible refine ZQ (b:= .append) (xs:= #[.tmp 36,.tmp 38]) rfl ?_);at_builtin;refine Kd.R_append (Kd.int .i64) (w0:=w) w.heap.size rfl (.tmp 36) (.tmp 38) 32 3 (.int .i64 0) 8 rfl Tryz.underlying32 info3 rfl (by decide) (by omega) u8 z m [.int .i64 m] (fun _=>True) (fun _=>False) rfl rfl ?aP (fun _ hk=>hk.elim) ?aF ?aO ?aB ?aS ?aL ?_;(case aP=>exact rfl);(case aB=>exact zz128);(case aF=>exact(fun _ _=>trivial));(case aO=>exact(zR HO_8));(case aS=>exact(Zc zz128));(case aL=>have:=aZ.out;omega);intro bJ bL ho hb hg hat;rw[←a2.out] at ho;replace HO_5:=aM (Kd.S_after (ok:=(fun _=>True)) (by(with_reducible repeat(first|apply Kd.S_alloc|apply Kd.S_drewN|apply Kd.S_drew));exact Kd.S_mono HO_5.out (fun _ hk=>⟨trivial,hk⟩)) hg hat);replace HO_6:=aM (Kd.R_over' (zR HO_6) (Kd.R_typed (zR HO_8)) (by decide) hg);replace HB:=aM (hb);have aW:=aM (ho);clear HO_8;clear ho hb hg hat;have ao:0≤(m:Int):=oD zz156;have aq:m<(l0.length:Int):=oD zz156;obtain⟨br,bb,P⟩:=Kd.at_int aX.out m ao aq;cases bb;replace P:=(HB.out.cell (wB w _ P)).trans P;replace ao:=eq_true ao;replace aq:=eq_true aq))
             go_roundg k2
             case measure=>have:=HK1.out;have:=HK2.out;omega
             case rel=>exact⟨(af),(aT),(rd l0 m),zz157,H',⟨zz159⟩,⟨(by(with_reducible repeat(first|apply Kd.S_alloc|apply Kd.S_drewN|apply Kd.S_drew));exact Kd.S_mono HO_5.out (fun _ hk=>hk.2))⟩,⟨(zR HO_6)⟩,⟨(zR aW)⟩,⟨zz128⟩⟩
            rw[if_neg ax] at H
            exact absurd H (by simp)
           rw[if_neg aw] at H
           exact absurd H (by simp)
          rw[if_neg ar] at H
          exact absurd H (by simp)
         rw[if_neg c10] at H
         exact absurd H (by simp)
      rw[if_neg c9] at H;have aH:=dF c9;clear c9;simp only[Option.some.injEq,Prod.mk.injEq] at H;obtain⟨rfl,rfl⟩:=H;go_wp2
      go_ret2
      exact⟨_,by first|rfl|(simp[Zm,Zl]<;>rfl)|(simp[*,Zm,Zl]<;>rfl),by(with_reducible repeat(first|apply Kd.S_alloc|apply Kd.S_drewN|apply Kd.S_drew));exact HO_5.out,by repeat(first|(with_reducible first|exact HB.out|apply Zh|apply Zg|apply Zj)|exact HB.out)⟩
   rw[if_neg c5] at H
   exact absurd H (by simp)
  rw[if_neg c4] at H
  exact absurd H (by simp)
 rw[if_neg c3] at H
 have ak:=beq_eq_false_iff_ne.mpr c3
 have al:=bne_iff_ne.mpr c3
 simp only[Option.some.injEq,Prod.mk.injEq] at H
 obtain⟨rfl,rfl⟩:=H
 go_enter Tryz.func16,Tryz.ntmps16
 go_wp2_with (first|((with_reducible refine Zr (f:=28) rfl ?_);refine ZI (some 11) rfl rfl Tryz.func28 (by kernel_rfl) rfl #[.slice A0 l0.length c0] rfl zz127 ?_;(with_reducible refine(perm_Check.calls _ _ l0 O _ ?sa ?sb A2.out).mono ?_);(case sa=>exact zC aX.out);(case sb=>exact ba.out);rintro e bM ⟨rfl,hb⟩;refine⟨_,rfl,?_⟩;replace HB:=aM (Zd zz128 hb);(try clear hb);(try clear bw);(try clear hk);(try clear hi)))
 go_ret2
 exact⟨_,by first|rfl|(simp[Zm,Zl]<;>rfl)|(simp[*,Zm,Zl]<;>rfl),by first|exact Kd.S_nil _ _ _ _ _|exact Kd.N_nil _ _ _ _ _|exact Kd.V_nil _ _ _ _ _|exact Kd.Q_nil _ _ _ _ _|exact Kd.R_nil _ _ _ _ _,by repeat(first|(with_reducible first|exact HB.out|apply Zh|apply Zg|apply Zj)|exact HB.out)⟩
mutual
def perm_Order.l0:Nat→Int→List (List Int)→Int→Int→Option (Int×Int)
 |0,_,_,_,_=>none
 |k+1,x6,x19,x20,x21=>if x21<x20 then(if 0≤x21 then(if x21<(x19.length:Int) then(perm_Order.l1 k x6 (Zo x19 x21) x6 ((Zo x19 x21).length:Int) x19 x20 x21) else(none)) else(none)) else(some (x6,0))
def perm_Order.l1:Nat→Int→List Int→Int→Int→List (List Int)→Int→Int→Option (Int×Int)
 |0,_,_,_,_,_,_,_=>none
 |k+1,x6,x8,x9,x10,x19,x20,x21=>if x10>0 then(if x10=0 then(none) else(perm_Order.l1 k x6 x8 x10 (Int.tmod x9 x10) x19 x20 x21)) else(if x9=0 then(none) else(perm_Order.l0 k (wrap64 ((wrap64 (Int.tdiv x6 x9))*(x8.length:Int))) x19 x20 (wrap64 (x21+1))))
end
def perm_Order.f (k:Nat) (l0:List Int):Option (Int×Int):=(perm_Cycles.f k l0).bind fun bt143=>(if bt143.2=0 then(perm_Order.l0 k 1 bt143.1 (bt143.1.length:Int) 0) else(some (0,bt143.2)))
theorem perm_Order.calls (k:Nat) (A0:Option Addr) (c0:Nat) (l0:List Int) (r1:Int) (r2:Int) (w:World) (aC:Kd.C (Kd.int .i64) w A0 l0.length l0) (aB:l0.length≤c0) (h:perm_Order.f k l0=some (r1,r2)):
    Calls Tryz.prog 17 #[.slice A0 l0.length c0] w fun e w'=>e= .returned (.tuple #[.int .i64 r1,.int .i64 r2])∧Below w.heap.size w w':=by
 have ae:=aM aC
 have ad:=aM aB
 clear aC aB
 have HB:=aM (Below.refl w.heap.size w)
 have H:((perm_Cycles.f k l0).bind fun P=>(if P.2=0 then(perm_Order.l0 k 1 P.1 (P.1.length:Int) 0) else(some (0,P.2))))=some (r1,r2):=h
 clear h
 replace H:=oB H
 obtain⟨⟨m,I⟩,au,H⟩:=H
 replace H:(if I=0 then(perm_Order.l0 k 1 m (m.length:Int) 0) else(some (0,I)))=some (r1,r2):=H
 have A2:=aM au
 clear au
 by_cases c3:I=0
 ·rw [if_pos c3] at H
  have af:=beq_iff_eq.mpr c3;have ag:=bne_eq_false_iff_eq.mpr c3;clear c3;have H':=aM H;clear H
  go_enter Tryz.func17,Tryz.ntmps17
  go_wp2_with (first|(go_at_call 16;(with_reducible refine(perm_Cycles.calls k _ _ l0 m I _ ?sa ?sb A2.out).mono ?_);(case sa=>exact zC ae.out);(case sb=>exact ad.out);rintro e w4 ⟨ab,rfl,ho0,hb⟩;have z:=aM (Kd.S_lower ho0 (Zc zz128));replace HB:=aM (Zd zz128 hb);(try clear hb);(try clear ai);(try clear hk);(try clear hi);(try clear ho0);obtain⟨aq,al,ah⟩:=Kd.S_slice z.out;subst ah))
  repeat(go_quiet (first|(go_at_call 16;(with_reducible refine(perm_Cycles.calls k _ _ l0 m I _ ?sa ?sb A2.out).mono ?_);(case sa=>exact zC ae.out);(case sb=>exact ad.out);rintro e w4 ⟨ab,rfl,ho0,hb⟩;have z:=aM (Kd.S_lower ho0 (Zc zz128));replace HB:=aM (Zd zz128 hb);(try clear hb);(try clear ai);(try clear hk);(try clear hi);(try clear ho0);obtain⟨aq,al,ah⟩:=Kd.S_slice z.out;subst ah));try go_wp2_with (first|(go_at_call 16;(with_reducible refine(perm_Cycles.calls k _ _ l0 m I _ ?sa ?sb A2.out).mono ?_);(case sa=>exact zC ae.out);(case sb=>exact ad.out);rintro e w4 ⟨ab,rfl,ho0,hb⟩;have z:=aM (Kd.S_lower ho0 (Zc zz128));replace HB:=aM (Zd zz128 hb);(try clear hb);(try clear ai);(try clear hk);(try clear hi);(try clear ho0);obtain⟨aq,al,ah⟩:=Kd.S_slice z.out;subst ah)))
  go_loopg [6,21] k (fun kq v6 aN w'=>∃(L:Int) (o:Int),v6= .int .i64 L∧aN= .int .i64 o∧Aside0 (perm_Order.l0 kq L m (m.length:Int) o=some (r1,r2))∧Aside0 (kq≤k)∧Aside0 (Kd.S (Kd.slice 3 (Kd.int .i64)) 32 w' w.heap.size (fun _=>True) (.slice aq m.length al) m)∧Aside0 (Below w.heap.size w w'))
  case atStart=>exact⟨(1),(0),zz157,zz157,H',⟨Nat.le_refl _⟩,⟨(zS z)⟩,⟨zz128⟩⟩
  case round =>
   clear H';(try clear c1);(try clear p2);(try clear c3);(try clear af);(try clear ag);obtain⟨L,o,rfl,rfl,HA,HK1,HO_19,HB⟩:=hrel
   cases gk with
   |zero=>exact absurd HA.out (by simp[perm_Order.l0])
   | succ k1=>
    have H:=HA.out;clear HA;simp only[perm_Order.l0] at H
    by_cases c6:o<(m.length:Int)
    ·rw [if_pos c6] at H;have ao:=dT c6;clear c6
     by_cases c7:0≤o
     ·rw [if_pos c7] at H;have ax:=dT c7;clear c7
      by_cases c8:o<(m.length:Int)
      ·rw [if_pos c8] at H;have ay:=dT c8;clear c8;have H':=aM H;clear H;have Z:0≤(o:Int):=oD zz156;have aa:o<(m.length:Int):=oD zz156;obtain⟨ar,aj,aF,aA,Y,X,U⟩:=ZY (Kd.S_reads' HO_19.out).2.2 o Z aa
       cases aA;obtain⟨aK,an,am,ac⟩:=Kd.S_get HO_19.out [] o Z (by first|exact aa|exact oD zz156|(have e_:=(Kd.S_reads' HO_19.out).1;omega));obtain⟨aD,rfl,J⟩:=am;have B:=ac 0 _ rfl;rw[Nat.add_zero,show((Kd.slice 3 (Kd.int .i64))).sz=1 from rfl,Nat.mul_one] at B;replace B:=oI (B.symm.trans Y);rw[B] at J;have aw:=aM (show Kd.R (Kd.int .i64) 3 _ _ _ _ (Zo m o) from J);clear B J;clear ac an;have HR147_0:=aM U;have av:=aM X;clear U X;replace Z:=eq_true Z;replace aa:=eq_true aa;go_wp2
       repeat(go_quiet (fail);try go_wp2)
       go_loopg [9,10] k1 (fun kq v9 aL w'=>∃(O:Int) (D:Int),v9= .int .i64 O∧aL= .int .i64 D∧Aside0 (perm_Order.l1 kq L (Zo m o) O D m (m.length:Int) o=some (r1,r2))∧Aside0 (kq≤k1)∧Aside0 (Kd.S (Kd.slice 3 (Kd.int .i64)) 32 w' w.heap.size (fun _=>True) (.slice (some ar) m.length al) m)∧Aside0 (Kd.C (Kd.int .i64) w' aj (Zo m o).length (Zo m o))∧Aside0 (Below w.heap.size w w'))
       case atStart=>exact⟨(L),(((Zo m o).length:Int)),zz157,zz157,H',⟨Nat.le_refl _⟩,⟨(zS HO_19)⟩,⟨zz87⟩,⟨zz128⟩⟩
       case round=>
        clear H';(try clear c1);(try clear p1);(try clear q1);(try clear aO);(try clear p2);(try clear c3);(try clear af);(try clear ag);(try clear c6);(try clear ao);(try clear c7);(try clear ax);(try clear c8);(try clear ay);(try clear Y);(try clear Z);(try clear p2);(try clear aa);obtain⟨O,D,rfl,rfl,HA,HK2,HO_19,HR147_0,HB⟩:=hrel
        cases gk with
        |zero=>exact absurd HA.out (by simp[perm_Order.l1])
        | succ k2=>
         have H:=HA.out;clear HA;simp only[perm_Order.l1] at H
         by_cases c9:D>0
         ·rw [if_pos c9] at H;have az:=dT c9;clear c9
          by_cases c10:D=0
          ·rw[if_pos c10] at H
           exact absurd H (by simp)
          rw[if_neg c10] at H;have aG:=beq_eq_false_iff_ne.mpr c10;have aH:=bne_iff_ne.mpr c10;have H':=aM H;clear H;go_wp2
          repeat(go_quiet (fail);try go_wp2)
          go_roundg k2
          case measure=>have:=HK1.out;have:=HK2.out;omega
          case rel=>exact⟨(D),(Int.tmod O D),zz157,zz157,H',⟨zz159⟩,⟨(zS HO_19)⟩,⟨zz87⟩,⟨zz128⟩⟩
         rw[if_neg c9] at H;have az:=dF c9;clear c9
         by_cases ak:O=0
         ·rw[if_pos ak] at H
          exact absurd H (by simp)
         rw[if_neg ak] at H;have aI:=beq_eq_false_iff_ne.mpr ak;have aJ:=bne_iff_ne.mpr ak;have H':=aM H;clear H;go_wp2
         repeat(go_quiet (fail);try go_wp2)
         go_roundg k2
         case measure=>have:=HK1.out;have:=HK2.out;omega
         case rel=>exact⟨(wrap64 ((wrap64 (Int.tdiv L O))*((Zo m o).length:Int))),(wrap64 (o+1)),zz157,zz157,H',⟨zz159⟩,⟨(zS HO_19)⟩,⟨zz128⟩⟩
      rw[if_neg c8] at H
      exact absurd H (by simp)
     rw[if_neg c7] at H
     exact absurd H (by simp)
    rw[if_neg c6] at H;have ao:=dF c6;clear c6;simp only[Option.some.injEq,Prod.mk.injEq] at H;obtain⟨rfl,rfl⟩:=H;go_wp2
    repeat(go_quiet (fail);try go_wp2)
    go_ret2
    exact⟨by first|rfl|(simp[Zm,Zl]<;>rfl)|(simp[*,Zm,Zl]<;>rfl),by repeat(first|(with_reducible first|exact HB.out|apply Zh|apply Zg|apply Zj)|exact HB.out)⟩
 rw[if_neg c3] at H
 have af:=beq_eq_false_iff_ne.mpr c3
 have ag:=bne_iff_ne.mpr c3
 simp only[Option.some.injEq,Prod.mk.injEq] at H
 obtain⟨rfl,rfl⟩:=H
 go_enter Tryz.func17,Tryz.ntmps17
 go_wp2_with (first|(go_at_call 16;(with_reducible refine(perm_Cycles.calls k _ _ l0 m I _ ?sa ?sb A2.out).mono ?_);(case sa=>exact zC ae.out);(case sb=>exact ad.out);rintro e aE ⟨ab,rfl,ho0,hb⟩;have z:=aM (Kd.S_lower ho0 (Zc zz128));replace HB:=aM (Zd zz128 hb);(try clear hb);(try clear ai);(try clear hk);(try clear hi);(try clear ho0)))
 repeat(go_quiet (first|(go_at_call 16;(with_reducible refine(perm_Cycles.calls k _ _ l0 m I _ ?sa ?sb A2.out).mono ?_);(case sa=>exact zC ae.out);(case sb=>exact ad.out);rintro e aE ⟨ab,rfl,ho0,hb⟩;have z:=aM (Kd.S_lower ho0 (Zc zz128));replace HB:=aM (Zd zz128 hb);(try clear hb);(try clear ai);(try clear hk);(try clear hi);(try clear ho0)));try go_wp2_with (first|(go_at_call 16;(with_reducible refine(perm_Cycles.calls k _ _ l0 m I _ ?sa ?sb A2.out).mono ?_);(case sa=>exact zC ae.out);(case sb=>exact ad.out);rintro e aE ⟨ab,rfl,ho0,hb⟩;have z:=aM (Kd.S_lower ho0 (Zc zz128));replace HB:=aM (Zd zz128 hb);(try clear hb);(try clear ai);(try clear hk);(try clear hi);(try clear ho0))))
 go_ret2
 exact⟨by first|rfl|(simp[Zm,Zl]<;>rfl)|(simp[*,Zm,Zl]<;>rfl),by repeat(first|(with_reducible first|exact HB.out|apply Zh|apply Zg|apply Zj)|exact HB.out)⟩
end
end Go.Proofs.YtjjlhbgpdncpcaaGreat.P
namespace Go.Proofs.YtjjlhbgpdncpcaaGreat.P.M
def run (n:Nat) (p:List Int) (x:Int) (t:Nat):List Int:=(List.range t).map (fun s=>ap (powL n p s) x)
theorem rdb_set {l:List Bool} {i:Int} (v:Bool) (h0:0≤i) (h1:i<(l.length:Int)) {j:Int} (k0:0≤j):rdOf false (l.set i.toNat v) j=if j=i then v else rdOf false l j:=by
 have hi:i.toNat<l.length:=by omega
 by_cases e:j=i
 ·subst e
  rw[if_pos rfl,rdOf,List.getD_eq_getElem?_getD,List.getElem?_set_self hi];rfl
 rw[if_neg e,rdOf,List.getD_eq_getElem?_getD,List.getElem?_set_ne (by omega),←List.getD_eq_getElem?_getD];rfl
theorem count_set:∀ {l:List Bool} {i:Nat},i<l.length→l.getD i false=false→(l.set i true).count true=l.count true+1
 | [],i,h,_=>by simp at h
 | b::l,0,h,e=>by
  have:b=false:=by simpa using e
  subst this;simp[List.count_cons]
 | b::l,i+1,h,e=>by
  have:=count_set (l:=l) (i:=i) (by simpa using h) (by simpa using e);simp only[sC,List.count_cons,this];omega
theorem rdb_lt {l:List Bool} {i:Int} (h0:0≤i) (h1:i<(l.length:Int)) (e:rdOf false l i=false):(l.set i.toNat true).count true=l.count true+1:=count_set (by omega) e
end Go.Proofs.YtjjlhbgpdncpcaaGreat.P.M
namespace Go.Proofs.YtjjlhbgpdncpcaaGreat.P
section
attribute [local go_sem] ZH ZF ZL ZK ZB ZA ZG ZE
def r30_group.f (k:Nat) (a0:Int) (l1:List (List Int)):Option (Int):=if a0<1 then(some 4) else(if a0>64 then(some 4) else((r30_all.f k a0 l1).bind fun t316=>(some t316)))
theorem r30_group.calls (k:Nat) (a0:Int) (A1:Option Addr) (c1:Nat) (l1:List (List Int)) (r:Int) (w:World) (I:Kd.C (Kd.slice 3 (Kd.int .i64)) w A1 l1.length l1) (D:l1.length≤c1) (h:r30_group.f k a0 l1=some r):
    Calls Tryz.prog 60 #[.int .i64 a0,.slice A1 l1.length c1] w fun e w'=>e= .returned (.int .i64 r)∧Drawn0 w w':=by
 have L:=aM I
 have J:=aM D
 clear I D
 have H:(if a0<1 then(some 4) else(if a0>64 then(some 4) else((r30_all.f k a0 l1).bind fun m=>(some m))))=some r:=h
 clear h
 by_cases c3:a0<1
 ·rw[if_pos c3] at H
  have z:=dT c3;clear c3;obtain rfl:=oI H
  go_enter Tryz.func60,Tryz.ntmps60
  go_wp2;go_ret
  exact⟨by first|rfl|(simp;done)|(simp[*];done),by repeat(first|exact Drawn0.refl _|apply Drawn0.step)⟩
 rw[if_neg c3] at H
 have z:=dF c3
 clear c3
 by_cases c4:a0>64
 ·rw[if_pos c4] at H
  have B:=dT c4;clear c4;obtain rfl:=oI H
  go_enter Tryz.func60,Tryz.ntmps60
  go_wp2;go_ret
  exact⟨by first|rfl|(simp;done)|(simp[*];done),by repeat(first|exact Drawn0.refl _|apply Drawn0.step)⟩
 rw[if_neg c4] at H
 have B:=dF c4
 clear c4
 replace H:=oB H
 obtain⟨m,o,H⟩:=H
 replace H:(some m)=some r:=H
 have A5:=aM o
 clear o
 obtain rfl:=oI H
 go_enter Tryz.func60,Tryz.ntmps60
 go_wp2_with (first|((with_reducible refine Zr (f:=86) rfl ?_);refine ZI (some 13) rfl rfl Tryz.func86 (by kernel_rfl) rfl #[.int .i64 a0,.slice A1 l1.length c1] rfl zz127 ?_;(with_reducible refine(r30_all.calls k a0 _ _ l1 m _ ?sa ?sb A5.out).mono ?_);(case sa=>exact zC L.out);(case sb=>exact J.out);rintro e w' ⟨rfl,⟨nd,rfl⟩⟩;refine⟨_,rfl,?_⟩))
 go_ret
 exact⟨by first|rfl|(simp;done)|(simp[*];done),by repeat(first|exact Drawn0.refl _|apply Drawn0.step)⟩
mutual
def r30_Of.l0:Nat→Int→List (List Int)→Int→Int→List (S56)→Option (Int×(List (S56)))
 |0,_,_,_,_,_=>none
 |k+1,x0,x1,x6,x320000,x320001=>if x6<x0 then(r30_Of.l1 k x0 x1 x6 x6 x320000 x320001 x6 ([]:List Int) ([]:List (List Int))) else(some (x320000,x320001))
def r30_Of.l1:Nat→Int→List (List Int)→Int→Int→Int→List (S56)→Int→List Int→List (List Int)→Option (Int×(List (S56)))
 |0,_,_,_,_,_,_,_,_,_=>none
 |k+1,x0,x1,x6,x8,x320000,x320001,x321000,x321001,x321002=>if x8<x0 then(r30_Of.l2 k x0 x1 x6 x8 0 x320000 x320001 x321000 x321001 x321002) else(if(x321001.length:Int)>1 then(if x320001.length<2513169434916 then(r30_Of.l0 k x0 x1 (wrap64 (x6+1)) x320000 (x320001++ [(⟨x321000,x321001,x321002⟩:S56)])) else(none)) else(r30_Of.l0 k x0 x1 (wrap64 (x6+1)) x320000 x320001))
def r30_Of.l2:Nat→Int→List (List Int)→Int→Int→Int→Int→List (S56)→Int→List Int→List (List Int)→Option (Int×(List (S56)))
 |0,_,_,_,_,_,_,_,_,_,_=>none
 |k+1,x0,x1,x6,x8,x9,x320000,x320001,x321000,x321001,x321002=>if x9<(x1.length:Int) then(if 0≤x9 then((r30_fixes.f k (Zo x1 x9) x6).bind fun t325=>(if t325=true then(if 0≤x6 then(if x6<((Zo x1 x9).length:Int) then(if(rd (Zo x1 x9) x6)=x8 then(if x321001.length<17592186044416 then(if x321002.length<5864062014805 then(r30_Of.l1 k x0 x1 x6 (wrap64 (x8+1)) x320000 x320001 x321000 (x321001++ [x8]) (x321002++ [Zo x1 x9])) else(none)) else(none)) else(r30_Of.l2 k x0 x1 x6 x8 (wrap64 (x9+1)) x320000 x320001 x321000 x321001 x321002)) else(none)) else(none)) else(r30_Of.l2 k x0 x1 x6 x8 (wrap64 (x9+1)) x320000 x320001 x321000 x321001 x321002))) else(none)) else(r30_Of.l1 k x0 x1 x6 (wrap64 (x8+1)) x320000 x320001 x321000 x321001 x321002)
end
def r30_Of.f (k:Nat) (a0:Int) (l1:List (List Int)):Option (Int×(List (S56))):=r30_Of.l0 k a0 l1 0 a0 ([]:List (S56))
def r30_Of.T14:Bool×List (List Nat×List Nat):=(true,[([],[]),([0],[0]),([],[]),([],[]),([2,3],[2,3]),([4],[4]),([5],[5]),([1,6],[1,6]),([0,1,2,3,4,5,6,7],[]),([8,7,7,0,1,2,3,4,5,6,7],[7,8])])
def r30_Of.B14:List Nat:= [0,1,0,0,12,28,60,127,255,511]
theorem r30_Of.tab14:rtab .any (opsOf Tryz.f61 14)=r30_Of.T14:=by kernel_rfl
theorem r30_Of.bits14:waitsOk r30_Of.T14.2 r30_Of.B14=true:=by kernel_rfl
theorem r30_Of.calls (k : Nat) (a0 : Int) (af:Nat→Prop) (A1:Option Addr) (c1:Nat) (l1:List (List Int)) (r1:Int) (r2:List (S56)) (w:World) (eo:Kd.V (Kd.slice 3 (Kd.int .i64)) 32 w w.heap.size (fun k_=>af k_) (.slice A1 l1.length c1) l1) (h:r30_Of.f k a0 l1=some (r1,r2)):
    Calls Tryz.prog 61 #[.int .i64 a0,.slice A1 l1.length c1] w fun e w'=>∃dQ:Value,e= .returned (.agg #[.int .i64 r1,dQ])∧Kd.N k56 56 w' w.heap.size (fun k_=>(af k_∨w.heap.size≤k_)) dQ r2∧Below w.heap.size w w':=by
 have eA:=Tryz.underlying24
 have eB:=Tryz.underlying56
 have bY:=aM (show Kd.V (Kd.slice 3 (Kd.int .i64)) 32 w w.heap.size (fun k_=>(af k_∨w.heap.size≤k_)) (.slice A1 l1.length c1) l1 from Kd.V_mono eo (fun k_ hk=> .inl hk))
 have HB:=aM (Below.refl w.heap.size w)
 have H:(r30_Of.l0 k a0 l1 0 a0 ([]:List (S56)))=some (r1,r2):=h
 clear h
 have H':=aM H
 clear H
 go_enter Tryz.func61,Tryz.ntmps61
 go_wp2_with (first|((with_reducible refine Zq (N:=4) rfl ?_);refine Zx ?hg (N:=4) ?hd (cs:= #[.int .i64 0,.slice none 0 0]) (t:=24) ?hr ?_;(case hd=>rfl);(case hg=>rfl);(case hr=>first|(go_simp;done)|(go_simp;rfl));intro J hg w3 hbox hb;replace bY:=aM (Kd.V_below (Kd.V_elderB (zV bY) J (Nat.le_of_eq hg.symm)) hb);have BK318:=aM (hbox);have dS:=aM ((by rw[hg];exact(Zc zz128):w.heap.size≤J));have GE318:=aM ((by rw[hg];exact(Zc zz128):w.heap.size≤J));replace HB:=aM (Zd zz128 hb);clear hb hbox hg)|((with_reducible refine Zq (N:=5) rfl ?_);refine Zx ?hg (N:=5) ?hd (cs:= #[.int .i64 0,.slice none 0 0]) (t:=24) ?hr ?_;(case hd=>rfl);(case hg=>rfl);(case hr=>first|(go_simp;done)|(go_simp;rfl));intro B hg w4 hbox hb;replace bY:=aM (Kd.V_below (Kd.V_elderB (zV bY) B (Nat.le_of_eq hg.symm)) hb);have BK319:=aM (hbox);have dU:=aM ((by rw[hg];exact(Zc zz94):w.heap.size≤B));have GE319:=aM ((by rw[hg];exact(Zc zz94):w.heap.size≤B));replace HB:=aM (Zd zz94 hb);have am:=aM ((by rw[hg];exact Nat.ne_of_lt (Zw (g:=J) (o:= .cells #[.int .i64 0,.slice none 0 0] 24 (0,0)) (zB BK318)):J≠B));have aI:=aM ((by rw[hg];exact Nat.ne_of_gt (Zw (g:=J) (o:= .cells #[.int .i64 0,.slice none 0 0] 24 (0,0)) (zB BK318)):B≠J));replace BK318:=aM (Zf (g:=J) (o:= .cells #[.int .i64 0,.slice none 0 0] 24 (0,0)) (zB BK318) hb);clear hb hbox hg;have eu:=aI.out;have ew:=am.out;have bk:w4.cell? ⟨B,0,none⟩=some (.int .i64 0):=(Za BK319.out 0).trans rfl;have bm:w4.cell? ⟨B,1,none⟩=some (.slice none 0 0):=(Za BK319.out 1).trans rfl;have bn:=Zb BK319.out 0;have bo:=Zb BK319.out 1))
 go_loopg [6] k (fun kq v6 w'=>∃(L:Int) (P:List (S56)) (z:Value),v6= .int .i64 L∧Aside0 (r30_Of.l0 kq a0 l1 L a0 P=some (r1,r2))∧Aside0 (kq≤k)∧Aside0 (Kd.V (Kd.slice 3 (Kd.int .i64)) 32 w' w.heap.size (fun k_=>(af k_∨w.heap.size≤k_)∧some k_≠(z:Value).ownBlock∧k_≠J∧k_≠B) (.slice A1 l1.length c1) l1)∧Aside0 (Kd.N k56 56 w' w.heap.size (fun k_=>(af k_∨w.heap.size≤k_)∧k_≠J∧k_≠B) z P)∧Aside0 (w'.heap[J]? =some (.cells #[.int .i64 0,(.slice none 0 0)] 24 (0,0)))∧Aside0 (w'.heap[B]? =some (.cells #[.int .i64 a0,z] 24 (0,0)))∧Aside0 (Below w.heap.size w w'))
 case atStart=>exact⟨(0),(([]:List (S56))),(.slice none 0 0),zz157,H',⟨Nat.le_refl _⟩,⟨by(with_reducible repeat(first|apply Kd.V_alloc|apply Kd.V_drewN|apply Kd.V_drew));exact Kd.V_mono (Kd.V_far (p:=⟨B,1,none⟩) (Kd.V_far (p:=⟨B,0,none⟩) (Kd.V_mono bY.out (fun k_ hk=>(⟨hk,hk.2⟩:_∧k_≠B))) (fun _ hk=>by first|exact hk.2|exact zN0) (.int .i64 a0)) (fun _ hk=>by first|exact hk.2|exact zN0) (.slice none 0 0)) (fun _ hk=>⟨hk.1.1.1,⟨zz169,⟨hk.1.1.2,hk.1.2⟩⟩⟩)⟩,⟨zz126⟩,⟨(by(with_reducible repeat(first|refine Zn ?_ _|refine Zp ?_|refine Zk ?_ _));refine ZD ?_ am.out _;(with_reducible repeat(first|refine Zn ?_ _|refine Zp ?_|refine Zk ?_ _));refine ZD ?_ am.out _;(with_reducible repeat(first|refine Zn ?_ _|refine Zp ?_|refine Zk ?_ _));exact BK318.out)⟩,⟨(by(with_reducible repeat(first|refine Zn ?_ _|refine Zp ?_|refine Zk ?_ _));refine Zz (cs:= #[.int .i64 a0,.slice none 0 0]) ?_ 1 _ rfl;(with_reducible repeat(first|refine Zn ?_ _|refine Zp ?_|refine Zk ?_ _));refine Zz (cs:= #[.int .i64 0,.slice none 0 0]) ?_ 0 _ rfl;(with_reducible repeat(first|refine Zn ?_ _|refine Zp ?_|refine Zk ?_ _));exact BK319.out)⟩,⟨zz74⟩⟩
 case round =>
  clear H';(try clear c1);(try clear p2);(try clear c5);(try clear c6);(try clear bk);(try clear bm);(try clear bn);(try clear bo);obtain⟨L,P,z,rfl,HA,HK1,HO_1,HO_320001,BK318,BK319,HB⟩:=hrel
  cases gk with
  |zero=>exact absurd HA.out (by simp[r30_Of.l0])
  | succ k1=>
   have H:=HA.out;clear HA;simp only[r30_Of.l0] at H
   by_cases c7:L<a0
   ·rw [if_pos c7] at H; have b3:=dT c7;clear c7;have H':=aM H;clear H
    go_wp2_with (first|((with_reducible refine Zq (N:=7) rfl ?_);refine Zx ?hg (N:=7) ?hd (cs:= #[.int .i64 0,.slice none 0 0,.slice none 0 0]) (t:=56) ?hr ?_;(case hd=>rfl);(case hg=>rfl);(case hr=>first|(go_simp;done)|(go_simp;rfl));intro m hg w8 hbox hb;replace HO_1:=aM (Kd.V_below (Kd.V_elderB (zV HO_1) m (Nat.le_of_eq hg.symm)) hb);replace HO_320001:=aM (Kd.N_below (Kd.N_elderB (zN HO_320001) m (Nat.le_of_eq hg.symm)) hb);have D:=aM (hbox);have dV:=aM ((by rw[hg];exact(Zc zz74):w.heap.size≤m));have GE320:=aM ((by rw[hg];exact(Zc zz74):w.heap.size≤m));replace HB:=aM (Zd zz74 hb);have NB318_320:=aM ((by rw[hg];exact Nat.ne_of_lt (Zw (g:=J) (o:= .cells #[.int .i64 0,.slice none 0 0] 24 (0,0)) (zB BK318)):J≠m));have ar:=aM ((by rw[hg];exact Nat.ne_of_gt (Zw (g:=J) (o:= .cells #[.int .i64 0,.slice none 0 0] 24 (0,0)) (zB BK318)):m≠J));replace BK318:=aM (Zf (g:=J) (o:= .cells #[.int .i64 0,.slice none 0 0] 24 (0,0)) (zB BK318) hb);have NB319_320:=aM ((by rw[hg];exact Nat.ne_of_lt (Zw (g:=B) (o:= .cells #[.int .i64 a0,z] 24 (0,0)) (zB BK319)):B≠m));have au:=aM ((by rw[hg];exact Nat.ne_of_gt (Zw (g:=B) (o:= .cells #[.int .i64 a0,z] 24 (0,0)) (zB BK319)):m≠B));replace BK319:=aM (Zf (g:=B) (o:= .cells #[.int .i64 a0,z] 24 (0,0)) (zB BK319) hb);clear hb hbox hg;have ev:=ar.out;have ey:=NB318_320.out;have d4:=au.out;have ee:=NB319_320.out;have bs:w8.cell? ⟨m,0,none⟩=some (.int .i64 0):=(Za D.out 0).trans rfl;have bu:w8.cell? ⟨m,1,none⟩=some (.slice none 0 0):=(Za D.out 1).trans rfl;have bv:w8.cell? ⟨m,2,none⟩=some (.slice none 0 0):=(Za D.out 2).trans rfl;have bw:=Zb D.out 0;have bx:=Zb D.out 1;have bz:=Zb D.out 2))
    go_loopg [8] k1 (fun kq v8 w'=>∃(aj:Int) (aa:List Int) (ad:List (List Int)) (U:Value) (I:Value),v8= .int .i64 aj∧Aside0 (r30_Of.l1 kq a0 l1 L aj a0 P L aa ad=some (r1,r2))∧Aside0 (kq≤k1)∧Aside0 (Kd.V (Kd.slice 3 (Kd.int .i64)) 32 w' w.heap.size (fun k_=>(af k_∨w.heap.size≤k_)∧some k_≠(z:Value).ownBlock∧some k_≠(U:Value).ownBlock∧some k_≠(I:Value).ownBlock∧k_≠J∧k_≠B∧k_≠m) (.slice A1 l1.length c1) l1)∧Aside0 (Kd.N k56 56 w' w.heap.size (fun k_=>(af k_∨w.heap.size≤k_)∧some k_≠(U:Value).ownBlock∧some k_≠(I:Value).ownBlock∧k_≠J∧k_≠B∧k_≠m) z P)∧Aside0 (Kd.R (Kd.int .i64) 3 w' w.heap.size (fun k_=>(w.heap.size≤k_)) U aa)∧Aside0 (Kd.N (Kd.slice 3 (Kd.int .i64)) 32 w' w.heap.size (fun k_=>(af k_∨w.heap.size≤k_)∧some k_≠(z:Value).ownBlock∧some k_≠(U:Value).ownBlock∧k_≠J∧k_≠B∧k_≠m) I ad)∧Aside0 (w'.heap[J]? =some (.cells #[.int .i64 0,(.slice none 0 0)] 24 (0,0)))∧Aside0 (w'.heap[B]? =some (.cells #[.int .i64 a0,z] 24 (0,0)))∧Aside0 (w'.heap[m]? =some (.cells #[.int .i64 L,U,I] 56 (0,0)))∧Aside0 (Below w.heap.size w w'))
    case atStart=>exact⟨(L),(([]:List Int)),(([]:List (List Int))),(.slice none 0 0),(.slice none 0 0),zz157,H',⟨Nat.le_refl _⟩,⟨by(with_reducible repeat(first|apply Kd.V_alloc|apply Kd.V_drewN|apply Kd.V_drew));exact Kd.V_mono (Kd.V_far (p:=⟨m,2,none⟩) (Kd.V_far (p:=⟨m,1,none⟩) (Kd.V_far (p:=⟨m,0,none⟩) (Kd.V_mono HO_1.out (fun k_ hk=>(⟨hk,hk.2⟩:_∧k_≠m))) (fun _ hk=>by first|exact hk.2|exact zN0) (.int .i64 L)) (fun _ hk=>by first|exact hk.2|exact zN0) (.slice none 0 0)) (fun _ hk=>by first|exact hk.2|exact zN0) (.slice none 0 0)) (fun _ hk=>⟨hk.1.1.1,⟨hk.1.1.2.1,⟨zz169,⟨zz169,⟨hk.1.1.2.2.1,⟨hk.1.1.2.2.2,hk.1.2⟩⟩⟩⟩⟩⟩)⟩,⟨by(with_reducible repeat(first|apply Kd.N_alloc|apply Kd.N_drewN|apply Kd.N_drew));exact Kd.N_mono (Kd.N_far (p:=⟨m,2,none⟩) (Kd.N_far (p:=⟨m,1,none⟩) (Kd.N_far (p:=⟨m,0,none⟩) (Kd.N_mono HO_320001.out (fun k_ hk=>(⟨hk,hk.2⟩:_∧k_≠m))) (fun _ hk=>by first|exact hk.2|exact zN0) (.int .i64 L)) (fun _ hk=>by first|exact hk.2|exact zN0) (.slice none 0 0)) (fun _ hk=>by first|exact hk.2|exact zN0) (.slice none 0 0)) (fun _ hk=>⟨hk.1.1.1,⟨zz169,⟨zz169,⟨hk.1.1.2.1,⟨hk.1.1.2.2,hk.1.2⟩⟩⟩⟩⟩)⟩,⟨zz126⟩,⟨zz125⟩,⟨(by(with_reducible repeat(first|refine Zn ?_ _|refine Zp ?_|refine Zk ?_ _));refine ZD ?_ NB318_320.out _;(with_reducible repeat(first|refine Zn ?_ _|refine Zp ?_|refine Zk ?_ _));refine ZD ?_ NB318_320.out _;(with_reducible repeat(first|refine Zn ?_ _|refine Zp ?_|refine Zk ?_ _));refine ZD ?_ NB318_320.out _;(with_reducible repeat(first|refine Zn ?_ _|refine Zp ?_|refine Zk ?_ _));exact BK318.out)⟩,⟨(by(with_reducible repeat(first|refine Zn ?_ _|refine Zp ?_|refine Zk ?_ _));refine ZD ?_ NB319_320.out _;(with_reducible repeat(first|refine Zn ?_ _|refine Zp ?_|refine Zk ?_ _));refine ZD ?_ NB319_320.out _;(with_reducible repeat(first|refine Zn ?_ _|refine Zp ?_|refine Zk ?_ _));refine ZD ?_ NB319_320.out _;(with_reducible repeat(first|refine Zn ?_ _|refine Zp ?_|refine Zk ?_ _));exact BK319.out)⟩,⟨(by(with_reducible repeat(first|refine Zn ?_ _|refine Zp ?_|refine Zk ?_ _));refine Zz (cs:= #[.int .i64 L,.slice none 0 0,.slice none 0 0]) ?_ 2 _ rfl;(with_reducible repeat(first|refine Zn ?_ _|refine Zp ?_|refine Zk ?_ _));refine Zz (cs:= #[.int .i64 L,.slice none 0 0,.slice none 0 0]) ?_ 1 _ rfl;(with_reducible repeat(first|refine Zn ?_ _|refine Zp ?_|refine Zk ?_ _));refine Zz (cs:= #[.int .i64 0,.slice none 0 0,.slice none 0 0]) ?_ 0 _ rfl;(with_reducible repeat(first|refine Zn ?_ _|refine Zp ?_|refine Zk ?_ _));exact D.out)⟩,⟨zz69⟩⟩
    case round =>
     clear H';(try clear c1);(try clear p2);(try clear c5);(try clear c6);(try clear c7);(try clear b3);(try clear c9);(try clear c10);(try clear bs);(try clear bu);(try clear bv);(try clear bk);(try clear bm);(try clear bw);(try clear bx);(try clear bz);(try clear bn);(try clear bo);(try clear p2);obtain⟨aj,aa,ad,U,I,rfl,HA,HK2,HO_1,HO_320001,HO_321001,HO_321002,BK318,BK319,D,HB⟩:=hrel
     cases gk with
     |zero=>exact absurd HA.out (by simp[r30_Of.l1])
     | succ k2=>
      have H:=HA.out;clear HA;simp only[r30_Of.l1] at H
      by_cases bI:aj<a0
      ·rw [if_pos bI] at H; have b2:=dT bI;clear bI;have H':=aM H;clear H;go_wp2
       go_loopg [9] k2 (fun kq v9 w'=>∃(O:Int) (Y:List Int) (X:List (List Int)) (U:Value) (I:Value),v9= .int .i64 O∧Aside0 (r30_Of.l2 kq a0 l1 L aj O a0 P L Y X=some (r1,r2))∧Aside0 (kq≤k2)∧Aside0 (Kd.V (Kd.slice 3 (Kd.int .i64)) 32 w' w.heap.size (fun k_=>(af k_∨w.heap.size≤k_)∧some k_≠(z:Value).ownBlock∧some k_≠(U:Value).ownBlock∧some k_≠(I:Value).ownBlock∧k_≠J∧k_≠B∧k_≠m) (.slice A1 l1.length c1) l1)∧Aside0 (Kd.N k56 56 w' w.heap.size (fun k_=>(af k_∨w.heap.size≤k_)∧some k_≠(U:Value).ownBlock∧some k_≠(I:Value).ownBlock∧k_≠J∧k_≠B∧k_≠m) z P)∧Aside0 (Kd.R (Kd.int .i64) 3 w' w.heap.size (fun k_=>(w.heap.size≤k_)) U Y)∧Aside0 (Kd.N (Kd.slice 3 (Kd.int .i64)) 32 w' w.heap.size (fun k_=>(af k_∨w.heap.size≤k_)∧some k_≠(z:Value).ownBlock∧some k_≠(U:Value).ownBlock∧k_≠J∧k_≠B∧k_≠m) I X)∧Aside0 (w'.heap[J]? =some (.cells #[.int .i64 0,(.slice none 0 0)] 24 (0,0)))∧Aside0 (w'.heap[B]? =some (.cells #[.int .i64 a0,z] 24 (0,0)))∧Aside0 (w'.heap[m]? =some (.cells #[.int .i64 L,U,I] 56 (0,0)))∧Aside0 (Below w.heap.size w w'))
       case atStart=>exact⟨(0),(aa),(ad),(U),(I),zz157,H',⟨Nat.le_refl _⟩,⟨(zV HO_1)⟩,⟨(zN HO_320001)⟩,⟨(zR HO_321001)⟩,⟨(zN HO_321002)⟩,⟨(zB BK318)⟩,⟨(zB BK319)⟩,⟨(zB D)⟩,⟨zz69⟩⟩
       case round =>
        clear H';(try clear c1);(try clear p2);(try clear c5);(try clear c6);(try clear c7);(try clear b3);(try clear c9);(try clear c10);(try clear bI);(try clear b2);(try clear bs);(try clear bu);(try clear bv);(try clear bk);(try clear bm);(try clear bw);(try clear bx);(try clear bz);(try clear bn);(try clear bo);(try clear p2);obtain⟨O,Y,X,U,I,rfl,HA,HK3,HO_1,HO_320001,HO_321001,HO_321002,BK318,BK319,D,HB⟩:=hrel
        cases gk with
        |zero=>exact absurd HA.out (by simp[r30_Of.l2])
        | succ k3=>
         have H:=HA.out;clear HA;simp only[r30_Of.l2] at H
         by_cases bU:O<(l1.length:Int)
         ·rw [if_pos bU] at H;have cD:=dT bU;clear bU
          by_cases cc:0≤O
          ·rw [if_pos cc] at H;have dW:=dT cc;clear cc;replace H:=oB H;obtain⟨cu,co,H⟩:=H;replace H:(if cu=true then(if 0≤L then(if L<((Zo l1 O).length:Int) then(if(rd (Zo l1 O) L)=aj then(if Y.length<17592186044416 then(if X.length<5864062014805 then(r30_Of.l1 k3 a0 l1 L (wrap64 (aj+1)) a0 P L (Y++ [aj]) (X++ [Zo l1 O])) else(none)) else(none)) else(r30_Of.l2 k3 a0 l1 L aj (wrap64 (O+1)) a0 P L Y X)) else(none)) else(none)) else(r30_Of.l2 k3 a0 l1 L aj (wrap64 (O+1)) a0 P L Y X))=some (r1,r2):=H;have cv:=aM co;clear co
           by_cases cd:cu=true
           ·subst cd; have H1:(if 0≤L then(if L<((Zo l1 O).length:Int) then(if(rd (Zo l1 O) L)=aj then(if Y.length<17592186044416 then(if X.length<5864062014805 then(r30_Of.l1 k3 a0 l1 L (wrap64 (aj+1)) a0 P L (Y++ [aj]) (X++ [Zo l1 O])) else(none)) else(none)) else(r30_Of.l2 k3 a0 l1 L aj (wrap64 (O+1)) a0 P L Y X)) else(none)) else(none))=some (r1,r2):=by rw[if_pos rfl] at H;exact H
            clear H;have H:=H1;clear H1
            by_cases ce:0≤L
            ·rw [if_pos ce] at H;have dX:=dT ce;clear ce
             by_cases cf:L<((Zo l1 O).length:Int)
             ·rw [if_pos cf] at H;have dY:=dT cf;clear cf
              by_cases bJ:(rd (Zo l1 O) L)=aj
              ·rw [if_pos bJ] at H;have cE:=beq_iff_eq.mpr bJ;have cF:=bne_eq_false_iff_eq.mpr bJ;clear bJ
               by_cases cg:Y.length<17592186044416
               ·rw [if_pos cg] at H;have cw:=aM cg;clear cg;obtain⟨Z,a9⟩:∃y_:List Int,y_=(Y++ [aj]):=⟨_,rfl⟩;replace H:(if X.length<5864062014805 then(r30_Of.l1 k3 a0 l1 L (wrap64 (aj+1)) a0 P L Z (X++ [Zo l1 O])) else(none))=some (r1,r2):=by first|(rw[a9];with_reducible exact H)|(have H2_:=(Option.bind_some _ _).symm.trans H;rw[a9];with_reducible exact H2_)|(have H2_:=(Option.bind_some _ _).symm.trans H;with_reducible exact H2_)|with_reducible exact H|(rw[a9];exact H)|exact H
                have cA:=aM a9;clear a9
                by_cases ci:X.length<5864062014805
                ·rw [if_pos ci] at H;have cx:=aM ci;clear ci;obtain⟨bh,ba⟩:∃y_:List (List Int),y_=(X++ [Zo l1 O]):=⟨_,rfl⟩;replace H:(r30_Of.l1 k3 a0 l1 L (wrap64 (aj+1)) a0 P L Z bh)=some (r1,r2):=by first|(rw[ba];with_reducible exact H)|(have H2_:=(Option.bind_some _ _).symm.trans H;rw[ba];with_reducible exact H2_)|(have H2_:=(Option.bind_some _ _).symm.trans H;with_reducible exact H2_)|with_reducible exact H|(rw[ba];exact H)|exact H
                 have cB:=aM ba;clear ba;have H':=aM H;clear H;have az:0≤(O:Int):=oD zz156;have q324:O<(l1.length:Int):=oD zz156;obtain⟨aC,ax,aq,br,ah,ao,an⟩:=ZY (Kd.V_reads' HO_1.out).2.2 O az q324
                 cases br;obtain⟨b4,aN,aJ,ay⟩:=Kd.V_get HO_1.out [] O az zz123;obtain⟨bC,bD,rfl,ai,ag⟩:=Kd.FK_slice_open aJ;have ae:=ay 0 _ rfl;rw[Nat.add_zero,show((Kd.slice 3 (Kd.int .i64))).sz=1 from rfl,Nat.mul_one] at ae;replace ae:=oI (ae.symm.trans ah);injection ae with hva_ hvn_ hvc_
                 rw[hva_] at ag;rw[hvc_] at ai;have HL324_0:=aM (show Kd.V (Kd.int .i64) 3 _ w.heap.size _ _ (Zo l1 O) from Kd.V_mk ai ag);clear hva_ hvn_ hvc_ ag ai;clear ay aN;have HR324_0:=aM an;have aD:=aM ao;clear an ao;replace az:=eq_true az;replace q324:=eq_true q324
                 try go_wp2_with (first|((with_reducible refine Zr (f:=87) rfl ?_);refine ZI (some 36) rfl rfl Tryz.func87 (by kernel_rfl) rfl #[.slice ax (Zo l1 O).length aq,.int .i64 L] rfl zz127 ?_;(with_reducible refine(r30_fixes.calls k3 _ _ (Zo l1 O) L true _ ?sa ?sb cv.out).mono ?_);(case sa=>repeat(first|exact zz88|(with_reducible refine Kd.C_alloc ?_ _)|(with_reducible refine Kd.C_drewN ?_ _)|(with_reducible refine Kd.C_drew ?_)));(case sb=>exact aD.out);rintro e w' ⟨rfl,⟨nd,rfl⟩⟩;refine⟨_,rfl,?_⟩;(try(rw[Yb wr];generalize hq_:World.drewN wr _=wr;have ah:World.cell? wr (aC.add (O).toNat)=some (.slice ax (Zo l1 O).length aq):=(by rw[←hq_];first|exact ah|(simp only[World.cell?_drewN];exact ah)|(go_simp;exact ah));have aU:Aside0 (Kd.V (Kd.int .i64) 3 wr w.heap.size (fun k_=>(af k_∨w.heap.size≤k_)∧some k_≠(z:Value).ownBlock∧some k_≠(U:Value).ownBlock∧some k_≠(I:Value).ownBlock∧k_≠J∧k_≠B∧k_≠m) (.slice ax (Zo l1 O).length aq) (Zo l1 O)):=⟨(by rw[←hq_];exact(zV HL324_0))⟩;have aV:Aside0 (Kd.V (Kd.slice 3 (Kd.int .i64)) 32 wr w.heap.size (fun k_=>(af k_∨w.heap.size≤k_)∧some k_≠(z:Value).ownBlock∧some k_≠(U:Value).ownBlock∧some k_≠(I:Value).ownBlock∧k_≠J∧k_≠B∧k_≠m) (.slice (some aC) l1.length c1) l1):=⟨(by rw[←hq_];exact(zV HO_1))⟩;have aW:Aside0 (Kd.N k56 56 wr w.heap.size (fun k_=>(af k_∨w.heap.size≤k_)∧some k_≠(U:Value).ownBlock∧some k_≠(I:Value).ownBlock∧k_≠J∧k_≠B∧k_≠m) z P):=⟨(by rw[←hq_];exact(zN HO_320001))⟩;have aX:Aside0 (Kd.R (Kd.int .i64) 3 wr w.heap.size (fun k_=>(w.heap.size≤k_)) U Y):=⟨(by rw[←hq_];exact(zR HO_321001))⟩;have aY:Aside0 (Kd.N (Kd.slice 3 (Kd.int .i64)) 32 wr w.heap.size (fun k_=>(af k_∨w.heap.size≤k_)∧some k_≠(z:Value).ownBlock∧some k_≠(U:Value).ownBlock∧k_≠J∧k_≠B∧k_≠m) I X):=⟨(by rw[←hq_];exact(zN HO_321002))⟩;have aZ:Aside0 (wr.heap[J]? =some (.cells #[.int .i64 0,.slice none 0 0] 24 (0,0))):=⟨(by rw[←hq_];exact(zB BK318))⟩;have a1:Aside0 (wr.heap[B]? =some (.cells #[.int .i64 a0,z] 24 (0,0))):=⟨(by rw[←hq_];exact(zB BK319))⟩;have a2:Aside0 (wr.heap[m]? =some (.cells #[.int .i64 L,U,I] 56 (0,0))):=⟨(by rw[←hq_];exact(zB D))⟩;have a3:Aside0 (Below w.heap.size w wr):=⟨(by rw[←hq_];exact zz69)⟩;have a4:Aside0 (Kd.C (Kd.int .i64) wr ax (Zo l1 O).length (Zo l1 O)):=⟨(by rw[←hq_];exact zz88)⟩;clear HL324_0 HO_1 HO_320001 HO_321001 HO_321002 BK318 BK319 D HB HR324_0 hq_;have HL324_0:=aU;have HO_1:=aV;have HO_320001:=aW;have HO_321001:=aX;have HO_321002:=aY;have BK318:=aZ;have BK319:=a1;have D:=a2;have HB:=a3;have HR324_0:=a4;clear aU aV aW aX aY aZ a1 a2 a3 a4));have aR:0≤(O:Int):=oD zz156;have q326:O<(l1.length:Int):=oD zz156;obtain⟨bF,cb,cj,b6,aH,aG,aE⟩:=ZY (Kd.V_reads' HO_1.out).2.2 O aR q326;obtain rfl:aC=bF:=(by injection b6);obtain⟨cI,bj,bi,aK⟩:=Kd.V_get HO_1.out [] O aR zz124;obtain⟨b9,ca,rfl,aw,av⟩:=Kd.FK_slice_open bi;have ak:=aK 0 _ rfl;rw[Nat.add_zero,show((Kd.slice 3 (Kd.int .i64))).sz=1 from rfl,Nat.mul_one] at ak;replace ak:=oI (ak.symm.trans aH);injection ak with hva_ hvn_ hvc_;rw[hva_] at av;rw[hvc_] at aw;have HL326_0:=aM (show Kd.V (Kd.int .i64) 3 _ w.heap.size _ _ (Zo l1 O) from Kd.V_mk aw av);clear hva_ hvn_ hvc_ av aw;clear aK bj;have HR326_0:=aM aE;have bX:=aM aG;clear aE aG;replace aR:=eq_true aR;replace q326:=eq_true q326;have ea_:=oI (ah.symm.trans aH);injection ea_ with ea_ en_ ec_;subst ea_;subst ec_;clear en_;have bb:0≤(L:Int):=oD zz156;have bc:L<((Zo l1 O).length:Int):=oD zz156;obtain⟨bH,b7,b8⟩:=Kd.at_int zz89 L bb bc;cases b7;replace bb:=eq_true bb;replace bc:=eq_true bc;have d5:=ar.out;have ef:=NB318_320.out;have d6:=au.out;have eg:=NB319_320.out;have cU:wr.cell? ⟨m,0,none⟩=some (.int .i64 L):=(Za D.out 0).trans rfl;have cV:wr.cell? ⟨m,1,none⟩=some (U):=(Za D.out 1).trans rfl;have cW:wr.cell? ⟨m,2,none⟩=some (I):=(Za D.out 2).trans rfl;have dn:=Zb D.out 0;have dp:=Zb D.out 1;have dq:=Zb D.out 2)|((with_reducible refine ZQ (b:= .append) (xs:= #[.tmp 49,.tmp 51]) rfl ?_);at_builtin;refine Kd.R_append (Kd.int .i64) (w0:=w) w.heap.size rfl (.tmp 49) (.tmp 51) 32 3 (.int .i64 0) 8 rfl Tryz.underlying32 info3 rfl (by decide) (by omega) U Y aj [.int .i64 aj] (fun k_=>(w.heap.size≤k_)) (fun _=>False) rfl rfl ?aP (fun _ hk=>hk.elim) ?aF ?aO ?aB ?aS ?aL ?_;(case aP=>exact rfl);(case aB=>exact zz69);(case aF=>exact(fun k_ hk=>(Nat.le_trans (Zc zz69) hk)));(case aO=>exact(zR HO_321001));(case aS=>exact(Zc zz69));(case aL=>have:=cw.out;omega);intro eD aT ho hb hg hat;rw[←cA.out] at ho;replace HO_1:=aM (Kd.V_afterv (ok:=(fun k_=>(af k_∨w.heap.size≤k_)∧some k_≠(z:Value).ownBlock∧some k_≠(I:Value).ownBlock∧k_≠J∧k_≠B∧k_≠m)) zz23 hg hat);replace HO_320001:=aM (Kd.N_afterv (ok:=(fun k_=>(af k_∨w.heap.size≤k_)∧some k_≠(I:Value).ownBlock∧k_≠J∧k_≠B∧k_≠m)) zz28 hg hat);replace HO_321002:=aM (Kd.N_afterv (ok:=(fun k_=>(af k_∨w.heap.size≤k_)∧some k_≠(z:Value).ownBlock∧k_≠J∧k_≠B∧k_≠m)) (by(with_reducible repeat(first|apply Kd.N_alloc|apply Kd.N_drewN|apply Kd.N_drew));exact Kd.N_mono HO_321002.out (fun _ hk=>by first|exact⟨⟨hk.1,⟨hk.2.1,⟨hk.2.2.2.1,⟨hk.2.2.2.2.1,hk.2.2.2.2.2⟩⟩⟩⟩,hk.2.2.1⟩|exact zN0)) hg hat);replace BK318:=aM (Z7 (g:=J) (o:= .cells #[.int .i64 0,.slice none 0 0] 24 (0,0)) (zB BK318) hg (Kd.R_ne HO_321001.out BK318.out (by decide)));replace BK319:=aM (Z7 (g:=B) (o:= .cells #[.int .i64 a0,z] 24 (0,0)) (zB BK319) hg (Kd.R_ne HO_321001.out BK319.out (by decide)));replace D:=aM (Z7 (g:=m) (o:= .cells #[.int .i64 L,U,I] 56 (0,0)) (zB D) hg (Kd.R_ne HO_321001.out D.out (by decide)));replace HL324_0:=aM (Kd.V_afterv (ok:=(fun k_=>(af k_∨w.heap.size≤k_)∧some k_≠(z:Value).ownBlock∧some k_≠(I:Value).ownBlock∧k_≠J∧k_≠B∧k_≠m)) zz21 hg hat);replace HL326_0:=aM (Kd.V_afterv (ok:=(fun k_=>(af k_∨w.heap.size≤k_)∧some k_≠(z:Value).ownBlock∧some k_≠(I:Value).ownBlock∧k_≠J∧k_≠B∧k_≠m)) zz22 hg hat);replace HB:=aM (hb);have al:=aM (ho);clear HO_321001;clear ho hb hg hat;obtain⟨ab,ac,cM⟩:=Kd.R_slice al.out;subst cM;have cX:aT.cell? ⟨m,0,none⟩=some (.int .i64 L):=(Za D.out 0).trans rfl;have cY:aT.cell? ⟨m,1,none⟩=some (U):=(Za D.out 1).trans rfl;have cZ:aT.cell? ⟨m,2,none⟩=some (I):=(Za D.out 2).trans rfl;have dr:=Zb D.out 0;have dt:=Zb D.out 1;have du:=Zb D.out 2))
                 have aU:Aside0 (Kd.V (Kd.slice 3 (Kd.int .i64)) 32 (aT.setCell ⟨m,1,none⟩ (.slice ab Z.length ac)) w.heap.size (fun k_=>(af k_∨w.heap.size≤k_)∧some k_≠(z:Value).ownBlock∧some k_≠(I:Value).ownBlock∧some k_≠(.slice ab Z.length ac:Value).ownBlock∧k_≠J∧k_≠B∧k_≠m) (.slice (some aC) l1.length c1) l1):=⟨by(with_reducible repeat(first|apply Kd.V_alloc|apply Kd.V_drewN|apply Kd.V_drew));exact Kd.V_mono (Kd.V_far (p:=⟨m,1,none⟩) (Kd.V_mono HO_1.out (fun k_ hk=>(⟨hk,hk.1.2.2.2.2.2⟩:_∧k_≠m))) (fun _ hk=>by first|exact hk.2|exact zN0) (.slice ab Z.length ac)) (fun _ hk=>by first|exact⟨hk.1.1.1,⟨hk.1.1.2.1,⟨hk.1.1.2.2.1,⟨hk.1.2,⟨hk.1.1.2.2.2.1,⟨hk.1.1.2.2.2.2.1,hk.1.1.2.2.2.2.2⟩⟩⟩⟩⟩⟩|exact zN0)⟩;have aV:Aside0 (Kd.N k56 56 (aT.setCell ⟨m,1,none⟩ (.slice ab Z.length ac)) w.heap.size (fun k_=>(af k_∨w.heap.size≤k_)∧some k_≠(I:Value).ownBlock∧some k_≠(.slice ab Z.length ac:Value).ownBlock∧k_≠J∧k_≠B∧k_≠m) z P):=⟨by(with_reducible repeat(first|apply Kd.N_alloc|apply Kd.N_drewN|apply Kd.N_drew));exact Kd.N_mono (Kd.N_far (p:=⟨m,1,none⟩) (Kd.N_mono HO_320001.out (fun k_ hk=>(⟨hk,hk.1.2.2.2.2⟩:_∧k_≠m))) (fun _ hk=>by first|exact hk.2|exact zN0) (.slice ab Z.length ac)) (fun _ hk=>by first|exact⟨hk.1.1.1,⟨hk.1.1.2.1,⟨hk.1.2,⟨hk.1.1.2.2.1,⟨hk.1.1.2.2.2.1,hk.1.1.2.2.2.2⟩⟩⟩⟩⟩|exact zN0)⟩;have aW:Aside0 (Kd.N (Kd.slice 3 (Kd.int .i64)) 32 (aT.setCell ⟨m,1,none⟩ (.slice ab Z.length ac)) w.heap.size (fun k_=>(af k_∨w.heap.size≤k_)∧some k_≠(z:Value).ownBlock∧some k_≠(.slice ab Z.length ac:Value).ownBlock∧k_≠J∧k_≠B∧k_≠m) I X):=⟨by(with_reducible repeat(first|apply Kd.N_alloc|apply Kd.N_drewN|apply Kd.N_drew));exact Kd.N_mono (Kd.N_far (p:=⟨m,1,none⟩) (Kd.N_mono HO_321002.out (fun k_ hk=>(⟨hk,hk.1.2.2.2.2⟩:_∧k_≠m))) (fun _ hk=>by first|exact hk.2|exact zN0) (.slice ab Z.length ac)) (fun _ hk=>by first|exact⟨hk.1.1.1,⟨hk.1.1.2.1,⟨hk.1.2,⟨hk.1.1.2.2.1,⟨hk.1.1.2.2.2.1,hk.1.1.2.2.2.2⟩⟩⟩⟩⟩|exact zN0)⟩;have aX:Aside0 (Kd.V (Kd.int .i64) 3 (aT.setCell ⟨m,1,none⟩ (.slice ab Z.length ac)) w.heap.size (fun k_=>(af k_∨w.heap.size≤k_)∧some k_≠(z:Value).ownBlock∧some k_≠(I:Value).ownBlock∧some k_≠(.slice ab Z.length ac:Value).ownBlock∧k_≠J∧k_≠B∧k_≠m) (.slice (some bH) (Zo l1 O).length aq) (Zo l1 O)):=⟨by(with_reducible repeat(first|apply Kd.V_alloc|apply Kd.V_drewN|apply Kd.V_drew));exact Kd.V_mono (Kd.V_far (p:=⟨m,1,none⟩) (Kd.V_mono HL324_0.out (fun k_ hk=>(⟨hk,hk.1.2.2.2.2.2⟩:_∧k_≠m))) (fun _ hk=>by first|exact hk.2|exact zN0) (.slice ab Z.length ac)) (fun _ hk=>by first|exact⟨hk.1.1.1,⟨hk.1.1.2.1,⟨hk.1.1.2.2.1,⟨hk.1.2,⟨hk.1.1.2.2.2.1,⟨hk.1.1.2.2.2.2.1,hk.1.1.2.2.2.2.2⟩⟩⟩⟩⟩⟩|exact zN0)⟩;have aY:Aside0 (Kd.V (Kd.int .i64) 3 (aT.setCell ⟨m,1,none⟩ (.slice ab Z.length ac)) w.heap.size (fun k_=>(af k_∨w.heap.size≤k_)∧some k_≠(z:Value).ownBlock∧some k_≠(I:Value).ownBlock∧some k_≠(.slice ab Z.length ac:Value).ownBlock∧k_≠J∧k_≠B∧k_≠m) (.slice (some bH) (Zo l1 O).length aq) (Zo l1 O)):=⟨by(with_reducible repeat(first|apply Kd.V_alloc|apply Kd.V_drewN|apply Kd.V_drew));exact Kd.V_mono (Kd.V_far (p:=⟨m,1,none⟩) (Kd.V_mono HL326_0.out (fun k_ hk=>(⟨hk,hk.1.2.2.2.2.2⟩:_∧k_≠m))) (fun _ hk=>by first|exact hk.2|exact zN0) (.slice ab Z.length ac)) (fun _ hk=>by first|exact⟨hk.1.1.1,⟨hk.1.1.2.1,⟨hk.1.1.2.2.1,⟨hk.1.2,⟨hk.1.1.2.2.2.1,⟨hk.1.1.2.2.2.2.1,hk.1.1.2.2.2.2.2⟩⟩⟩⟩⟩⟩|exact zN0)⟩;have aZ:Aside0 (Kd.R (Kd.int .i64) 3 (aT.setCell ⟨m,1,none⟩ (.slice ab Z.length ac)) w.heap.size (fun k_=>(w.heap.size≤k_)) (.slice ab Z.length ac) Z):=⟨(by(with_reducible repeat(first|apply Kd.R_alloc|apply Kd.R_drewN|apply Kd.R_drew));exact Kd.R_mono (Kd.R_far (p:=⟨m,1,none⟩) (Kd.R_types al.out D.out (by decide)) (fun _ hk=>by first|exact hk.2|exact zN0) (.slice ab Z.length ac)) (fun _ hk=>by first|exact hk.1|exact zN0))⟩;have a1:Aside0 ((aT.setCell ⟨m,1,none⟩ (.slice ab Z.length ac)).heap[J]? =some (.cells #[.int .i64 0,.slice none 0 0] 24 (0,0))):=⟨zz60⟩;have a2:Aside0 ((aT.setCell ⟨m,1,none⟩ (.slice ab Z.length ac)).heap[B]? =some (.cells #[.int .i64 a0,z] 24 (0,0))):=⟨zz61⟩;have a3:Aside0 ((aT.setCell ⟨m,1,none⟩ (.slice ab Z.length ac)).heap[m]? =some (.cells #[.int .i64 L,.slice ab Z.length ac,I] 56 (0,0))):=⟨(by(with_reducible repeat(first|refine Zn ?_ _|refine Zp ?_|refine Zk ?_ _));refine Zz (cs:= #[.int .i64 L,U,I]) ?_ 1 _ rfl;(with_reducible repeat(first|refine Zn ?_ _|refine Zp ?_|refine Zk ?_ _));exact D.out)⟩;have a4:Aside0 (Below w.heap.size w (aT.setCell ⟨m,1,none⟩ (.slice ab Z.length ac))):=⟨zz69⟩;(try clear HO_1);(try clear HO_320001);(try clear HO_321002);(try clear HL324_0);(try clear HL326_0);(try clear al);(try clear BK318);(try clear BK319);(try clear D);(try clear HB);generalize (aT.setCell ⟨m,1,none⟩ (.slice ab Z.length ac))=ep at aU aV aW aX aY aZ a1 a2 a3 a4⊢;have HO_1:=aU;have HO_320001:=aV;have HO_321002:=aW;have HL324_0:=aX;have HL326_0:=aY;have al:=aZ;have BK318:=a1;have BK319:=a2;have D:=a3;have HB:=a4;clear aU aV aW aX aY aZ a1 a2 a3 a4;have aU:=aM (Kd.V_drew HO_1.out);have aV:=aM (Kd.N_drew HO_320001.out);have aW:=aM (Kd.N_drew HO_321002.out);have aX:=aM (Kd.V_drew HL324_0.out);have aY:=aM (Kd.V_drew HL326_0.out);have aZ:=aM (Kd.R_drew al.out);have a1:=aM (Zp BK318.out);have a2:=aM (Zp BK319.out);have a3:=aM (Zp D.out);have a4:=aM (Zj HB.out);clear HO_1;clear HO_320001;clear HO_321002;clear HL324_0;clear HL326_0;clear al;clear BK318;clear BK319;clear D;clear HB;have HO_1:=aU;have HO_320001:=aV;have HO_321002:=aW;have HL324_0:=aX;have HL326_0:=aY;have al:=aZ;have BK318:=a1;have BK319:=a2;have D:=a3;have HB:=a4;clear aU aV aW aX aY aZ a1 a2 a3 a4;have bS:0≤(O:Int):=oD zz156;have bT:O<(l1.length:Int):=oD zz156;obtain⟨cC,bK,bN,cL,a7,bB,bA⟩:=ZY (Kd.V_reads' HO_1.out).2.2 O bS bT;obtain rfl:aC=cC:=(by injection cL);obtain⟨dZ,cm,cl,bQ⟩:=Kd.V_get HO_1.out [] O bS (by first|exact bT|exact oD zz156|(have e_:=(Kd.V_reads' HO_1.out).1;omega));obtain⟨dO,dP,rfl,bg,a6⟩:=Kd.FK_slice_open cl;have aQ:=bQ 0 _ rfl;rw[Nat.add_zero,show((Kd.slice 3 (Kd.int .i64))).sz=1 from rfl,Nat.mul_one] at aQ;replace aQ:=oI (aQ.symm.trans a7);injection aQ with hva_ hvn_ hvc_
                 rw[hva_] at a6;rw[hvc_] at bg;have aA:=aM (show Kd.V (Kd.int .i64) 3 _ w.heap.size _ _ (Zo l1 O) from Kd.V_mk bg a6);clear hva_ hvn_ hvc_ a6 bg;clear bQ cm;have b1:=aM bA;have cJ:=aM bB;clear bA bB;replace bS:=eq_true bS;replace bT:=eq_true bT
                 refine start_ (n:=10) (S:=fun w'=>w'.cell? ⟨m,0,none⟩=some (.int .i64 L)∧w'.cell? ⟨m,1,none⟩=some (.slice ab Z.length ac)∧w'.cell? ⟨m,2,none⟩=some (I)∧w'.cell? (aC.add (O).toNat)=some (.slice bK (Zo l1 O).length bN)) (ds:= [7,9]) #[false,false,false,false,false,false,false,false,false,false] (by kernel_rfl) rfl rfl ⟨(Za D.out 0).trans rfl,(Za D.out 1).trans rfl,(Za D.out 2).trans rfl,a7⟩ (fun hHeld=> ?_);refine Z8 r30_Of.tab14 r30_Of.bits14 (fun a5 cK=> ?_);generalize ep.drew=eF at HO_1 HO_320001 HO_321002 HL324_0 HL326_0 al BK318 BK319 D HB aA b1 a7 hHeld⊢
                 refine ZC (i:=0) (N:=some 54) (v:= ?_) (a':= ?_) #[true,false,false,false,false,false,false,false,false,false] rfl rfl (Zy a5.out (by kernel_rfl)) (fun _ _ _ h=>h) (Or.inl ⟨by rfl,?_⟩) ?_ ?_;rotate_left
                 ·intro w';go_simp;with_reducible rfl
                 rotate_left
                 ·simp only[Act.put,sA,sB,sC,Zt,Zu];rfl
                 refine ZC (i:=2) (N:=some 56) (v:= ?_) (a':= ?_) #[true,false,true,false,false,false,false,false,false,false] rfl rfl (Zy a5.out (by kernel_rfl)) (fun _ _ _ h=>h) (Or.inl ⟨by rfl,?_⟩) ?_ ?_;rotate_left
                 ·intro w';go_simp;with_reducible rfl
                 rotate_left
                 ·simp only[Act.put,sA,sB,sC,Zt,Zu];rfl
                 refine ZC (i:=3) (N:=some 57) (v:= ?_) (a':= ?_) #[true,false,true,true,false,false,false,false,false,false] rfl rfl (Zy a5.out (by kernel_rfl)) (fun _ _ _ h=>h) (Or.inl ⟨by rfl,?_⟩) ?_ ?_;rotate_left
                 ·intro w';go_simp;with_reducible rfl
                 rotate_left
                 ·simp only[Act.put,sA,sB,sC,Zt,Zu];rfl
                 refine ZC (i:=4) (N:=some 58) (v:= ?_) (a':= ?_) #[true,false,true,true,true,false,false,false,false,false] rfl rfl (Zy a5.out (by kernel_rfl)) (fun _ _ _ h=>h) (Or.inl ⟨by rfl,?_⟩) ?_ ?_;rotate_left
                 ·intro w';go_simp;with_reducible rfl
                 rotate_left
                 ·simp only[Act.put,sA,sB,sC,Zt,Zu];rfl
                 refine take_ (i:=1) (N:=some 55) (v:= ?_) (a':= ?_) #[true,true,true,true,true,false,false,false,false,false] rfl rfl (ZX a5.out cK.out (by kernel_rfl)) (fun _ _ _ h=>h) (Or.inl ⟨by rfl,?_⟩) hHeld ?_ ?_;rotate_left
                 ·rintro w' ⟨s0,s1,s2,s3⟩;go_simp;with_reducible rfl
                 rotate_left
                 ·simp only[Act.put,sA,sB,sC,Zt,Zu];rfl
                 refine take_ (i:=5) (N:=some 59) (v:= ?_) (a':= ?_) #[true,true,true,true,true,true,false,false,false,false] rfl rfl (ZX a5.out cK.out (by kernel_rfl)) (fun _ _ _ h=>h) (Or.inl ⟨by rfl,?_⟩) hHeld ?_ ?_;rotate_left
                 ·rintro w' ⟨s0,s1,s2,s3⟩;go_simp;with_reducible rfl
                 rotate_left
                 ·simp only[Act.put,sA,sB,sC,Zt,Zu];rfl
                 refine one_ (i:=6) (N:=some 60) #[true,true,true,true,true,true,true,false,false,false] rfl rfl (Z2 a5.out (by kernel_rfl)) (by decide) (fun K hK=> ?_)
                 refine value_ (w1:= ?_) (v:= ?_) (by rfl) rfl ?_ ?_;rotate_left 2
                 ·go_simp
                  constructor
                  ·rfl
                  ·rfl
                 refine hK.out _ _ ⟨(Za (Zk D.out _) 0).trans rfl,(Za (Zk D.out _) 1).trans rfl,(Za (Zk D.out _) 2).trans rfl,(World.cell?_alloc_lt _ _ _ (wB _ _ (hHeld.2.2.2))).trans (hHeld.2.2.2)⟩ (fun hHeld=> ?_);clear hK K
                 refine ZV (a':= ?_) ?_ ?_;rotate_left
                 ·show Act.put _ (some 60) _=_
                  simp only[Act.put,sA,sB,sC,Zt,Zu];rfl
                 refine last_ (i:=7) (N:=some 61) #[true,true,true,true,true,true,true,true,false,false] rfl rfl (Z2 a5.out (by kernel_rfl)) (by decide) (fun K hK=> ?_)
                 refine Kd.N_append_step (Kd.slice 3 (Kd.int .i64)) (w0:=w) w.heap.size (by rfl) (.tmp 55) (.tmp 60) 46 32 (.slice none 0 0) 24 rfl Tryz.underlying46 info32 rfl (by decide) (by omega) I X (Zo l1 O) [.slice bK (Zo l1 O).length bN] (fun k_=>(af k_∨w.heap.size≤k_)∧some k_≠(z:Value).ownBlock∧some k_≠(.slice ab Z.length ac:Value).ownBlock∧k_≠J∧k_≠B∧k_≠m) (fun k_=>((fun k_=>(af k_∨w.heap.size≤k_)∧some k_≠(z:Value).ownBlock∧some k_≠(.slice ab Z.length ac:Value).ownBlock∧k_≠J∧k_≠B∧k_≠m)) k_∧some k_≠(I:Value).ownBlock) rfl rfl ?aP (fun _ hk=>hk) ?aF ?aO ?aB ?aS ?aL ?_
                 (case aP=>exact(Kd.FK_slice_mk (Kd.V_reads' (Kd.V_mono (ok':=(fun k_=>((fun k_=>(af k_∨w.heap.size≤k_)∧some k_≠(z:Value).ownBlock∧some k_≠(.slice ab Z.length ac:Value).ownBlock∧k_≠J∧k_≠B∧k_≠m)) k_∧some k_≠(I:Value).ownBlock)) (aA.out) (fun k_ hk=>by first|exact⟨⟨hk.1,⟨hk.2.1,⟨hk.2.2.2.1,⟨hk.2.2.2.2.1,⟨hk.2.2.2.2.2.1,hk.2.2.2.2.2.2⟩⟩⟩⟩⟩,hk.2.2.1⟩|exact zN0))).2.1 (Kd.V_F (Kd.V_mono (ok':=(fun k_=>((fun k_=>(af k_∨w.heap.size≤k_)∧some k_≠(z:Value).ownBlock∧some k_≠(.slice ab Z.length ac:Value).ownBlock∧k_≠J∧k_≠B∧k_≠m)) k_∧some k_≠(I:Value).ownBlock)) (aA.out) (fun k_ hk=>by first|exact⟨⟨hk.1,⟨hk.2.1,⟨hk.2.2.2.1,⟨hk.2.2.2.2.1,⟨hk.2.2.2.2.2.1,hk.2.2.2.2.2.2⟩⟩⟩⟩⟩,hk.2.2.1⟩|exact zN0)))))
                 (case aB=>exact zz69)
                 (case aF=>exact(fun k_ hk=>⟨(.inr (Nat.le_trans (Zc zz69) hk)),Kd.fresh' (Kd.N_lt (zN HO_320001)) k_ hk,Kd.fresh' (Kd.R_lt (zR al)) k_ hk,Kd.freshB (g:=J) (o:= .cells #[.int .i64 0,.slice none 0 0] 24 (0,0)) (zB BK318) k_ hk,Kd.freshB (g:=B) (o:= .cells #[.int .i64 a0,z] 24 (0,0)) (zB BK319) k_ hk,Kd.freshB (g:=m) (o:= .cells #[.int .i64 L,.slice ab Z.length ac,I] 56 (0,0)) (zB D) k_ hk⟩))
                 (case aO=>exact(zN HO_321002))
                 (case aS=>exact(Zc zz69))
                 (case aL=>have:=cx.out;omega)
                 intro eE er ho hb hg hat;rw[←cB.out] at ho;have aU:=aM (Kd.V_afterv (ok:=(fun k_=>(af k_∨w.heap.size≤k_)∧some k_≠(z:Value).ownBlock∧some k_≠(.slice ab Z.length ac:Value).ownBlock∧k_≠J∧k_≠B∧k_≠m)) zz23 hg hat);have aV:=aM (Kd.N_afterv (ok:=(fun k_=>(af k_∨w.heap.size≤k_)∧some k_≠(.slice ab Z.length ac:Value).ownBlock∧k_≠J∧k_≠B∧k_≠m)) zz28 hg hat);have aW:=aM (Z7 (g:=J) (o:= .cells #[.int .i64 0,.slice none 0 0] 24 (0,0)) (zB BK318) hg (Kd.N_ne HO_321002.out BK318.out (by decide)));have aX:=aM (Z7 (g:=B) (o:= .cells #[.int .i64 a0,z] 24 (0,0)) (zB BK319) hg (Kd.N_ne HO_321002.out BK319.out (by decide)));have aY:=aM (Z7 (g:=m) (o:= .cells #[.int .i64 L,.slice ab Z.length ac,I] 56 (0,0)) (zB D) hg (Kd.N_ne HO_321002.out D.out (by decide)));have aZ:=aM (Kd.V_afterv (ok:=(fun k_=>(af k_∨w.heap.size≤k_)∧some k_≠(z:Value).ownBlock∧some k_≠(.slice ab Z.length ac:Value).ownBlock∧k_≠J∧k_≠B∧k_≠m)) zz21 hg hat);have a1:=aM (Kd.V_afterv (ok:=(fun k_=>(af k_∨w.heap.size≤k_)∧some k_≠(z:Value).ownBlock∧some k_≠(.slice ab Z.length ac:Value).ownBlock∧k_≠J∧k_≠B∧k_≠m)) zz22 hg hat);have a2:=aM (Kd.R_over' (zR al) (Kd.N_typed (zN HO_321002)) (by decide) hg);have a3:=aM (Kd.V_afterv (ok:=(fun k_=>(af k_∨w.heap.size≤k_)∧some k_≠(z:Value).ownBlock∧some k_≠(.slice ab Z.length ac:Value).ownBlock∧k_≠J∧k_≠B∧k_≠m)) (by(with_reducible repeat(first|apply Kd.V_alloc|apply Kd.V_drewN|apply Kd.V_drew));exact Kd.V_mono aA.out (fun _ hk=>by first|exact⟨⟨hk.1,⟨hk.2.1,⟨hk.2.2.2.1,⟨hk.2.2.2.2.1,⟨hk.2.2.2.2.2.1,hk.2.2.2.2.2.2⟩⟩⟩⟩⟩,hk.2.2.1⟩|exact zN0)) hg hat);have a4:=aM (hb);have ct:=aM (ho);clear HO_1;clear HO_320001;clear BK318;clear BK319;clear D;clear HL324_0;clear HL326_0;clear al;clear aA;clear HB;clear HO_321002;have HO_1:=aU;have HO_320001:=aV;have BK318:=aW;have BK319:=aX;have D:=aY;have HL324_0:=aZ;have HL326_0:=a1;have al:=a2;have aA:=a3;have HB:=a4;have b0:=ct;clear aU aV aW aX aY aZ a1 a2 a3 a4 ct;clear ho hb hg hat;obtain⟨bp,bq,cr⟩:=Kd.N_slice b0.out
                 (first|subst cr|(injection cr with cS d0 cT;have d1:=cS.symm;have d2:=cT.symm;clear cS d0 cT;subst d1;subst d2))
                 refine hK.out _ _ ?_;clear hK K
                 refine ZV (a':= ?_) ?_ ?_;rotate_left
                 ·show Act.put _ (some 61) _=_
                  simp only[Act.put,sA,sB,sC,Zt,Zu];rfl
                 refine ZC (i:=8) (N:=some 62) (v:= ?_) (a':= ?_) #[true,true,true,true,true,true,true,true,true,false] rfl rfl (Zy a5.out (by kernel_rfl)) (fun _ _ _ h=>h) (Or.inl ⟨by rfl,?_⟩) ?_ ?_;rotate_left
                 ·intro w';go_simp;with_reducible rfl
                 rotate_left
                 ·simp only[Act.put,sA,sB,sC,Zt,Zu];rfl
                 refine last_ (i:=9) (N:=none) #[true,true,true,true,true,true,true,true,true,true] rfl rfl (Z2 a5.out (by kernel_rfl)) (by decide) (fun K hK=> ?_);have ez:er.cell? ⟨m,2,none⟩=some (I):=(Za D.out 2).trans rfl;have d3:=Zb D.out 2;have dM:=NB318_320.out;have dN:=NB319_320.out;have dK:=ar.out;have dL:=au.out
                 refine skip_ (w1:= ?_) (by rfl) rfl ?_ ?_;rotate_left
                 ·go_simp;rfl
                 refine hK.out _ _ ?_;clear hK K
                 refine done_ (done_of a5.out (by kernel_rfl)) ?_
                 try go_wp2
                 go_roundg k3
                 case measure=>have:=HK1.out;have:=HK2.out;have:=HK3.out;omega
                 case rel=>exact⟨(wrap64 (aj+1)),(Z),(bh),(.slice ab Z.length ac),(.slice bp bh.length bq),zz157,H',⟨zz155⟩,⟨by(with_reducible repeat(first|apply Kd.V_alloc|apply Kd.V_drewN|apply Kd.V_drew));exact Kd.V_mono (Kd.V_far (p:=⟨m,2,none⟩) (Kd.V_mono HO_1.out (fun k_ hk=>(⟨hk,hk.1.2.2.2.2.2⟩:_∧k_≠m))) (fun _ hk=>by first|exact hk.2|exact zN0) (.slice bp bh.length bq)) (fun _ hk=>by first|exact⟨hk.1.1.1,⟨hk.1.1.2.1,⟨hk.1.1.2.2.1,⟨hk.1.2,⟨hk.1.1.2.2.2.1,⟨hk.1.1.2.2.2.2.1,hk.1.1.2.2.2.2.2⟩⟩⟩⟩⟩⟩|exact zN0)⟩,⟨by(with_reducible repeat(first|apply Kd.N_alloc|apply Kd.N_drewN|apply Kd.N_drew));exact Kd.N_mono (Kd.N_far (p:=⟨m,2,none⟩) (Kd.N_mono HO_320001.out (fun k_ hk=>(⟨hk,hk.1.2.2.2.2⟩:_∧k_≠m))) (fun _ hk=>by first|exact hk.2|exact zN0) (.slice bp bh.length bq)) (fun _ hk=>by first|exact⟨hk.1.1.1,⟨hk.1.1.2.1,⟨hk.1.2,⟨hk.1.1.2.2.1,⟨hk.1.1.2.2.2.1,hk.1.1.2.2.2.2⟩⟩⟩⟩⟩|exact zN0)⟩,⟨(by(with_reducible repeat(first|apply Kd.R_alloc|apply Kd.R_drewN|apply Kd.R_drew));exact Kd.R_mono (Kd.R_far (p:=⟨m,2,none⟩) (Kd.R_types al.out D.out (by decide)) (fun _ hk=>by first|exact hk.2|exact zN0) (.slice bp bh.length bq)) (fun _ hk=>by first|exact hk.1|exact zN0))⟩,⟨by(with_reducible repeat(first|apply Kd.N_alloc|apply Kd.N_drewN|apply Kd.N_drew));exact Kd.N_mono (Kd.N_far (p:=⟨m,2,none⟩) (Kd.N_mono b0.out (fun k_ hk=>(⟨hk,hk.2.2.2.2.2⟩:_∧k_≠m))) (fun _ hk=>by first|exact hk.2|exact zN0) (.slice bp bh.length bq)) (fun _ hk=>by first|exact⟨hk.1.1,⟨hk.1.2.1,⟨hk.1.2.2.1,⟨hk.1.2.2.2.1,⟨hk.1.2.2.2.2.1,hk.1.2.2.2.2.2⟩⟩⟩⟩⟩|exact zN0)⟩,⟨zz60⟩,⟨zz61⟩,⟨(by(with_reducible repeat(first|refine Zn ?_ _|refine Zp ?_|refine Zk ?_ _));refine Zz (cs:= #[.int .i64 L,.slice ab Z.length ac,I]) ?_ 2 _ rfl;(with_reducible repeat(first|refine Zn ?_ _|refine Zp ?_|refine Zk ?_ _));exact D.out)⟩,⟨zz69⟩⟩
                rw[if_neg ci] at H
                exact absurd H (by simp)
               rw[if_neg cg] at H
               exact absurd H (by simp)
              rw[if_neg bJ] at H;have cE:=beq_eq_false_iff_ne.mpr bJ;have cF:=bne_iff_ne.mpr bJ;have H':=aM H;clear H;have az:0≤(O:Int):=oD zz156;have q324:O<(l1.length:Int):=oD zz156;obtain⟨aC,ax,aq,br,ah,ao,an⟩:=ZY (Kd.V_reads' HO_1.out).2.2 O az q324
              cases br;obtain⟨b4,aN,aJ,ay⟩:=Kd.V_get HO_1.out [] O az zz123;obtain⟨bC,bD,rfl,ai,ag⟩:=Kd.FK_slice_open aJ;have ae:=ay 0 _ rfl;rw[Nat.add_zero,show((Kd.slice 3 (Kd.int .i64))).sz=1 from rfl,Nat.mul_one] at ae;replace ae:=oI (ae.symm.trans ah);injection ae with hva_ hvn_ hvc_
              rw[hva_] at ag;rw[hvc_] at ai;have HL324_0:=aM (show Kd.V (Kd.int .i64) 3 _ w.heap.size _ _ (Zo l1 O) from Kd.V_mk ai ag);clear hva_ hvn_ hvc_ ag ai;clear ay aN;have HR324_0:=aM an;have aD:=aM ao;clear an ao;replace az:=eq_true az;replace q324:=eq_true q324
              go_wp2_with (first|((with_reducible refine Zr (f:=87) rfl ?_);refine ZI (some 36) rfl rfl Tryz.func87 (by kernel_rfl) rfl #[.slice ax (Zo l1 O).length aq,.int .i64 L] rfl zz127 ?_;(with_reducible refine(r30_fixes.calls k3 _ _ (Zo l1 O) L true _ ?sa ?sb cv.out).mono ?_);(case sa=>repeat(first|exact zz88|(with_reducible refine Kd.C_alloc ?_ _)|(with_reducible refine Kd.C_drewN ?_ _)|(with_reducible refine Kd.C_drew ?_)));(case sb=>exact aD.out);rintro e w' ⟨rfl,⟨nd,rfl⟩⟩;refine⟨_,rfl,?_⟩;have aR:0≤(O:Int):=oD zz156;have q326:O<(l1.length:Int):=oD zz156;obtain⟨bF,cb,cj,b6,aH,aG,aE⟩:=ZY (Kd.V_reads' HO_1.out).2.2 O aR q326;obtain rfl:aC=bF:=(by injection b6);obtain⟨cI,bj,bi,aK⟩:=Kd.V_get HO_1.out [] O aR zz124;obtain⟨b9,ca,rfl,aw,av⟩:=Kd.FK_slice_open bi;have ak:=aK 0 _ rfl;rw[Nat.add_zero,show((Kd.slice 3 (Kd.int .i64))).sz=1 from rfl,Nat.mul_one] at ak;replace ak:=oI (ak.symm.trans aH);injection ak with hva_ hvn_ hvc_;rw[hva_] at av;rw[hvc_] at aw;have HL326_0:=aM (show Kd.V (Kd.int .i64) 3 _ w.heap.size _ _ (Zo l1 O) from Kd.V_mk aw av);clear hva_ hvn_ hvc_ av aw;clear aK bj;have HR326_0:=aM aE;have bX:=aM aG;clear aE aG;replace aR:=eq_true aR;replace q326:=eq_true q326;have ea_:=oI (ah.symm.trans aH);injection ea_ with ea_ en_ ec_;subst ea_;subst ec_;clear en_;have bb:0≤(L:Int):=oD zz156;have bc:L<((Zo l1 O).length:Int):=oD zz156;obtain⟨bH,b7,b8⟩:=Kd.at_int zz89 L bb bc;cases b7;replace bb:=eq_true bb;replace bc:=eq_true bc))
              go_roundg k3
              case measure=>have:=HK1.out;have:=HK2.out;have:=HK3.out;omega
              case rel=>exact⟨(wrap64 (O+1)),(Y),(X),(U),(I),zz157,H',⟨zz155⟩,⟨(zV HO_1)⟩,⟨(zN HO_320001)⟩,⟨(zR HO_321001)⟩,⟨(zN HO_321002)⟩,⟨(zB BK318)⟩,⟨(zB BK319)⟩,⟨(zB D)⟩,⟨zz69⟩⟩
             rw[if_neg cf] at H
             exact absurd H (by simp)
            rw[if_neg ce] at H
            exact absurd H (by simp)
           replace cd:=Bool.eq_false_iff.mpr cd;subst cd;have H1:(r30_Of.l2 k3 a0 l1 L aj (wrap64 (O+1)) a0 P L Y X)=some (r1,r2):=by rw[if_neg (show¬(false=true) by decide)] at H;exact H
           clear H;have H:=H1;clear H1;have H':=aM H;clear H;have az:0≤(O:Int):=oD zz156;have q324:O<(l1.length:Int):=oD zz156;obtain⟨aC,ax,aq,br,ah,ao,an⟩:=ZY (Kd.V_reads' HO_1.out).2.2 O az q324
           cases br;obtain⟨b4,aN,aJ,ay⟩:=Kd.V_get HO_1.out [] O az zz123;obtain⟨bC,bD,rfl,ai,ag⟩:=Kd.FK_slice_open aJ;have ae:=ay 0 _ rfl;rw[Nat.add_zero,show((Kd.slice 3 (Kd.int .i64))).sz=1 from rfl,Nat.mul_one] at ae;replace ae:=oI (ae.symm.trans ah);injection ae with hva_ hvn_ hvc_
           rw[hva_] at ag;rw[hvc_] at ai;have HL324_0:=aM (show Kd.V (Kd.int .i64) 3 _ w.heap.size _ _ (Zo l1 O) from Kd.V_mk ai ag);clear hva_ hvn_ hvc_ ag ai;clear ay aN;have HR324_0:=aM an;have aD:=aM ao;clear an ao;replace az:=eq_true az;replace q324:=eq_true q324
           go_wp2_with (first|((with_reducible refine Zr (f:=87) rfl ?_);refine ZI (some 36) rfl rfl Tryz.func87 (by kernel_rfl) rfl #[.slice ax (Zo l1 O).length aq,.int .i64 L] rfl zz127 ?_;(with_reducible refine(r30_fixes.calls k3 _ _ (Zo l1 O) L false _ ?sa ?sb cv.out).mono ?_);(case sa=>repeat(first|exact zz88|(with_reducible refine Kd.C_alloc ?_ _)|(with_reducible refine Kd.C_drewN ?_ _)|(with_reducible refine Kd.C_drew ?_)));(case sb=>exact aD.out);rintro e w' ⟨rfl,⟨nd,rfl⟩⟩;refine⟨_,rfl,?_⟩))
           go_roundg k3
           case measure=>have:=HK1.out;have:=HK2.out;have:=HK3.out;omega
           case rel=>exact⟨(wrap64 (O+1)),(Y),(X),(U),(I),zz157,H',⟨zz155⟩,⟨(zV HO_1)⟩,⟨(zN HO_320001)⟩,⟨(zR HO_321001)⟩,⟨(zN HO_321002)⟩,⟨(zB BK318)⟩,⟨(zB BK319)⟩,⟨(zB D)⟩,⟨zz69⟩⟩
          rw[if_neg cc] at H
          exact absurd H (by simp)
         rw[if_neg bU] at H;have cD:=dF bU;clear bU;have H':=aM H;clear H;go_wp2
         go_roundg k3
         case measure=>have:=HK1.out;have:=HK2.out;have:=HK3.out;omega
         case rel=>exact⟨(wrap64 (aj+1)),(Y),(X),(U),(I),zz157,H',⟨zz155⟩,⟨(zV HO_1)⟩,⟨(zN HO_320001)⟩,⟨(zR HO_321001)⟩,⟨(zN HO_321002)⟩,⟨(zB BK318)⟩,⟨(zB BK319)⟩,⟨(zB D)⟩,⟨zz69⟩⟩
      rw[if_neg bI] at H;have b2:=dF bI;clear bI
      by_cases bV:(aa.length:Int)>1
      ·rw [if_pos bV] at H;have cG:=dT bV;have cH:decide (1<aa.length)=true:=dT (by omega);clear bV
       by_cases ck:P.length<2513169434916
       ·rw[if_pos ck] at H;have cy:=aM ck;clear ck;obtain⟨bE,a8⟩:∃y_:List (S56),y_=(P++ [(⟨L,aa,ad⟩:S56)]):=⟨_,rfl⟩;replace H:(r30_Of.l0 k2 a0 l1 (wrap64 (L+1)) a0 bE)=some (r1,r2):=by first|(rw[a8];with_reducible exact H)|(have H2_:=(Option.bind_some _ _).symm.trans H;rw[a8];with_reducible exact H2_)|(have H2_:=(Option.bind_some _ _).symm.trans H;with_reducible exact H2_)|with_reducible exact H|(rw[a8];exact H)|exact H
        have cz:=aM a8;clear a8;have H':=aM H;clear H;have d7:=ar.out;have eh:=NB318_320.out;have d8:=au.out;have ei:=NB319_320.out;have c0:wr.cell? ⟨m,0,none⟩=some (.int .i64 L):=(Za D.out 0).trans rfl;have da:wr.cell? ⟨m,1,none⟩=some (U):=(Za D.out 1).trans rfl;have db:wr.cell? ⟨m,2,none⟩=some (I):=(Za D.out 2).trans rfl;have dv:=Zb D.out 0;have dw:=Zb D.out 1;have dx:=Zb D.out 2;obtain⟨bL,bO,cN⟩:=Kd.R_slice HO_321001.out;subst cN;have d9:=aI.out;have ej:=am.out;have dc:wr.cell? ⟨B,0,none⟩=some (.int .i64 a0):=(Za BK319.out 0).trans rfl;have dd:wr.cell? ⟨B,1,none⟩=some (z):=(Za BK319.out 1).trans rfl;have dy:=Zb BK319.out 0;have dz:=Zb BK319.out 1;obtain⟨bM,bP,cO⟩:=Kd.N_slice HO_321002.out;subst cO
        go_wp2_with (first|((with_reducible refine ZQ (b:= .append) (xs:= #[.tmp 68,.tmp 70]) rfl ?_);at_builtin;refine Kd.N_append k56 (w0:=w) w.heap.size rfl (.tmp 68) (.tmp 70) 22 56 (.agg #[(.int .i64 0),(.slice none 0 0),(.slice none 0 0)]) 56 rfl Tryz.underlying22 info56 rfl (by decide) (by omega) z P (⟨L,aa,ad⟩:S56) [.int .i64 L,.slice bL aa.length bO,.slice bM ad.length bP] (fun k_=>(af k_∨w.heap.size≤k_)∧k_≠J∧k_≠B∧k_≠m) (fun k_=>((fun k_=>(af k_∨w.heap.size≤k_)∧k_≠J∧k_≠B∧k_≠m)) k_∧some k_≠(z:Value).ownBlock) rfl rfl ?aP (fun _ hk=>hk) ?aF ?aO ?aB ?aS ?aL ?_;(case aP=>exact(k56_mkF _ _ (⟨L,aa,ad⟩:S56) (Kd.R_reads' (Kd.R_mono (ok':=(fun k_=>((fun k_=>(af k_∨w.heap.size≤k_)∧k_≠J∧k_≠B∧k_≠m)) k_∧some k_≠(z:Value).ownBlock)) (Kd.R_types (Kd.R_types (Kd.R_types (Kd.R_apart' (HO_321001.out) (Kd.N_typed HO_320001.out) (by decide)) BK318.out (by decide)) BK319.out (by decide)) D.out (by decide)) (fun k_ hk=>⟨⟨(.inr (hk.1.1.1.1)),⟨hk.1.1.2,⟨hk.1.2,hk.2⟩⟩⟩,hk.1.1.1.2⟩))).2.1 (Kd.R_F (Kd.R_mono (ok':=(fun k_=>((fun k_=>(af k_∨w.heap.size≤k_)∧k_≠J∧k_≠B∧k_≠m)) k_∧some k_≠(z:Value).ownBlock)) (Kd.R_types (Kd.R_types (Kd.R_types (Kd.R_apart' (HO_321001.out) (Kd.N_typed HO_320001.out) (by decide)) BK318.out (by decide)) BK319.out (by decide)) D.out (by decide)) (fun k_ hk=>⟨⟨(.inr (hk.1.1.1.1)),⟨hk.1.1.2,⟨hk.1.2,hk.2⟩⟩⟩,hk.1.1.1.2⟩))) (Kd.N_reads' (Kd.N_mono (ok':=(fun k_=>((fun k_=>(af k_∨w.heap.size≤k_)∧k_≠J∧k_≠B∧k_≠m)) k_∧some k_≠(z:Value).ownBlock)) (HO_321002.out) (fun k_ hk=>by first|exact⟨⟨hk.1,⟨hk.2.2.2.1,⟨hk.2.2.2.2.1,hk.2.2.2.2.2⟩⟩⟩,hk.2.1⟩|exact zN0))).2.1 (Kd.N_F (Kd.N_mono (ok':=(fun k_=>((fun k_=>(af k_∨w.heap.size≤k_)∧k_≠J∧k_≠B∧k_≠m)) k_∧some k_≠(z:Value).ownBlock)) (HO_321002.out) (fun k_ hk=>by first|exact⟨⟨hk.1,⟨hk.2.2.2.1,⟨hk.2.2.2.2.1,hk.2.2.2.2.2⟩⟩⟩,hk.2.1⟩|exact zN0)))));(case aB=>exact zz69);(case aF=>exact(fun k_ hk=>⟨(.inr (Nat.le_trans (Zc zz69) hk)),Kd.freshB (g:=J) (o:= .cells #[.int .i64 0,.slice none 0 0] 24 (0,0)) (zB BK318) k_ hk,Kd.freshB (g:=B) (o:= .cells #[.int .i64 a0,z] 24 (0,0)) (zB BK319) k_ hk,Kd.freshB (g:=m) (o:= .cells #[.int .i64 L,.slice bL aa.length bO,.slice bM ad.length bP] 56 (0,0)) (zB D) k_ hk⟩));(case aO=>exact(by(with_reducible repeat(first|apply Kd.N_alloc|apply Kd.N_drewN|apply Kd.N_drew));exact Kd.N_mono HO_320001.out (fun _ hk=>by first|exact⟨hk.1,⟨hk.2.2.2.1,⟨hk.2.2.2.2.1,hk.2.2.2.2.2⟩⟩⟩|exact zN0)));(case aS=>exact(Zc zz69));(case aL=>have:=cy.out;omega);intro eC dR ho hb hg hat;rw[←cz.out] at ho;replace HO_1:=aM (Kd.V_afterv (ok:=(fun k_=>(af k_∨w.heap.size≤k_)∧some k_≠(.slice bL aa.length bO:Value).ownBlock∧some k_≠(.slice bM ad.length bP:Value).ownBlock∧k_≠J∧k_≠B∧k_≠m)) (by(with_reducible repeat(first|apply Kd.V_alloc|apply Kd.V_drewN|apply Kd.V_drew));exact Kd.V_mono HO_1.out (fun _ hk=>by first|exact⟨⟨hk.1,⟨hk.2.2.1,⟨hk.2.2.2.1,⟨hk.2.2.2.2.1,⟨hk.2.2.2.2.2.1,hk.2.2.2.2.2.2⟩⟩⟩⟩⟩,hk.2.1⟩|exact zN0)) hg hat);replace BK318:=aM (Z7 (g:=J) (o:= .cells #[.int .i64 0,.slice none 0 0] 24 (0,0)) (zB BK318) hg (Kd.N_ne HO_320001.out BK318.out (by decide)));replace BK319:=aM (Z7 (g:=B) (o:= .cells #[.int .i64 a0,z] 24 (0,0)) (zB BK319) hg (Kd.N_ne HO_320001.out BK319.out (by decide)));replace D:=aM (Z7 (g:=m) (o:= .cells #[.int .i64 L,.slice bL aa.length bO,.slice bM ad.length bP] 56 (0,0)) (zB D) hg (Kd.N_away HO_320001.out (fun _ hk=>by first|exact hk.2.2.2.2.2|exact zN0)));replace HB:=aM (hb);have bZ:=aM (ho);clear HO_320001 HO_321001 HO_321002;clear ho hb hg hat;obtain⟨bW,b5,cP⟩:=Kd.N_slice bZ.out;subst cP;have de:dR.cell? ⟨B,0,none⟩=some (.int .i64 a0):=(Za BK319.out 0).trans rfl;have df:dR.cell? ⟨B,1,none⟩=some (z):=(Za BK319.out 1).trans rfl;have dA:=Zb BK319.out 0;have dB:=Zb BK319.out 1))
        go_roundg k2
        case measure=>have:=HK1.out;have:=HK2.out;omega
        case rel=>exact⟨(wrap64 (L+1)),(bE),(.slice bW bE.length b5),zz157,H',⟨zz159⟩,⟨by(with_reducible repeat(first|apply Kd.V_alloc|apply Kd.V_drewN|apply Kd.V_drew));exact Kd.V_mono (Kd.V_far (p:=⟨B,1,none⟩) (Kd.V_mono HO_1.out (fun k_ hk=>(⟨hk,hk.1.2.2.2.2.1⟩:_∧k_≠B))) (fun _ hk=>by first|exact hk.2|exact zN0) (.slice bW bE.length b5)) (fun _ hk=>by first|exact⟨hk.1.1.1,⟨hk.1.2,⟨hk.1.1.2.2.2.1,hk.1.1.2.2.2.2.1⟩⟩⟩|exact zN0)⟩,⟨by(with_reducible repeat(first|apply Kd.N_alloc|apply Kd.N_drewN|apply Kd.N_drew));exact Kd.N_mono (Kd.N_far (p:=⟨B,1,none⟩) (Kd.N_mono bZ.out (fun k_ hk=>(⟨hk,hk.2.2.1⟩:_∧k_≠B))) (fun _ hk=>by first|exact hk.2|exact zN0) (.slice bW bE.length b5)) (fun _ hk=>by first|exact⟨hk.1.1,⟨hk.1.2.1,hk.1.2.2.1⟩⟩|exact zN0)⟩,⟨(by(with_reducible repeat(first|refine Zn ?_ _|refine Zp ?_|refine Zk ?_ _));refine ZD ?_ am.out _;(with_reducible repeat(first|refine Zn ?_ _|refine Zp ?_|refine Zk ?_ _));exact BK318.out)⟩,⟨(by(with_reducible repeat(first|refine Zn ?_ _|refine Zp ?_|refine Zk ?_ _));refine Zz (cs:= #[.int .i64 a0,z]) ?_ 1 _ rfl;(with_reducible repeat(first|refine Zn ?_ _|refine Zp ?_|refine Zk ?_ _));exact BK319.out)⟩,⟨zz69⟩⟩
       rw[if_neg ck] at H
       exact absurd H (by simp)
      rw[if_neg bV] at H;have cG:=dF bV;have cH:decide (1<aa.length)=false:=dF (by omega);clear bV;have H':=aM H;clear H;have ea:=ar.out;have ek:=NB318_320.out;have eb:=au.out;have em:=NB319_320.out;have dg:wr.cell? ⟨m,0,none⟩=some (.int .i64 L):=(Za D.out 0).trans rfl;have dh:wr.cell? ⟨m,1,none⟩=some (U):=(Za D.out 1).trans rfl;have di:wr.cell? ⟨m,2,none⟩=some (I):=(Za D.out 2).trans rfl;have dC:=Zb D.out 0;have dD:=Zb D.out 1;have dE:=Zb D.out 2;obtain⟨es,et,cQ⟩:=Kd.R_slice HO_321001.out;subst cQ;go_wp2
      go_roundg k2
      case measure=>have:=HK1.out;have:=HK2.out;omega
      case rel=>exact⟨(wrap64 (L+1)),(P),(z),zz157,H',⟨zz159⟩,⟨(by(with_reducible repeat(first|apply Kd.V_alloc|apply Kd.V_drewN|apply Kd.V_drew));exact Kd.V_mono HO_1.out (fun _ hk=>by first|exact⟨hk.1,⟨hk.2.1,⟨hk.2.2.2.2.1,hk.2.2.2.2.2.1⟩⟩⟩|exact zN0))⟩,⟨(by(with_reducible repeat(first|apply Kd.N_alloc|apply Kd.N_drewN|apply Kd.N_drew));exact Kd.N_mono HO_320001.out (fun _ hk=>by first|exact⟨hk.1,⟨hk.2.2.2.1,hk.2.2.2.2.1⟩⟩|exact zN0))⟩,⟨(zB BK318)⟩,⟨(zB BK319)⟩,⟨zz69⟩⟩
   rw[if_neg c7] at H;have b3:=dF c7;clear c7;simp only[Option.some.injEq,Prod.mk.injEq] at H;obtain⟨rfl,rfl⟩:=H;have ed:=aI.out;have en:=am.out;have dj:wr.cell? ⟨B,0,none⟩=some (.int .i64 a0):=(Za BK319.out 0).trans rfl;have dk:wr.cell? ⟨B,1,none⟩=some (z):=(Za BK319.out 1).trans rfl;have dG:=Zb BK319.out 0;have dH:=Zb BK319.out 1;have dl:wr.cell? ⟨J,0,none⟩=some (.int .i64 0):=(Za BK318.out 0).trans rfl;have dm:wr.cell? ⟨J,1,none⟩=some (.slice none 0 0):=(Za BK318.out 1).trans rfl;have dI:=Zb BK318.out 0;have dJ:=Zb BK318.out 1;obtain⟨cp,cq,cR⟩:=Kd.N_slice HO_320001.out;subst cR;go_wp2
   refine bodyPost_ret (results_cell_row rfl _ _ J 24 #[.int .i64 a0,.slice cp P.length cq] (0,0) _ rfl (by(with_reducible repeat(first|refine Zn ?_ _|refine Zp ?_|refine Zk ?_ _));refine Zz (cs:= #[.int .i64 a0,.slice none 0 0]) ?_ 1 _ rfl;(with_reducible repeat(first|refine Zn ?_ _|refine Zp ?_|refine Zk ?_ _));refine Zz (cs:= #[.int .i64 0,.slice none 0 0]) ?_ 0 _ rfl;(with_reducible repeat(first|refine Zn ?_ _|refine Zp ?_|refine Zk ?_ _));exact BK318.out) Tryz.underlying24 rfl (by kernel_rfl)) rfl ?_
   exact⟨_,by first|rfl|(simp[Zm,Zl]<;>rfl)|(simp[*,Zm,Zl]<;>rfl),by(with_reducible repeat(first|apply Kd.N_alloc|apply Kd.N_drewN|apply Kd.N_drew));exact Kd.N_mono (Kd.N_far (p:=⟨J,1,none⟩) (Kd.N_far (p:=⟨J,0,none⟩) (Kd.N_mono HO_320001.out (fun k_ hk=>(⟨hk,hk.2.1⟩:_∧k_≠J))) (fun _ hk=>by first|exact hk.2|exact zN0) (.int .i64 a0)) (fun _ hk=>by first|exact hk.2|exact zN0) (.slice cp P.length cq)) (fun _ hk=>by first|exact hk.1.1|exact zN0),by repeat(first|(with_reducible first|exact HB.out|apply Zh|apply Zg|apply Zj|refine Zi ?_ GE318.out|refine Zi ?_ GE319.out)|exact HB.out)⟩
def r30_Build.f (k:Nat) (a0:Int) (l1:List (List Int)):Option (Int×(List (S56))×Int):=(r30_group.f k a0 l1).bind fun t351=>(if t351=0 then((r30_Group.f k a0 l1).bind fun t352=>((r30_Of.f k a0 t352).bind fun bt355=>(some (bt355.1,bt355.2,0)))) else(some (0,([]:List (S56)),t351)))
theorem r30_Build.calls (k:Nat) (a0:Int) (A1:Option Addr) (c1:Nat) (l1:List (List Int)) (r1:Int) (r2:List (S56)) (r3:Int) (w:World) (aw:Kd.C (Kd.slice 3 (Kd.int .i64)) w A1 l1.length l1) (ak:l1.length≤c1) (h:r30_Build.f k a0 l1=some (r1,r2,r3)):
    Calls Tryz.prog 37 #[.int .i64 a0,.slice A1 l1.length c1] w fun e w'=>∃ax:Value,e= .returned (.tuple #[.agg #[.int .i64 r1,ax],.int .i64 r3])∧Kd.N k56 56 w' w.heap.size (fun k_=>(w.heap.size≤k_)) ax r2∧Below w.heap.size w w':=by
 have aD:=Tryz.underlying24
 have ad:=aM aw
 have ac:=aM ak
 clear aw ak
 have HB:=aM (Below.refl w.heap.size w)
 have H:((r30_group.f k a0 l1).bind fun D=>(if D=0 then((r30_Group.f k a0 l1).bind fun I=>((r30_Of.f k a0 I).bind fun B=>(some (B.1,B.2,0)))) else(some (0,([]:List (S56)),D))))=some (r1,r2,r3):=h
 clear h
 replace H:=oB H
 obtain⟨D,ae,H⟩:=H
 replace H:(if D=0 then((r30_Group.f k a0 l1).bind fun I=>((r30_Of.f k a0 I).bind fun B=>(some (B.1,B.2,0)))) else(some (0,([]:List (S56)),D)))=some (r1,r2,r3):=H
 have A3:=aM ae
 clear ae
 by_cases c4:D=0
 ·rw[if_pos c4] at H
  have ah:=beq_iff_eq.mpr c4;have ai:=bne_eq_false_iff_eq.mpr c4;clear c4;replace H:=oB H;obtain⟨I,af,H⟩:=H;replace H:((r30_Of.f k a0 I).bind fun B=>(some (B.1,B.2,0)))=some (r1,r2,r3):=H;have A5:=aM af;clear af;replace H:=oB H;obtain⟨⟨L,P⟩,ag,H⟩:=H;replace H:(some (L,P,0))=some (r1,r2,r3):=H;have A6:=aM ag;clear ag;simp only[Option.some.injEq,Prod.mk.injEq] at H;obtain⟨rfl,rfl,rfl⟩:=H
  go_enter Tryz.func37,Tryz.ntmps37
  go_wp2_with (first|((with_reducible refine Zq (N:=4) rfl ?_);refine Zx ?hg (N:=4) ?hd (cs:= #[.int .i64 0,.slice none 0 0]) (t:=24) ?hr ?_;(case hd=>rfl);(case hg=>rfl);(case hr=>first|(go_simp;done)|(go_simp;rfl));intro z hg w7 hbox hb;have m:=aM (hbox);have ab:=aM ((by rw[hg];exact(Zc zz128):w.heap.size≤z));have GE350:=aM ((by rw[hg];exact(Zc zz128):w.heap.size≤z));replace HB:=aM (Zd zz128 hb);clear hb hbox hg)|((with_reducible refine Zr (f:=60) rfl ?_);refine ZI (some 9) rfl rfl Tryz.func60 (by kernel_rfl) rfl #[.int .i64 a0,.slice A1 l1.length c1] rfl zz127 ?_;(with_reducible refine(r30_group.calls k a0 _ _ l1 D _ ?sa ?sb A3.out).mono ?_);(case sa=>exact zC (Kd.C_below ad.out HB.out));(case sb=>exact ac.out);rintro e w' ⟨rfl,⟨nd,rfl⟩⟩;refine⟨_,rfl,?_⟩;(try(rw[Yb w7];generalize hq_:World.drewN w7 _=w7;have X:Aside0 (w7.heap[z]? =some (.cells #[.int .i64 0,.slice none 0 0] 24 (0,0))):=⟨(by rw[←hq_];exact(zB m))⟩;have Y:Aside0 (Below w.heap.size w w7):=⟨zz90⟩;clear m HB hq_;have m:=X;have HB:=Y;clear X Y)))|((with_reducible refine Zr (f:=62) rfl ?_);refine ZI (some 17) rfl rfl Tryz.func62 (by kernel_rfl) rfl #[.int .i64 a0,.slice A1 l1.length c1] rfl zz127 ?_;(with_reducible refine(r30_Group.calls k a0 _ _ l1 I _ ?sa ?sb A5.out).mono ?_);(case sa=>exact zC (Kd.C_below ad.out HB.out));(case sb=>exact ac.out);rintro e w8 ⟨aE,rfl,ho0,hb⟩;refine⟨_,rfl,?_⟩;have J:=aM (Kd.N_lower (Kd.N_mono (ok':=fun k_=>(w.heap.size≤k_)∧k_≠z) ho0 (fun k_ hk_=>⟨(Nat.le_trans (Zc zz95) hk_),(Kd.freshB (g:=z) (o:= .cells #[.int .i64 0,.slice none 0 0] 24 (0,0)) (zB m) k_ hk_)⟩)) (Zc zz95));replace m:=aM (Zf (g:=z) (o:= .cells #[.int .i64 0,.slice none 0 0] 24 (0,0)) (zB m) hb);replace HB:=aM (Zd zz95 hb);(try clear hb);(try clear aC);(try clear hk);(try clear hi);(try clear ho0);obtain⟨az,aA,aB⟩:=Kd.N_slice J.out;subst aB)|((with_reducible refine Zr (f:=61) rfl ?_);refine ZI (some 18) rfl rfl Tryz.func61 (by kernel_rfl) rfl #[.int .i64 a0,.slice az I.length aA] rfl zz127 ?_;(with_reducible refine(r30_Of.calls k a0 (fun k_=>((w.heap.size≤k_)∧k_≠z)) _ _ I L P _ ?sa A6.out).mono ?_);(case sa=>exact Kd.N_V (J.out));rintro e ay ⟨aF,rfl,ho0,hb⟩;refine⟨_,rfl,?_⟩;replace J:=aM (Kd.N_elder' (zN J) (Kd.N_base ho0) hb);have U:=aM (Kd.N_lower (Kd.N_mono (ok':=fun k_=>(w.heap.size≤k_)∧k_≠z) ho0 (fun k_ hk_=>⟨Or.elim hk_ (fun hs_=>hs_.1) (fun hn_=>(Nat.le_trans (Zc zz95) hn_)),Or.elim hk_ (fun hs_=>hs_.2) (fun hn_=>(Kd.freshB (g:=z) (o:= .cells #[.int .i64 0,.slice none 0 0] 24 (0,0)) (zB m) k_ hn_))⟩)) (Zc zz95));replace m:=aM (Zf (g:=z) (o:= .cells #[.int .i64 0,.slice none 0 0] 24 (0,0)) (zB m) hb);replace HB:=aM (Zd zz95 hb);(try clear hb);(try clear aC);(try clear hk);(try clear hi);(try clear ho0);have al:ay.cell? ⟨z,0,none⟩=some (.int .i64 0):=(Za m.out 0).trans rfl;have am:ay.cell? ⟨z,1,none⟩=some (.slice none 0 0):=(Za m.out 1).trans rfl;have aq:=Zb m.out 0;have ar:=Zb m.out 1;obtain⟨Z,aa,aj⟩:=Kd.N_slice U.out;subst aj))
  refine bodyPost_ret (results_ct rfl _ _ z 24 #[.int .i64 L,.slice Z P.length aa] (0,0) _ rfl (by(with_reducible repeat(first|refine Zn ?_ _|refine Zp ?_|refine Zk ?_ _));refine Zz (cs:= #[.int .i64 L,.slice none 0 0]) ?_ 1 _ rfl;(with_reducible repeat(first|refine Zn ?_ _|refine Zp ?_|refine Zk ?_ _));refine Zz (cs:= #[.int .i64 0,.slice none 0 0]) ?_ 0 _ rfl;(with_reducible repeat(first|refine Zn ?_ _|refine Zp ?_|refine Zk ?_ _));exact m.out) Tryz.underlying24 rfl (by kernel_rfl)) rfl ?_
  exact⟨_,by first|rfl|(simp[Zm,Zl]<;>rfl)|(simp[*,Zm,Zl]<;>rfl),by(with_reducible repeat(first|apply Kd.N_alloc|apply Kd.N_drewN|apply Kd.N_drew));exact Kd.N_mono (Kd.N_far (p:=⟨z,1,none⟩) (Kd.N_far (p:=⟨z,0,none⟩) (Kd.N_mono U.out (fun k_ hk=>(⟨hk,hk.2⟩:_∧k_≠z))) (fun _ hk=>hk.2) (.int .i64 L)) (fun _ hk=>hk.2) (.slice Z P.length aa)) (fun _ hk=>hk.1.1),by repeat(first|(with_reducible first|exact HB.out|apply Zh|apply Zg|apply Zj|refine Zi ?_ GE350.out)|exact HB.out)⟩
 rw[if_neg c4] at H
 have ah:=beq_eq_false_iff_ne.mpr c4
 have ai:=bne_iff_ne.mpr c4
 simp only[Option.some.injEq,Prod.mk.injEq] at H
 obtain⟨rfl,rfl,rfl⟩:=H
 go_enter Tryz.func37,Tryz.ntmps37
 go_wp2_with (first|((with_reducible refine Zq (N:=4) rfl ?_);refine Zx ?hg (N:=4) ?hd (cs:= #[.int .i64 0,.slice none 0 0]) (t:=24) ?hr ?_;(case hd=>rfl);(case hg=>rfl);(case hr=>first|(go_simp;done)|(go_simp;rfl));intro z hg O hbox hb;have m:=aM (hbox);have ab:=aM ((by rw[hg];exact(Zc zz128):w.heap.size≤z));have GE350:=aM ((by rw[hg];exact(Zc zz128):w.heap.size≤z));replace HB:=aM (Zd zz128 hb);clear hb hbox hg)|((with_reducible refine Zr (f:=60) rfl ?_);refine ZI (some 9) rfl rfl Tryz.func60 (by kernel_rfl) rfl #[.int .i64 a0,.slice A1 l1.length c1] rfl zz127 ?_;(with_reducible refine(r30_group.calls k a0 _ _ l1 D _ ?sa ?sb A3.out).mono ?_);(case sa=>exact zC (Kd.C_below ad.out HB.out));(case sb=>exact ac.out);rintro e w' ⟨rfl,⟨nd,rfl⟩⟩;refine⟨_,rfl,?_⟩;(try(rw[Yb O];generalize hq_:World.drewN O _=O;have X:Aside0 (O.heap[z]? =some (.cells #[.int .i64 0,.slice none 0 0] 24 (0,0))):=⟨(by rw[←hq_];exact(zB m))⟩;have Y:Aside0 (Below w.heap.size w O):=⟨zz90⟩;clear m HB hq_;have m:=X;have HB:=Y;clear X Y));have an:O.cell? ⟨z,0,none⟩=some (.int .i64 0):=(Za m.out 0).trans rfl;have ao:O.cell? ⟨z,1,none⟩=some (.slice none 0 0):=(Za m.out 1).trans rfl;have au:=Zb m.out 0;have av:=Zb m.out 1))
 refine bodyPost_ret (results_ct rfl _ _ z 24 #[.int .i64 0,.slice none 0 0] (0,0) _ rfl (by(with_reducible repeat(first|refine Zn ?_ _|refine Zp ?_|refine Zk ?_ _));refine Zz (cs:= #[.int .i64 0,.slice none 0 0]) ?_ 1 _ rfl;(with_reducible repeat(first|refine Zn ?_ _|refine Zp ?_|refine Zk ?_ _));refine Zz (cs:= #[.int .i64 0,.slice none 0 0]) ?_ 0 _ rfl;(with_reducible repeat(first|refine Zn ?_ _|refine Zp ?_|refine Zk ?_ _));exact m.out) Tryz.underlying24 rfl (by kernel_rfl)) rfl ?_
 exact⟨_,by first|rfl|(simp[Zm,Zl]<;>rfl)|(simp[*,Zm,Zl]<;>rfl),by first|exact Kd.R_nil _ _ _ _ _|exact Kd.N_nil _ _ _ _ _|exact Kd.V_nil _ _ _ _ _|exact Kd.Q_nil _ _ _ _ _|exact Kd.S_nil _ _ _ _ _,by repeat(first|(with_reducible first|exact HB.out|apply Zh|apply Zg|apply Zj|refine Zi ?_ GE350.out)|exact HB.out)⟩
mutual
def r30_Same.j0:Nat→Bool→Int→List (S56)→Int→List (S56)→Option (Bool)
 |0,_,_,_,_,_=>none
 |k+1,x21,x289000,x289001,x290000,x290001=>if x21=true then(some false) else(r30_Same.l0 k 0 x289000 x289001 x290000 x290001)
def r30_Same.l0:Nat→Int→Int→List (S56)→Int→List (S56)→Option (Bool)
 |0,_,_,_,_,_=>none
 |k+1,x5,x289000,x289001,x290000,x290001=>if x5<(x289001.length:Int) then(if 0≤x5 then(if x5<(x290001.length:Int) then(if((Ze x289001 x5).f0)=((Ze x290001 x5).f0) then((r09_SameInts.f k ((Ze x289001 x5).f1) ((Ze x290001 x5).f1)).bind fun t294=>(if t294=true then((r09_SameRows.f k ((Ze x289001 x5).f2) ((Ze x290001 x5).f2)).bind fun t295=>(r30_Same.j2 k x5 (!t295) x289000 x289001 x290000 x290001)) else(r30_Same.j2 k x5 true x289000 x289001 x290000 x290001))) else(r30_Same.j2 k x5 true x289000 x289001 x290000 x290001)) else(none)) else(none)) else(some true)
def r30_Same.j2:Nat→Int→Bool→Int→List (S56)→Int→List (S56)→Option (Bool)
 |0,_,_,_,_,_,_=>none
 |k+1,x5,x59,x289000,x289001,x290000,x290001=>if x59=true then(some false) else(r30_Same.l0 k (wrap64 (x5+1)) x289000 x289001 x290000 x290001)
end
def r30_Same.f (k:Nat) (a0_0:Int) (l0_1:List (S56)) (a1_0:Int) (l1_1:List (S56)):Option (Bool):=if a0_0=a1_0 then(r30_Same.j0 k ((l0_1.length:Int) !=(l1_1.length:Int)) a0_0 l0_1 a1_0 l1_1) else(r30_Same.j0 k true a0_0 l0_1 a1_0 l1_1)
def r30_Same.T6:Bool×List (List Nat×List Nat):=(true,[([],[]),([0],[0]),([],[]),([1,2],[1,2]),([3],[3]),([],[]),([5],[5]),([],[]),([6,7],[6,7]),([8],[8]),([],[]),([],[]),([10,4,0,1,2,3,4,10,11],[4,10]),([11,9,12,0,1,2,3,4,5,6,7,8,9,10,11,12],[9,11])])
def r30_Same.B6:List Nat:= [0,1,0,7,15,0,32,0,224,480,0,0,3103,8191]
theorem r30_Same.tab6:rtab .any (opsOf Tryz.f25 6)=r30_Same.T6:=by kernel_rfl
theorem r30_Same.bits6:waitsOk r30_Same.T6.2 r30_Same.B6=true:=by kernel_rfl
theorem r30_Same.calls (k:Nat) (L:Int) (ak:Option Addr) (P:Nat) (l0_1:List (S56)) (O:Int) (aJ:Option Addr) (ab:Nat) (l1_1:List (S56)) (r:Bool) (w:World) (cm:Kd.C k56 w ak l0_1.length l0_1) (bD:l0_1.length≤P) (co:Kd.C k56 w aJ l1_1.length l1_1) (bE:l1_1.length≤ab) (h:r30_Same.f k L l0_1 O l1_1=some r):
    Calls Tryz.prog 25 #[.agg #[.int .i64 L,.slice ak l0_1.length P],.agg #[.int .i64 O,.slice aJ l1_1.length ab]] w fun e w'=>e= .returned (.bool r)∧Below w.heap.size w w':=by
 have eU:=Tryz.underlying24
 have eV:=Tryz.underlying56
 have cN:=aM cm
 have dW:=aM bD
 clear cm bD
 have cO:=aM co
 have dX:=aM bE
 clear co bE
 have HB:=aM (Below.refl w.heap.size w)
 have H:(if L=O then(r30_Same.j0 k ((l0_1.length:Int) !=(l1_1.length:Int)) L l0_1 O l1_1) else(r30_Same.j0 k true L l0_1 O l1_1))=some r:=h
 clear h
 have cM:=aM H
 clear H
 go_enter Tryz.func25,Tryz.ntmps25
 go_upto_region 1 with(first|((with_reducible refine Zq (N:=2) rfl ?_);(try(refine Zv (by rfl) ?_;dsimp only));refine Zx ?hg (N:=2) ?hd (cs:= #[.int .i64 L,.slice ak l0_1.length P]) (t:=24) ?hr ?_;(case hd=>rfl);(case hg=>rfl);(case hr=>first|(go_simp;done)|(go_simp;rfl));intro B hg w4 hbox hb;have BK288:=aM (hbox);have dU:=aM ((by rw[hg];exact(Zc zz128):w.heap.size≤B));have GE288:=aM ((by rw[hg];exact(Zc zz128):w.heap.size≤B));replace HB:=aM (Zd zz128 hb);clear hb hbox hg)|((with_reducible refine Zq (N:=3) rfl ?_);(try(refine Zv (by rfl) ?_;dsimp only));refine Zx ?hg (N:=3) ?hd (cs:= #[.int .i64 O,.slice aJ l1_1.length ab]) (t:=24) ?hr ?_;(case hd=>rfl);(case hg=>rfl);(case hr=>first|(go_simp;done)|(go_simp;rfl));intro D hg w5 hbox hb;have BK289:=aM (hbox);have dV:=aM ((by rw[hg];exact(Zc zz96):w.heap.size≤D));have GE289:=aM ((by rw[hg];exact(Zc zz96):w.heap.size≤D));replace HB:=aM (Zd zz96 hb);have ai:=aM ((by rw[hg];exact Nat.ne_of_lt (Zw (g:=B) (o:= .cells #[.int .i64 L,.slice ak l0_1.length P] 24 (0,0)) (zB BK288)):B≠D));have aj:=aM ((by rw[hg];exact Nat.ne_of_gt (Zw (g:=B) (o:= .cells #[.int .i64 L,.slice ak l0_1.length P] 24 (0,0)) (zB BK288)):D≠B));replace BK288:=aM (Zf (g:=B) (o:= .cells #[.int .i64 L,.slice ak l0_1.length P] 24 (0,0)) (zB BK288) hb);clear hb hbox hg))
 (try simp only[Act.put,sA,sB,sC])
 go_cut [21] (fun eI wc=>∃(kq:Nat) (a4:Bool),eI= .bool a4∧Aside0 (r30_Same.j0 kq a4 L l0_1 O l1_1=some r)∧Aside0 (kq≤k)∧Aside0 (wc.heap[B]? =some (.cells #[.int .i64 L,(.slice ak l0_1.length P)] 24 (0,0)))∧Aside0 (wc.heap[D]? =some (.cells #[.int .i64 O,(.slice aJ l1_1.length ab)] 24 (0,0)))∧Aside0 (Below w.heap.size w wc))
 case first=>
  have H:=cM.out;clear cM
  by_cases c6:L=O
  ·rw[if_pos c6] at H;have aA:=beq_iff_eq.mpr c6;have bn:=bne_eq_false_iff_eq.mpr c6;clear c6
   (first|rw[aA]|(simp only[Zt,Zu];rw[aA])|skip)
   have H':=aM H;clear H;have eM:=ai.out;have eN:=aj.out;have aW:w5.cell? ⟨B,0,none⟩=some (.int .i64 L):=(Za BK288.out 0).trans rfl;have aX:w5.cell? ⟨B,1,none⟩=some (.slice ak l0_1.length P):=(Za BK288.out 1).trans rfl;have a0:=Zb BK288.out 0;have a1:=Zb BK288.out 1;have aY:w5.cell? ⟨D,0,none⟩=some (.int .i64 O):=(Za BK289.out 0).trans rfl;have aZ:w5.cell? ⟨D,1,none⟩=some (.slice aJ l1_1.length ab):=(Za BK289.out 1).trans rfl;have a2:=Zb BK289.out 0;have a3:=Zb BK289.out 1;go_wp2;go_meet
   case rel=>exact⟨_,(((l0_1.length:Int) !=(l1_1.length:Int))),zz157,H',⟨zz160⟩,⟨(zB BK288)⟩,⟨(zB BK289)⟩,⟨zz75⟩⟩
  rw[if_neg c6] at H;have aA:=beq_eq_false_iff_ne.mpr c6;have bn:=bne_iff_ne.mpr c6
  (first|rw[aA]|(simp only[Zt,Zu];rw[aA])|skip)
  have H':=aM H;clear H;have d4:=ai.out;have eo:=aj.out;have aN:w5.cell? ⟨B,0,none⟩=some (.int .i64 L):=(Za BK288.out 0).trans rfl;have aO:w5.cell? ⟨B,1,none⟩=some (.slice ak l0_1.length P):=(Za BK288.out 1).trans rfl;have aR:=Zb BK288.out 0;have aS:=Zb BK288.out 1;have aP:w5.cell? ⟨D,0,none⟩=some (.int .i64 O):=(Za BK289.out 0).trans rfl;have aQ:w5.cell? ⟨D,1,none⟩=some (.slice aJ l1_1.length ab):=(Za BK289.out 1).trans rfl;have aT:=Zb BK289.out 0;have aU:=Zb BK289.out 1;go_wp2;go_meet
  case rel=>exact⟨_,(true),zz157,H',⟨zz160⟩,⟨(zB BK288)⟩,⟨(zB BK289)⟩,⟨zz75⟩⟩
 case rest=>
  clear cM;(try clear c1);(try clear c2);(try clear p2);(try clear c6);(try clear aA);(try clear bn);(try clear c7);(try clear c10);(try clear aN);(try clear aO);(try clear aP);(try clear aQ);(try clear aW);(try clear aX);(try clear aY);(try clear aZ);(try clear aR);(try clear aS);(try clear aT);(try clear aU);(try clear a0);(try clear a1);(try clear a2);(try clear a3);obtain⟨kq,a4,rfl,HA,HJ2,BK288,BK289,HB⟩:=hcut
  cases kq with
  |zero=>exact absurd HA.out (by simp[r30_Same.j0])
  | succ cR =>
   have H:=HA.out;clear HA;simp only[r30_Same.j0] at H
   by_cases bs:a4=true
   ·subst bs;have H1:(some false)=some r:=by rw[if_pos rfl] at H;exact H
    clear H;have H:=H1;clear H1;obtain rfl:=oI H;go_wp2;go_ret
    exact⟨by first|rfl|(simp[Zm,Zl]<;>rfl)|(simp[*,Zm,Zl]<;>rfl),by repeat(first|(with_reducible first|exact HB.out|apply Zh|apply Zg|apply Zj|refine Zi ?_ GE288.out|refine Zi ?_ GE289.out)|exact HB.out)⟩
   replace bs:=Bool.eq_false_iff.mpr bs;subst bs;have H1:(r30_Same.l0 cR 0 L l0_1 O l1_1)=some r:=by rw[if_neg (show¬(false=true) by decide)] at H;exact H
   clear H;have H:=H1;clear H1;have H':=aM H;clear H;go_wp2
   go_loopg [5] cR (fun kq v5 w'=>∃(x5_2:Int),v5= .int .i64 x5_2∧Aside0 (r30_Same.l0 kq x5_2 L l0_1 O l1_1=some r)∧Aside0 (kq≤cR)∧Aside0 (w'.heap[B]? =some (.cells #[.int .i64 L,(.slice ak l0_1.length P)] 24 (0,0)))∧Aside0 (w'.heap[D]? =some (.cells #[.int .i64 O,(.slice aJ l1_1.length ab)] 24 (0,0)))∧Aside0 (Below w.heap.size w w'))
   case atStart=>exact⟨(0),zz157,H',⟨Nat.le_refl _⟩,⟨(zB BK288)⟩,⟨(zB BK289)⟩,⟨zz75⟩⟩
   case round =>
    clear H';(try clear c1);(try clear c2);(try clear p2);(try clear c6);(try clear aA);(try clear bn);(try clear c7);(try clear c10);(try clear bs);(try clear aN);(try clear aO);(try clear aP);(try clear aQ);(try clear aW);(try clear aX);(try clear aY);(try clear aZ);(try clear aR);(try clear aS);(try clear aT);(try clear aU);(try clear a0);(try clear a1);(try clear a2);(try clear a3);(try clear p2);obtain⟨x5_2,rfl,HA,HK2,BK288,BK289,HB⟩:=hrel
    cases gk with
    |zero=>exact absurd HA.out (by simp[r30_Same.l0])
    | succ k2=>
     have H:=HA.out;clear HA;simp only[r30_Same.l0] at H
     by_cases bm:x5_2<(l0_1.length:Int)
     ·rw [if_pos bm] at H;have bx:=dT bm;clear bm
      by_cases bz:0≤x5_2
      ·rw [if_pos bz] at H;have cP:=dT bz;clear bz
       by_cases bA:x5_2<(l1_1.length:Int)
       ·rw [if_pos bA] at H;have cQ:=dT bA;clear bA;have bu:=aM H;clear H;have d5:=ai.out;have ep:=aj.out;have bF:wr.cell? ⟨B,0,none⟩=some (.int .i64 L):=(Za BK288.out 0).trans rfl;have bH:wr.cell? ⟨B,1,none⟩=some (.slice ak l0_1.length P):=(Za BK288.out 1).trans rfl;have b1:=Zb BK288.out 0;have b2:=Zb BK288.out 1
        try go_wp2
        have al:=aM (Zp BK288.out);have am:=aM (Zp BK289.out);have an:=aM (Zj HB.out);clear BK288;clear BK289;clear HB;have BK288:=al;have BK289:=am;have HB:=an;clear al am an;have bo:0≤(x5_2:Int):=oD zz156;have bq:x5_2<(l0_1.length:Int):=oD zz156;obtain⟨I,A290_1,c290_1,aE,aG,cT,ac,ad,ae,bh,ba,bi,bb⟩:=Z4 cN.out x5_2 bo bq;have hw290_2:=ae;have hw290_1:=ad;have hw290_0:=ac
        cases cT;replace ac:=(HB.out.cell (wB w _ ac)).trans ac;replace ad:=(HB.out.cell (wB w _ ad)).trans ad;replace ae:=(HB.out.cell (wB w _ ae)).trans ae;have aK:=aM ba;have a5:=aM bh;clear ba bh;have a7:=aM bb;have bv:=aM bi;clear bb bi;replace bo:=eq_true bo;replace bq:=eq_true bq;have bp:0≤(x5_2:Int):=oD zz156;have br:x5_2<(l1_1.length:Int):=oD zz156;obtain⟨J,A291_1,c291_1,aF,aH,cU,af,ag,ah,bj,bc,bk,bg⟩:=Z4 cO.out x5_2 bp br;have hw291_2:=ah;have hw291_1:=ag;have hw291_0:=af
        cases cU;replace af:=(HB.out.cell (wB w _ af)).trans af;replace ag:=(HB.out.cell (wB w _ ag)).trans ag;replace ah:=(HB.out.cell (wB w _ ah)).trans ah;have aL:=aM bc;have a6:=aM bj;clear bc bj;have a8:=aM bg;have bw:=aM bk;clear bg bk;replace bp:=eq_true bp;replace br:=eq_true br
        refine start_ (n:=14) (S:=fun w'=>w'.cell? ⟨B,0,none⟩=some (.int .i64 L)∧w'.cell? ⟨B,1,none⟩=some (.slice (some I) l0_1.length P)∧w'.cell? ⟨D,0,none⟩=some (.int .i64 O)∧w'.cell? ⟨D,1,none⟩=some (.slice (some J) l1_1.length ab)∧w'.cell? (I.add ((x5_2).toNat*3))=some (.int .i64 ((Ze l0_1 x5_2).f0))∧w'.cell? ⟨(I.add ((x5_2).toNat*3)).block,(I.add ((x5_2).toNat*3)).off+1,none⟩=some (.slice A290_1 ((Ze l0_1 x5_2).f1).length c290_1)∧w'.cell? ⟨(I.add ((x5_2).toNat*3)).block,(I.add ((x5_2).toNat*3)).off+2,none⟩=some (.slice aE ((Ze l0_1 x5_2).f2).length aG)∧w'.cell? (J.add ((x5_2).toNat*3))=some (.int .i64 ((Ze l1_1 x5_2).f0))∧w'.cell? ⟨(J.add ((x5_2).toNat*3)).block,(J.add ((x5_2).toNat*3)).off+1,none⟩=some (.slice A291_1 ((Ze l1_1 x5_2).f1).length c291_1)∧w'.cell? ⟨(J.add ((x5_2).toNat*3)).block,(J.add ((x5_2).toNat*3)).off+2,none⟩=some (.slice aF ((Ze l1_1 x5_2).f2).length aH)) (ds:= []) #[false,false,false,false,false,false,false,false,false,false,false,false,false,false] (by kernel_rfl) rfl rfl ⟨(Za BK288.out 0).trans rfl,(Za BK288.out 1).trans rfl,(Za BK289.out 0).trans rfl,(Za BK289.out 1).trans rfl,((HB.out.cell (wB w _ hw290_0)).trans hw290_0),((HB.out.cell (wB w _ hw290_1)).trans hw290_1),((HB.out.cell (wB w _ hw290_2)).trans hw290_2),((HB.out.cell (wB w _ hw291_0)).trans hw291_0),((HB.out.cell (wB w _ hw291_1)).trans hw291_1),((HB.out.cell (wB w _ hw291_2)).trans hw291_2)⟩ (fun hHeld=> ?_);refine Z8 r30_Same.tab6 r30_Same.bits6 (fun ao cp=> ?_);generalize wr.drew=fh at BK288 BK289 HB aK a7 aL a8 ac ad ae af ag ah hHeld⊢
        refine ZC (i:=0) (N:=some 29) (v:= ?_) (a':= ?_) #[true,false,false,false,false,false,false,false,false,false,false,false,false,false] rfl rfl (Zy ao.out (by kernel_rfl)) (fun _ _ _ h=>h) (Or.inl ⟨by rfl,?_⟩) ?_ ?_;rotate_left
        ·intro w';go_simp;with_reducible rfl
        rotate_left
        ·simp only[Act.put,sA,sB,sC,Zt,Zu];rfl
        refine ZC (i:=2) (N:=some 31) (v:= ?_) (a':= ?_) #[true,false,true,false,false,false,false,false,false,false,false,false,false,false] rfl rfl (Zy ao.out (by kernel_rfl)) (fun _ _ _ h=>h) (Or.inl ⟨by rfl,?_⟩) ?_ ?_;rotate_left
        ·intro w';go_simp;with_reducible rfl
        rotate_left
        ·simp only[Act.put,sA,sB,sC,Zt,Zu];rfl
        refine ZC (i:=5) (N:=some 34) (v:= ?_) (a':= ?_) #[true,false,true,false,false,true,false,false,false,false,false,false,false,false] rfl rfl (Zy ao.out (by kernel_rfl)) (fun _ _ _ h=>h) (Or.inl ⟨by rfl,?_⟩) ?_ ?_;rotate_left
        ·intro w';go_simp;with_reducible rfl
        rotate_left
        ·simp only[Act.put,sA,sB,sC,Zt,Zu];rfl
        refine ZC (i:=7) (N:=some 36) (v:= ?_) (a':= ?_) #[true,false,true,false,false,true,false,true,false,false,false,false,false,false] rfl rfl (Zy ao.out (by kernel_rfl)) (fun _ _ _ h=>h) (Or.inl ⟨by rfl,?_⟩) ?_ ?_;rotate_left
        ·intro w';go_simp;with_reducible rfl
        rotate_left
        ·simp only[Act.put,sA,sB,sC,Zt,Zu];rfl
        refine take_ (i:=1) (N:=some 30) (v:= ?_) (a':= ?_) #[true,true,true,false,false,true,false,true,false,false,false,false,false,false] rfl rfl (ZX ao.out cp.out (by kernel_rfl)) (fun _ _ _ h=>h) (Or.inl ⟨by rfl,?_⟩) hHeld ?_ ?_;rotate_left
        ·rintro w' ⟨s0,s1,s2,s3,s4,s5,s6,s7,s8,s9⟩;go_simp;with_reducible rfl
        rotate_left
        ·simp only[Act.put,sA,sB,sC,Zt,Zu];rfl
        refine ZC (i:=3) (N:=some 32) (v:= ?_) (a':= ?_) #[true,true,true,true,false,true,false,true,false,false,false,false,false,false] rfl rfl (Zy ao.out (by kernel_rfl)) (fun _ _ _ h=>h) (Or.inl ⟨by rfl,?_⟩) ?_ ?_;rotate_left
        ·intro w';go_simp;with_reducible rfl
        rotate_left
        ·simp only[Act.put,sA,sB,sC,Zt,Zu];rfl
        refine take_ (i:=4) (N:=some 33) (v:= ?_) (a':= ?_) #[true,true,true,true,true,true,false,true,false,false,false,false,false,false] rfl rfl (ZX ao.out cp.out (by kernel_rfl)) (fun _ _ _ h=>h) (Or.inl ⟨by rfl,?_⟩) hHeld ?_ ?_;rotate_left
        ·rintro w' ⟨s0,s1,s2,s3,s4,s5,s6,s7,s8,s9⟩;go_simp;with_reducible rfl
        rotate_left
        ·simp only[Act.put,sA,sB,sC,Zt,Zu];rfl
        refine take_ (i:=6) (N:=some 35) (v:= ?_) (a':= ?_) #[true,true,true,true,true,true,true,true,false,false,false,false,false,false] rfl rfl (ZX ao.out cp.out (by kernel_rfl)) (fun _ _ _ h=>h) (Or.inl ⟨by rfl,?_⟩) hHeld ?_ ?_;rotate_left
        ·rintro w' ⟨s0,s1,s2,s3,s4,s5,s6,s7,s8,s9⟩;go_simp;with_reducible rfl
        rotate_left
        ·simp only[Act.put,sA,sB,sC,Zt,Zu];rfl
        refine ZC (i:=8) (N:=some 37) (v:= ?_) (a':= ?_) #[true,true,true,true,true,true,true,true,true,false,false,false,false,false] rfl rfl (Zy ao.out (by kernel_rfl)) (fun _ _ _ h=>h) (Or.inl ⟨by rfl,?_⟩) ?_ ?_;rotate_left
        ·intro w';go_simp;with_reducible rfl
        rotate_left
        ·simp only[Act.put,sA,sB,sC,Zt,Zu];rfl
        refine take_ (i:=9) (N:=some 38) (v:= ?_) (a':= ?_) #[true,true,true,true,true,true,true,true,true,true,false,false,false,false] rfl rfl (ZX ao.out cp.out (by kernel_rfl)) (fun _ _ _ h=>h) (Or.inl ⟨by rfl,?_⟩) hHeld ?_ ?_;rotate_left
        ·rintro w' ⟨s0,s1,s2,s3,s4,s5,s6,s7,s8,s9⟩;go_simp;with_reducible rfl
        rotate_left
        ·simp only[Act.put,sA,sB,sC,Zt,Zu];rfl
        refine join_ (σ:=Nat×Nat) 2 #[true,true,true,true,true,true,true,true,true,true,true,true,false,false] (fun s_=> [(6,.pointer (some ⟨s_.1,0,none⟩)),(7,.pointer (some ⟨s_.2,0,none⟩))]) (fun s_ w'=>(w'.cell? ⟨B,0,none⟩=some (.int .i64 L)∧w'.cell? ⟨B,1,none⟩=some (.slice (some I) l0_1.length P)∧w'.cell? ⟨D,0,none⟩=some (.int .i64 O)∧w'.cell? ⟨D,1,none⟩=some (.slice (some J) l1_1.length ab)∧w'.cell? (I.add ((x5_2).toNat*3))=some (.int .i64 ((Ze l0_1 x5_2).f0))∧w'.cell? ⟨(I.add ((x5_2).toNat*3)).block,(I.add ((x5_2).toNat*3)).off+1,none⟩=some (.slice A290_1 ((Ze l0_1 x5_2).f1).length c290_1)∧w'.cell? ⟨(I.add ((x5_2).toNat*3)).block,(I.add ((x5_2).toNat*3)).off+2,none⟩=some (.slice aE ((Ze l0_1 x5_2).f2).length aG)∧w'.cell? (J.add ((x5_2).toNat*3))=some (.int .i64 ((Ze l1_1 x5_2).f0))∧w'.cell? ⟨(J.add ((x5_2).toNat*3)).block,(J.add ((x5_2).toNat*3)).off+1,none⟩=some (.slice A291_1 ((Ze l1_1 x5_2).f1).length c291_1)∧w'.cell? ⟨(J.add ((x5_2).toNat*3)).block,(J.add ((x5_2).toNat*3)).off+2,none⟩=some (.slice aF ((Ze l1_1 x5_2).f2).length aH))∧(w'.heap[B]? =some (.cells #[.int .i64 L,.slice (some I) l0_1.length P] 24 (0,0)))∧(w'.heap[D]? =some (.cells #[.int .i64 O,.slice (some J) l1_1.length ab] 24 (0,0)))∧(w'.heap[s_.1]? =some (.cells #[.int .i64 0,.slice none 0 0,.slice none 0 0] 56 (0,0)))∧(w'.heap[s_.2]? =some (.cells #[.int .i64 0,.slice none 0 0,.slice none 0 0] 56 (0,0)))∧(w.heap.size≤s_.1)∧(w.heap.size≤s_.1)∧(B≠s_.1)∧(s_.1≠B)∧(D≠s_.1)∧(s_.1≠D)∧(s_.2≠s_.1)∧(s_.1≠s_.2)∧(w.heap.size≤s_.2)∧(w.heap.size≤s_.2)∧(B≠s_.2)∧(s_.2≠B)∧(D≠s_.2)∧(s_.2≠D)∧(Below w.heap.size w w')) ?_ ?_;rotate_left
        ·intro hCont
         refine two_ (i:=10) (j:=11) (Ni:=some 6) (Nj:=some 7) #[true,true,true,true,true,true,true,true,true,true,true,false,false,false] #[true,true,true,true,true,true,true,true,true,true,false,true,false,false] rfl rfl rfl rfl (two_of ao.out (by kernel_rfl)) (by decide) (by decide) (fun K hK=> ?_) (fun K hK=> ?_)
         ·skip
          refine Z9 ?hg (N:=6) ?hd (cs:= #[.int .i64 0,.slice none 0 0,.slice none 0 0]) (t:=56) ?hr ?_;(case hd=>rfl);(case hg=>rfl);(case hr=>first|(go_simp;done)|(go_simp;rfl));intro m hg eK hbox hb;have al:=aM (Zf (g:=B) (o:= .cells #[.int .i64 L,.slice (some I) l0_1.length P] 24 (0,0)) (zB BK288) hb);have am:=aM (Zf (g:=D) (o:= .cells #[.int .i64 O,.slice (some J) l1_1.length ab] 24 (0,0)) (zB BK289) hb);have an:=aM (Zd zz75 hb);have aq:=aM (hbox);have ar:=aM ((by rw[hg];exact(Zc zz75):w.heap.size≤m));have au:=aM ((by rw[hg];exact(Zc zz75):w.heap.size≤m));have av:=aM ((by rw[hg];exact Nat.ne_of_lt (Zw (g:=B) (o:= .cells #[.int .i64 L,.slice (some I) l0_1.length P] 24 (0,0)) (zB BK288)):B≠m));have aw:=aM ((by rw[hg];exact Nat.ne_of_gt (Zw (g:=B) (o:= .cells #[.int .i64 L,.slice (some I) l0_1.length P] 24 (0,0)) (zB BK288)):m≠B));have ax:=aM ((by rw[hg];exact Nat.ne_of_lt (Zw (g:=D) (o:= .cells #[.int .i64 O,.slice (some J) l1_1.length ab] 24 (0,0)) (zB BK289)):D≠m));have ay:=aM ((by rw[hg];exact Nat.ne_of_gt (Zw (g:=D) (o:= .cells #[.int .i64 O,.slice (some J) l1_1.length ab] 24 (0,0)) (zB BK289)):m≠D));clear BK288;clear BK289;clear HB;have BK288:=al;have BK289:=am;have HB:=an;have BK292:=aq;have GW292:=ar;have GE292:=au;have NB288_292:=av;have U:=aw;have NB289_292:=ax;have X:=ay;clear al am an aq ar au av aw ax ay;clear hb hbox hg
          refine hK.out _ _ ⟨(Za BK288.out 0).trans rfl,(Za BK288.out 1).trans rfl,(Za BK289.out 0).trans rfl,(Za BK289.out 1).trans rfl,((HB.out.cell (wB w _ hw290_0)).trans hw290_0),((HB.out.cell (wB w _ hw290_1)).trans hw290_1),((HB.out.cell (wB w _ hw290_2)).trans hw290_2),((HB.out.cell (wB w _ hw291_0)).trans hw291_0),((HB.out.cell (wB w _ hw291_1)).trans hw291_1),((HB.out.cell (wB w _ hw291_2)).trans hw291_2)⟩ (fun hHeld=> ?_);clear hK K
          refine ZV (a':= ?_) ?_ ?_;rotate_left
          ·show Act.put _ (some 6) _=_
           simp only[Act.put,sA,sB,sC,Zt,Zu];rfl
          refine one_ (i:=11) (N:=some 7) #[true,true,true,true,true,true,true,true,true,true,true,true,false,false] rfl rfl (Z2 ao.out (by kernel_rfl)) (by decide) (fun K hK=> ?_)
          refine Z9 ?hg (N:=7) ?hd (cs:= #[.int .i64 0,.slice none 0 0,.slice none 0 0]) (t:=56) ?hr ?_;(case hd=>rfl);(case hg=>rfl);(case hr=>first|(go_simp;done)|(go_simp;rfl));intro z hg eL hbox hb;have al:=aM (Zf (g:=B) (o:= .cells #[.int .i64 L,.slice (some I) l0_1.length P] 24 (0,0)) (zB BK288) hb);have am:=aM (Zf (g:=D) (o:= .cells #[.int .i64 O,.slice (some J) l1_1.length ab] 24 (0,0)) (zB BK289) hb);have an:=aM (Zf (g:=m) (o:= .cells #[.int .i64 0,.slice none 0 0,.slice none 0 0] 56 (0,0)) (zB BK292) hb);have aq:=aM (Zd zz70 hb);have ar:=aM (hbox);have au:=aM ((by rw[hg];exact(Zc zz70):w.heap.size≤z));have av:=aM ((by rw[hg];exact(Zc zz70):w.heap.size≤z));have aw:=aM ((by rw[hg];exact Nat.ne_of_lt (Zw (g:=B) (o:= .cells #[.int .i64 L,.slice (some I) l0_1.length P] 24 (0,0)) (zB BK288)):B≠z));have ax:=aM ((by rw[hg];exact Nat.ne_of_gt (Zw (g:=B) (o:= .cells #[.int .i64 L,.slice (some I) l0_1.length P] 24 (0,0)) (zB BK288)):z≠B));have ay:=aM ((by rw[hg];exact Nat.ne_of_lt (Zw (g:=D) (o:= .cells #[.int .i64 O,.slice (some J) l1_1.length ab] 24 (0,0)) (zB BK289)):D≠z));have aB:=aM ((by rw[hg];exact Nat.ne_of_gt (Zw (g:=D) (o:= .cells #[.int .i64 O,.slice (some J) l1_1.length ab] 24 (0,0)) (zB BK289)):z≠D));have aC:=aM ((by rw[hg];exact Nat.ne_of_lt (Zw (g:=m) (o:= .cells #[.int .i64 0,.slice none 0 0,.slice none 0 0] 56 (0,0)) (zB BK292)):m≠z));have aD:=aM ((by rw[hg];exact Nat.ne_of_gt (Zw (g:=m) (o:= .cells #[.int .i64 0,.slice none 0 0,.slice none 0 0] 56 (0,0)) (zB BK292)):z≠m));clear BK288;clear BK289;clear BK292;clear HB;have BK288:=al;have BK289:=am;have BK292:=an;have HB:=aq;have BK293:=ar;have GW293:=au;have GE293:=av;have NB288_293:=aw;have Y:=ax;have NB289_293:=ay;have Z:=aB;have NB292_293:=aC;have NB293_292:=aD;clear al am an aq ar au av aw ax ay aB aC aD;clear hb hbox hg
          refine hK.out _ _ ⟨(Za BK288.out 0).trans rfl,(Za BK288.out 1).trans rfl,(Za BK289.out 0).trans rfl,(Za BK289.out 1).trans rfl,((HB.out.cell (wB w _ hw290_0)).trans hw290_0),((HB.out.cell (wB w _ hw290_1)).trans hw290_1),((HB.out.cell (wB w _ hw290_2)).trans hw290_2),((HB.out.cell (wB w _ hw291_0)).trans hw291_0),((HB.out.cell (wB w _ hw291_1)).trans hw291_1),((HB.out.cell (wB w _ hw291_2)).trans hw291_2)⟩ (fun hHeld=> ?_);clear hK K
          refine ZV (a':= ?_) ?_ ?_;rotate_left
          ·show Act.put _ (some 7) _=_
           simp only[Act.put,sA,sB,sC,Zt,Zu];rfl
          exact ZV zz139 (hCont (m,z) _ ⟨hHeld,(zB BK288),(zB BK289),(zB BK292),(zB BK293),GW292.out,GE292.out,NB288_292.out,U.out,NB289_292.out,X.out,NB293_292.out,NB292_293.out,GW293.out,GE293.out,NB288_293.out,Y.out,NB289_293.out,Z.out,zz59⟩)
         ·skip
          refine Z9 ?hg (N:=7) ?hd (cs:= #[.int .i64 0,.slice none 0 0,.slice none 0 0]) (t:=56) ?hr ?_;(case hd=>rfl);(case hg=>rfl);(case hr=>first|(go_simp;done)|(go_simp;rfl));intro z hg eK hbox hb;have al:=aM (Zf (g:=B) (o:= .cells #[.int .i64 L,.slice (some I) l0_1.length P] 24 (0,0)) (zB BK288) hb);have am:=aM (Zf (g:=D) (o:= .cells #[.int .i64 O,.slice (some J) l1_1.length ab] 24 (0,0)) (zB BK289) hb);have an:=aM (Zd zz75 hb);have aq:=aM (hbox);have ar:=aM ((by rw[hg];exact(Zc zz75):w.heap.size≤z));have au:=aM ((by rw[hg];exact(Zc zz75):w.heap.size≤z));have av:=aM ((by rw[hg];exact Nat.ne_of_lt (Zw (g:=B) (o:= .cells #[.int .i64 L,.slice (some I) l0_1.length P] 24 (0,0)) (zB BK288)):B≠z));have aw:=aM ((by rw[hg];exact Nat.ne_of_gt (Zw (g:=B) (o:= .cells #[.int .i64 L,.slice (some I) l0_1.length P] 24 (0,0)) (zB BK288)):z≠B));have ax:=aM ((by rw[hg];exact Nat.ne_of_lt (Zw (g:=D) (o:= .cells #[.int .i64 O,.slice (some J) l1_1.length ab] 24 (0,0)) (zB BK289)):D≠z));have ay:=aM ((by rw[hg];exact Nat.ne_of_gt (Zw (g:=D) (o:= .cells #[.int .i64 O,.slice (some J) l1_1.length ab] 24 (0,0)) (zB BK289)):z≠D));clear BK288;clear BK289;clear HB;have BK288:=al;have BK289:=am;have HB:=an;have BK293:=aq;have GW293:=ar;have GE293:=au;have NB288_293:=av;have Y:=aw;have NB289_293:=ax;have Z:=ay;clear al am an aq ar au av aw ax ay;clear hb hbox hg
          refine hK.out _ _ ⟨(Za BK288.out 0).trans rfl,(Za BK288.out 1).trans rfl,(Za BK289.out 0).trans rfl,(Za BK289.out 1).trans rfl,((HB.out.cell (wB w _ hw290_0)).trans hw290_0),((HB.out.cell (wB w _ hw290_1)).trans hw290_1),((HB.out.cell (wB w _ hw290_2)).trans hw290_2),((HB.out.cell (wB w _ hw291_0)).trans hw291_0),((HB.out.cell (wB w _ hw291_1)).trans hw291_1),((HB.out.cell (wB w _ hw291_2)).trans hw291_2)⟩ (fun hHeld=> ?_);clear hK K
          refine ZV (a':= ?_) ?_ ?_;rotate_left
          ·show Act.put _ (some 7) _=_
           simp only[Act.put,sA,sB,sC,Zt,Zu];rfl
          refine one_ (i:=10) (N:=some 6) #[true,true,true,true,true,true,true,true,true,true,true,true,false,false] rfl rfl (Z2 ao.out (by kernel_rfl)) (by decide) (fun K hK=> ?_)
          refine Z9 ?hg (N:=6) ?hd (cs:= #[.int .i64 0,.slice none 0 0,.slice none 0 0]) (t:=56) ?hr ?_;(case hd=>rfl);(case hg=>rfl);(case hr=>first|(go_simp;done)|(go_simp;rfl));intro m hg eL hbox hb;have al:=aM (Zf (g:=B) (o:= .cells #[.int .i64 L,.slice (some I) l0_1.length P] 24 (0,0)) (zB BK288) hb);have am:=aM (Zf (g:=D) (o:= .cells #[.int .i64 O,.slice (some J) l1_1.length ab] 24 (0,0)) (zB BK289) hb);have an:=aM (Zf (g:=z) (o:= .cells #[.int .i64 0,.slice none 0 0,.slice none 0 0] 56 (0,0)) (zB BK293) hb);have aq:=aM (Zd zz71 hb);have ar:=aM (hbox);have au:=aM ((by rw[hg];exact(Zc zz71):w.heap.size≤m));have av:=aM ((by rw[hg];exact(Zc zz71):w.heap.size≤m));have aw:=aM ((by rw[hg];exact Nat.ne_of_lt (Zw (g:=B) (o:= .cells #[.int .i64 L,.slice (some I) l0_1.length P] 24 (0,0)) (zB BK288)):B≠m));have ax:=aM ((by rw[hg];exact Nat.ne_of_gt (Zw (g:=B) (o:= .cells #[.int .i64 L,.slice (some I) l0_1.length P] 24 (0,0)) (zB BK288)):m≠B));have ay:=aM ((by rw[hg];exact Nat.ne_of_lt (Zw (g:=D) (o:= .cells #[.int .i64 O,.slice (some J) l1_1.length ab] 24 (0,0)) (zB BK289)):D≠m));have aB:=aM ((by rw[hg];exact Nat.ne_of_gt (Zw (g:=D) (o:= .cells #[.int .i64 O,.slice (some J) l1_1.length ab] 24 (0,0)) (zB BK289)):m≠D));have aC:=aM ((by rw[hg];exact Nat.ne_of_lt (Zw (g:=z) (o:= .cells #[.int .i64 0,.slice none 0 0,.slice none 0 0] 56 (0,0)) (zB BK293)):z≠m));have aD:=aM ((by rw[hg];exact Nat.ne_of_gt (Zw (g:=z) (o:= .cells #[.int .i64 0,.slice none 0 0,.slice none 0 0] 56 (0,0)) (zB BK293)):m≠z));clear BK288;clear BK289;clear BK293;clear HB;have BK288:=al;have BK289:=am;have BK293:=an;have HB:=aq;have BK292:=ar;have GW292:=au;have GE292:=av;have NB288_292:=aw;have U:=ax;have NB289_292:=ay;have X:=aB;have NB293_292:=aC;have NB292_293:=aD;clear al am an aq ar au av aw ax ay aB aC aD;clear hb hbox hg
          refine hK.out _ _ ⟨(Za BK288.out 0).trans rfl,(Za BK288.out 1).trans rfl,(Za BK289.out 0).trans rfl,(Za BK289.out 1).trans rfl,((HB.out.cell (wB w _ hw290_0)).trans hw290_0),((HB.out.cell (wB w _ hw290_1)).trans hw290_1),((HB.out.cell (wB w _ hw290_2)).trans hw290_2),((HB.out.cell (wB w _ hw291_0)).trans hw291_0),((HB.out.cell (wB w _ hw291_1)).trans hw291_1),((HB.out.cell (wB w _ hw291_2)).trans hw291_2)⟩ (fun hHeld=> ?_);clear hK K
          refine ZV (a':= ?_) ?_ ?_;rotate_left
          ·show Act.put _ (some 6) _=_
           simp only[Act.put,sA,sB,sC,Zt,Zu];rfl
          exact ZV zz139 (hCont (m,z) _ ⟨hHeld,(zB BK288),(zB BK289),(zB BK292),(zB BK293),GW292.out,GE292.out,NB288_292.out,U.out,NB289_292.out,X.out,NB293_292.out,NB292_293.out,GW293.out,GE293.out,NB288_293.out,Y.out,NB289_293.out,Z.out,(by repeat(first|(with_reducible first|exact HB.out|apply Zh|apply Zg|apply Zj|refine Zi ?_ GE288.out|refine Zi ?_ GE289.out|refine Zi ?_ GE293.out|refine Zi ?_ GE292.out)|exact HB.out))⟩)
        rintro ⟨m,z⟩ aa ⟨hS_,cV,h1_,h2_,h3_,cW,cX,cY,cZ,c0,da,cv,cw,cx,cy,cz,cA,cB,cC,cD⟩;have al:Aside0 (aa.heap[B]? =some (.cells #[.int .i64 L,.slice (some I) l0_1.length P] 24 (0,0))):=⟨cV⟩;have am:Aside0 (aa.heap[D]? =some (.cells #[.int .i64 O,.slice (some J) l1_1.length ab] 24 (0,0))):=⟨h1_⟩;have an:Aside0 (aa.heap[m]? =some (.cells #[.int .i64 0,.slice none 0 0,.slice none 0 0] 56 (0,0))):=⟨h2_⟩;have aq:Aside0 (aa.heap[z]? =some (.cells #[.int .i64 0,.slice none 0 0,.slice none 0 0] 56 (0,0))):=⟨h3_⟩;have ar:Aside0 (w.heap.size≤m):=⟨cW⟩;have au:Aside0 (w.heap.size≤m):=⟨cX⟩;have av:Aside0 (B≠m):=⟨cY⟩;have aw:Aside0 (m≠B):=⟨cZ⟩;have ax:Aside0 (D≠m):=⟨c0⟩;have ay:Aside0 (m≠D):=⟨da⟩;have aB:Aside0 (z≠m):=⟨cv⟩;have aC:Aside0 (m≠z):=⟨cw⟩;have aD:Aside0 (w.heap.size≤z):=⟨cx⟩;have cF:Aside0 (w.heap.size≤z):=⟨cy⟩;have cG:Aside0 (B≠z):=⟨cz⟩;have cH:Aside0 (z≠B):=⟨cA⟩;have cI:Aside0 (D≠z):=⟨cB⟩;have cJ:Aside0 (z≠D):=⟨cC⟩;have cK:Aside0 (Below w.heap.size w aa):=⟨cD⟩;clear BK288;clear BK289;clear HB;clear cV h1_ h2_ h3_ cW cX cY cZ c0 da cv cw cx cy cz cA cB cC cD;have BK288:=al;have BK289:=am;have BK292:=an;have BK293:=aq;have GW292:=ar;have GE292:=au;have NB288_292:=av;have U:=aw;have NB289_292:=ax;have X:=ay;have NB293_292:=aB;have NB292_293:=aC;have GW293:=aD;have GE293:=cF;have NB288_293:=cG;have Y:=cH;have NB289_293:=cI;have Z:=cJ;have HB:=cK;clear al am an aq ar au av aw ax ay aB aC aD cF cG cH cI cJ cK;have hHeld:aa.cell? ⟨B,0,none⟩=some (.int .i64 L)∧aa.cell? ⟨B,1,none⟩=some (.slice (some I) l0_1.length P)∧aa.cell? ⟨D,0,none⟩=some (.int .i64 O)∧aa.cell? ⟨D,1,none⟩=some (.slice (some J) l1_1.length ab)∧aa.cell? (I.add ((x5_2).toNat*3))=some (.int .i64 ((Ze l0_1 x5_2).f0))∧aa.cell? ⟨(I.add ((x5_2).toNat*3)).block,(I.add ((x5_2).toNat*3)).off+1,none⟩=some (.slice A290_1 ((Ze l0_1 x5_2).f1).length c290_1)∧aa.cell? ⟨(I.add ((x5_2).toNat*3)).block,(I.add ((x5_2).toNat*3)).off+2,none⟩=some (.slice aE ((Ze l0_1 x5_2).f2).length aG)∧aa.cell? (J.add ((x5_2).toNat*3))=some (.int .i64 ((Ze l1_1 x5_2).f0))∧aa.cell? ⟨(J.add ((x5_2).toNat*3)).block,(J.add ((x5_2).toNat*3)).off+1,none⟩=some (.slice A291_1 ((Ze l1_1 x5_2).f1).length c291_1)∧aa.cell? ⟨(J.add ((x5_2).toNat*3)).block,(J.add ((x5_2).toNat*3)).off+2,none⟩=some (.slice aF ((Ze l1_1 x5_2).f2).length aH):=hS_
        refine ZV (a':= ?_) ?_ ?_;rotate_left
        ·simp only[putAll,Act.put,sA,sB,sC];rfl
        refine one_ (i:=12) (N:=none) #[true,true,true,true,true,true,true,true,true,true,true,true,true,false] rfl rfl (Z2 ao.out (by kernel_rfl)) (by decide) (fun K hK=> ?_);have eO:aa.cell? ⟨m,0,none⟩=some (.int .i64 0):=(Za BK292.out 0).trans rfl;have dY:=Zb BK292.out 0;have dz:=NB288_292.out;have dA:=NB289_292.out;have dB:=NB293_292.out;have df:=U.out;have dg:=X.out;have dh:=NB292_293.out;have eP:aa.cell? ⟨m,1,none⟩=some (.slice none 0 0):=(Za BK292.out 1).trans rfl;have dZ:=Zb BK292.out 1;have dC:=NB288_292.out;have dD:=NB289_292.out;have dE:=NB293_292.out;have di:=U.out;have dj:=X.out;have dk:=NB292_293.out;have eQ:aa.cell? ⟨m,2,none⟩=some (.slice none 0 0):=(Za BK292.out 2).trans rfl;have d0:=Zb BK292.out 2;have dG:=NB288_292.out;have dH:=NB289_292.out;have dI:=NB293_292.out;have dl:=U.out;have dm:=X.out;have dn:=NB292_293.out
        refine skip_ (w1:= ?_) (by rfl) rfl ?_ ?_;rotate_left
        ·go_simp;rfl
        refine hK.out _ _ ⟨((cell_far (p:=⟨m,_,none⟩) NB288_292.out _).trans (((cell_far (p:=⟨m,_,none⟩) NB288_292.out _).trans (((cell_far (p:=⟨m,_,none⟩) NB288_292.out _).trans (hHeld.1)))))),((cell_far (p:=⟨m,_,none⟩) NB288_292.out _).trans (((cell_far (p:=⟨m,_,none⟩) NB288_292.out _).trans (((cell_far (p:=⟨m,_,none⟩) NB288_292.out _).trans (hHeld.2.1)))))),((cell_far (p:=⟨m,_,none⟩) NB289_292.out _).trans (((cell_far (p:=⟨m,_,none⟩) NB289_292.out _).trans (((cell_far (p:=⟨m,_,none⟩) NB289_292.out _).trans (hHeld.2.2.1)))))),((cell_far (p:=⟨m,_,none⟩) NB289_292.out _).trans (((cell_far (p:=⟨m,_,none⟩) NB289_292.out _).trans (((cell_far (p:=⟨m,_,none⟩) NB289_292.out _).trans (hHeld.2.2.2.1)))))),((cell_far (p:=⟨m,_,none⟩) zz9 _).trans (((cell_far (p:=⟨m,_,none⟩) zz9 _).trans (((cell_far (p:=⟨m,_,none⟩) zz9 _).trans (hHeld.2.2.2.2.1)))))),((cell_far (p:=⟨m,_,none⟩) zz10 _).trans (((cell_far (p:=⟨m,_,none⟩) zz10 _).trans (((cell_far (p:=⟨m,_,none⟩) zz10 _).trans (hHeld.2.2.2.2.2.1)))))),((cell_far (p:=⟨m,_,none⟩) zz11 _).trans (((cell_far (p:=⟨m,_,none⟩) zz11 _).trans (((cell_far (p:=⟨m,_,none⟩) zz11 _).trans (hHeld.2.2.2.2.2.2.1)))))),((cell_far (p:=⟨m,_,none⟩) zz12 _).trans (((cell_far (p:=⟨m,_,none⟩) zz12 _).trans (((cell_far (p:=⟨m,_,none⟩) zz12 _).trans (hHeld.2.2.2.2.2.2.2.1)))))),((cell_far (p:=⟨m,_,none⟩) zz13 _).trans (((cell_far (p:=⟨m,_,none⟩) zz13 _).trans (((cell_far (p:=⟨m,_,none⟩) zz13 _).trans (hHeld.2.2.2.2.2.2.2.2.1)))))),((cell_far (p:=⟨m,_,none⟩) zz14 _).trans (((cell_far (p:=⟨m,_,none⟩) zz14 _).trans (((cell_far (p:=⟨m,_,none⟩) zz14 _).trans (hHeld.2.2.2.2.2.2.2.2.2))))))⟩ (fun hHeld=> ?_);clear hK K
        refine one_ (i:=13) (N:=none) #[true,true,true,true,true,true,true,true,true,true,true,true,true,true] rfl rfl (Z2 ao.out (by kernel_rfl)) (by decide) (fun K hK=> ?_);have eR:aa.cell? ⟨z,0,none⟩=some (.int .i64 0):=(Za BK293.out 0).trans rfl;have d1:=Zb BK293.out 0;have dJ:=NB288_293.out;have dK:=NB289_293.out;have dL:=NB292_293.out;have dp:=Y.out;have dq:=Z.out;have dr:=NB293_292.out;have eS:aa.cell? ⟨z,1,none⟩=some (.slice none 0 0):=(Za BK293.out 1).trans rfl;have d2:=Zb BK293.out 1;have dM:=NB288_293.out;have dN:=NB289_293.out;have dO:=NB292_293.out;have dt:=Y.out;have du:=Z.out;have dv:=NB293_292.out;have eT:aa.cell? ⟨z,2,none⟩=some (.slice none 0 0):=(Za BK293.out 2).trans rfl;have d3:=Zb BK293.out 2;have dP:=NB288_293.out;have dQ:=NB289_293.out;have dR:=NB292_293.out;have dw:=Y.out;have dx:=Z.out;have dy:=NB293_292.out
        refine skip_ (w1:= ?_) (by rfl) rfl ?_ ?_;rotate_left
        ·go_simp;rfl
        refine hK.out _ _ ⟨((cell_far (p:=⟨z,_,none⟩) NB288_293.out _).trans (((cell_far (p:=⟨z,_,none⟩) NB288_293.out _).trans (((cell_far (p:=⟨z,_,none⟩) NB288_293.out _).trans (hHeld.1)))))),((cell_far (p:=⟨z,_,none⟩) NB288_293.out _).trans (((cell_far (p:=⟨z,_,none⟩) NB288_293.out _).trans (((cell_far (p:=⟨z,_,none⟩) NB288_293.out _).trans (hHeld.2.1)))))),((cell_far (p:=⟨z,_,none⟩) NB289_293.out _).trans (((cell_far (p:=⟨z,_,none⟩) NB289_293.out _).trans (((cell_far (p:=⟨z,_,none⟩) NB289_293.out _).trans (hHeld.2.2.1)))))),((cell_far (p:=⟨z,_,none⟩) NB289_293.out _).trans (((cell_far (p:=⟨z,_,none⟩) NB289_293.out _).trans (((cell_far (p:=⟨z,_,none⟩) NB289_293.out _).trans (hHeld.2.2.2.1)))))),((cell_far (p:=⟨z,_,none⟩) zz15 _).trans (((cell_far (p:=⟨z,_,none⟩) zz15 _).trans (((cell_far (p:=⟨z,_,none⟩) zz15 _).trans (hHeld.2.2.2.2.1)))))),((cell_far (p:=⟨z,_,none⟩) zz16 _).trans (((cell_far (p:=⟨z,_,none⟩) zz16 _).trans (((cell_far (p:=⟨z,_,none⟩) zz16 _).trans (hHeld.2.2.2.2.2.1)))))),((cell_far (p:=⟨z,_,none⟩) zz17 _).trans (((cell_far (p:=⟨z,_,none⟩) zz17 _).trans (((cell_far (p:=⟨z,_,none⟩) zz17 _).trans (hHeld.2.2.2.2.2.2.1)))))),((cell_far (p:=⟨z,_,none⟩) zz18 _).trans (((cell_far (p:=⟨z,_,none⟩) zz18 _).trans (((cell_far (p:=⟨z,_,none⟩) zz18 _).trans (hHeld.2.2.2.2.2.2.2.1)))))),((cell_far (p:=⟨z,_,none⟩) zz19 _).trans (((cell_far (p:=⟨z,_,none⟩) zz19 _).trans (((cell_far (p:=⟨z,_,none⟩) zz19 _).trans (hHeld.2.2.2.2.2.2.2.2.1)))))),((cell_far (p:=⟨z,_,none⟩) zz20 _).trans (((cell_far (p:=⟨z,_,none⟩) zz20 _).trans (((cell_far (p:=⟨z,_,none⟩) zz20 _).trans (hHeld.2.2.2.2.2.2.2.2.2))))))⟩ (fun hHeld=> ?_);clear hK K
        refine done_ (done_of ao.out (by kernel_rfl)) ?_
        go_upto_region 7 with(fail)
        go_cut [59] (fun eJ wc=>∃(kq:Nat) (aI:Bool),eJ= .bool aI∧Aside0 (r30_Same.j2 kq x5_2 aI L l0_1 O l1_1=some r)∧Aside0 (kq≤k2)∧Aside0 (wc.heap[B]? =some (.cells #[.int .i64 L,(.slice (some I) l0_1.length P)] 24 (0,0)))∧Aside0 (wc.heap[D]? =some (.cells #[.int .i64 O,(.slice (some J) l1_1.length ab)] 24 (0,0)))∧Aside0 (wc.heap[m]? =some (.cells #[.int .i64 ((Ze l0_1 x5_2).f0),(.slice A290_1 ((Ze l0_1 x5_2).f1).length c290_1),(.slice aE ((Ze l0_1 x5_2).f2).length aG)] 56 (0,0)))∧Aside0 (wc.heap[z]? =some (.cells #[.int .i64 ((Ze l1_1 x5_2).f0),(.slice A291_1 ((Ze l1_1 x5_2).f1).length c291_1),(.slice aF ((Ze l1_1 x5_2).f2).length aH)] 56 (0,0)))∧Aside0 (Below w.heap.size w wc))
        case first=>
         have H:=bu.out;clear bu
         by_cases a9:((Ze l0_1 x5_2).f0)=((Ze l1_1 x5_2).f0)
         ·rw [if_pos a9] at H;have az:=beq_iff_eq.mpr a9;have bB:=bne_eq_false_iff_eq.mpr a9;clear a9
          (first|rw[az]|(simp only[Zt,Zu];rw[az])|skip)
          replace H:=oB H;obtain⟨cL,cr,H⟩:=H;replace H:(if cL=true then((r09_SameRows.f k2 ((Ze l0_1 x5_2).f2) ((Ze l1_1 x5_2).f2)).bind fun aV=>(r30_Same.j2 k2 x5_2 (!aV) L l0_1 O l1_1)) else(r30_Same.j2 k2 x5_2 true L l0_1 O l1_1))=some r:=H;have cS:=aM cr;clear cr
          by_cases bC:cL=true
          ·subst bC;have H1:((r09_SameRows.f k2 ((Ze l0_1 x5_2).f2) ((Ze l1_1 x5_2).f2)).bind fun aV=>(r30_Same.j2 k2 x5_2 (!aV) L l0_1 O l1_1))=some r:=by rw[if_pos rfl] at H;exact H
           clear H;have H:=H1;clear H1;replace H:=oB H;obtain⟨aV,ct,H⟩:=H;replace H:(r30_Same.j2 k2 x5_2 (!aV) L l0_1 O l1_1)=some r:=H;have dS:=aM ct;clear ct;have H':=aM H;clear H;have d6:=U.out;have er:=NB288_292.out;have d7:=X.out;have es:=NB289_292.out;have d8:=NB292_293.out;have et:=NB293_292.out;have bI:aa.cell? ⟨m,0,none⟩=some (.int .i64 0):=(Za BK292.out 0).trans rfl;have bJ:aa.cell? ⟨m,1,none⟩=some (.slice none 0 0):=(Za BK292.out 1).trans rfl;have bK:aa.cell? ⟨m,2,none⟩=some (.slice none 0 0):=(Za BK292.out 2).trans rfl;have b3:=Zb BK292.out 0;have b4:=Zb BK292.out 1;have b5:=Zb BK292.out 2;have d9:=Y.out;have eu:=NB288_293.out;have ea:=Z.out;have ev:=NB289_293.out;have bL:aa.cell? ⟨z,0,none⟩=some (.int .i64 0):=(Za BK293.out 0).trans rfl;have bM:aa.cell? ⟨z,1,none⟩=some (.slice none 0 0):=(Za BK293.out 1).trans rfl;have bN:aa.cell? ⟨z,2,none⟩=some (.slice none 0 0):=(Za BK293.out 2).trans rfl;have b6:=Zb BK293.out 0;have b7:=Zb BK293.out 1;have b8:=Zb BK293.out 2
           go_wp2_with (first|(go_at_call 20;(with_reducible refine(r09_SameInts.calls k2 _ _ ((Ze l0_1 x5_2).f1) _ _ ((Ze l1_1 x5_2).f1) true _ ?sa ?sb ?sc ?sd cS.out).mono ?_);(case sa=>exact Kd.C_below aK.out zz59);(case sb=>exact a5.out);(case sc=>exact Kd.C_below aL.out zz59);(case sd=>exact a6.out);rintro e w' ⟨rfl,⟨nd,rfl⟩⟩)|(go_at_call 21;(with_reducible refine(r09_SameRows.calls k2 _ _ ((Ze l0_1 x5_2).f2) _ _ ((Ze l1_1 x5_2).f2) aV _ ?sa ?sb ?sc ?sd dS.out).mono ?_);(case sa=>exact Kd.C_below a7.out zz59);(case sb=>exact bv.out);(case sc=>exact Kd.C_below a8.out zz59);(case sd=>exact bw.out);rintro e w' ⟨rfl,⟨nd,rfl⟩⟩))
           go_meet
           case rel=>exact⟨_,(!aV),zz157,H',⟨zz153⟩,⟨zz3⟩,⟨zz4⟩,⟨zz0⟩,⟨zz1⟩,⟨zz59⟩⟩
          replace bC:=Bool.eq_false_iff.mpr bC;subst bC;have H1:(r30_Same.j2 k2 x5_2 true L l0_1 O l1_1)=some r:=by rw[if_neg (show¬(false=true) by decide)] at H;exact H
          clear H;have H:=H1;clear H1;have H':=aM H;clear H;have eb:=U.out;have ew:=NB288_292.out;have ed:=X.out;have ey:=NB289_292.out;have ee:=NB292_293.out;have ez:=NB293_292.out;have bO:aa.cell? ⟨m,0,none⟩=some (.int .i64 0):=(Za BK292.out 0).trans rfl;have bP:aa.cell? ⟨m,1,none⟩=some (.slice none 0 0):=(Za BK292.out 1).trans rfl;have bQ:aa.cell? ⟨m,2,none⟩=some (.slice none 0 0):=(Za BK292.out 2).trans rfl;have b9:=Zb BK292.out 0;have ca:=Zb BK292.out 1;have cb:=Zb BK292.out 2;have ef:=Y.out;have eA:=NB288_293.out;have eg:=Z.out;have eB:=NB289_293.out;have bS:aa.cell? ⟨z,0,none⟩=some (.int .i64 0):=(Za BK293.out 0).trans rfl;have bT:aa.cell? ⟨z,1,none⟩=some (.slice none 0 0):=(Za BK293.out 1).trans rfl;have bU:aa.cell? ⟨z,2,none⟩=some (.slice none 0 0):=(Za BK293.out 2).trans rfl;have cc:=Zb BK293.out 0;have cd:=Zb BK293.out 1;have ce:=Zb BK293.out 2
          go_wp2_with (first|(go_at_call 20;(with_reducible refine(r09_SameInts.calls k2 _ _ ((Ze l0_1 x5_2).f1) _ _ ((Ze l1_1 x5_2).f1) false _ ?sa ?sb ?sc ?sd cS.out).mono ?_);(case sa=>exact Kd.C_below aK.out zz59);(case sb=>exact a5.out);(case sc=>exact Kd.C_below aL.out zz59);(case sd=>exact a6.out);rintro e w' ⟨rfl,⟨nd,rfl⟩⟩))
          go_meet
          case rel=>exact⟨_,(true),zz157,H',⟨zz153⟩,⟨zz3⟩,⟨zz4⟩,⟨zz0⟩,⟨zz1⟩,⟨zz59⟩⟩
         rw[if_neg a9] at H;have az:=beq_eq_false_iff_ne.mpr a9;have bB:=bne_iff_ne.mpr a9
         (first|rw[az]|(simp only[Zt,Zu];rw[az])|skip)
         have H':=aM H;clear H;have eh:=U.out;have eC:=NB288_292.out;have ei:=X.out;have eD:=NB289_292.out;have ej:=NB292_293.out;have eE:=NB293_292.out;have bV:aa.cell? ⟨m,0,none⟩=some (.int .i64 0):=(Za BK292.out 0).trans rfl;have bW:aa.cell? ⟨m,1,none⟩=some (.slice none 0 0):=(Za BK292.out 1).trans rfl;have bX:aa.cell? ⟨m,2,none⟩=some (.slice none 0 0):=(Za BK292.out 2).trans rfl;have cf:=Zb BK292.out 0;have cg:=Zb BK292.out 1;have ci:=Zb BK292.out 2;have ek:=Y.out;have eF:=NB288_293.out;have em:=Z.out;have eG:=NB289_293.out;have bY:aa.cell? ⟨z,0,none⟩=some (.int .i64 0):=(Za BK293.out 0).trans rfl;have bZ:aa.cell? ⟨z,1,none⟩=some (.slice none 0 0):=(Za BK293.out 1).trans rfl;have b0:aa.cell? ⟨z,2,none⟩=some (.slice none 0 0):=(Za BK293.out 2).trans rfl;have cj:=Zb BK293.out 0;have ck:=Zb BK293.out 1;have cl:=Zb BK293.out 2;go_wp2;go_meet
         case rel=>exact⟨_,(true),zz157,H',⟨zz153⟩,⟨zz3⟩,⟨zz4⟩,⟨zz0⟩,⟨zz1⟩,⟨zz59⟩⟩
        case rest=>
         clear bu;(try clear c1);(try clear c2);(try clear p2);(try clear q2);(try clear fe);(try clear c3);(try clear c4);(try clear c5);(try clear c6);(try clear aA);(try clear bn);(try clear c7);(try clear c10);(try clear bs);(try clear bm);(try clear bx);(try clear bz);(try clear cP);(try clear bA);(try clear cQ);(try clear eX);(try clear eY);(try clear ff);(try clear fg);(try clear eW);(try clear a9);(try clear az);(try clear bB);(try clear bC);(try clear eZ);(try clear e0);(try clear e1);(try clear e2);(try clear e3);(try clear e4);(try clear e5);(try clear e6);(try clear e7);(try clear e8);(try clear e9);(try clear fa);(try clear fb);(try clear fc);(try clear fd);(try clear aN);(try clear aO);(try clear aP);(try clear aQ);(try clear bF);(try clear bH);(try clear bI);(try clear bJ);(try clear bK);(try clear bL);(try clear bM);(try clear bN);(try clear bO);(try clear bP);(try clear bQ);(try clear bS);(try clear bT);(try clear bU);(try clear bV);(try clear bW);(try clear bX);(try clear bY);(try clear bZ);(try clear b0);(try clear aW);(try clear aX);(try clear aY);(try clear aZ);(try clear aR);(try clear aS);(try clear aT);(try clear aU);(try clear b1);(try clear b2);(try clear b3);(try clear b4);(try clear b5);(try clear b6);(try clear b7);(try clear b8);(try clear b9);(try clear ca);(try clear cb);(try clear cc);(try clear cd);(try clear ce);(try clear cf);(try clear cg);(try clear ci);(try clear cj);(try clear ck);(try clear cl);(try clear a0);(try clear a1);(try clear a2);(try clear a3);(try clear ac);(try clear ad);(try clear ae);(try clear af);(try clear ag);(try clear ah);(try clear p2);(try clear bo);(try clear bp);(try clear bq);(try clear br);obtain⟨kq,aI,rfl,HA,cu,BK288,BK289,BK292,BK293,HB⟩:=hcut
         cases kq with
         |zero=>exact absurd HA.out (by simp[r30_Same.j2])
         | succ cE=>
          have H:=HA.out;clear HA;simp only[r30_Same.j2] at H
          by_cases cq:aI=true
          ·subst cq;have H1:(some false)=some r:=by rw[if_pos rfl] at H;exact H
           clear H;have H:=H1;clear H1;obtain rfl:=oI H;go_wp2;go_ret
           exact⟨by first|rfl|(simp[Zm,Zl]<;>rfl)|(simp[*,Zm,Zl]<;>rfl),by repeat(first|(with_reducible first|exact HB.out|apply Zh|apply Zg|apply Zj|refine Zi ?_ GE288.out|refine Zi ?_ GE289.out|refine Zi ?_ GE292.out|refine Zi ?_ GE293.out)|exact HB.out)⟩
          replace cq:=Bool.eq_false_iff.mpr cq;subst cq;have H1:(r30_Same.l0 cE (wrap64 (x5_2+1)) L l0_1 O l1_1)=some r:=by rw[if_neg (show¬(false=true) by decide)] at H;exact H
          clear H;have H:=H1;clear H1;have H':=aM H;clear H;go_wp2
          go_roundg cE
          case measure=>have:=HJ2.out;have:=HK2.out;have:=cu.out;omega
          case rel=>exact⟨(wrap64 (x5_2+1)),zz157,H',⟨(by have:=HJ2.out;have:=HK2.out;have:=cu.out;omega)⟩,⟨(zB BK288)⟩,⟨(zB BK289)⟩,⟨zz59⟩⟩
       rw[if_neg bA] at H
       exact absurd H (by simp)
      rw[if_neg bz] at H
      exact absurd H (by simp)
     rw[if_neg bm] at H;have bx:=dF bm;clear bm;obtain rfl:=oI H;have en:=ai.out;have eH:=aj.out;have db:wr.cell? ⟨B,0,none⟩=some (.int .i64 L):=(Za BK288.out 0).trans rfl;have dc:wr.cell? ⟨B,1,none⟩=some (.slice ak l0_1.length P):=(Za BK288.out 1).trans rfl;have dd:=Zb BK288.out 0;have de:=Zb BK288.out 1;go_wp2;go_ret
     exact⟨by first|rfl|(simp[Zm,Zl]<;>rfl)|(simp[*,Zm,Zl]<;>rfl),by repeat(first|(with_reducible first|exact HB.out|apply Zh|apply Zg|apply Zj|refine Zi ?_ GE288.out|refine Zi ?_ GE289.out)|exact HB.out)⟩
end
end Go.Proofs.YtjjlhbgpdncpcaaGreat.P
namespace Go.Proofs.YtjjlhbgpdncpcaaGreat.P.M
structure GI (n:Nat) (gens:List (List Int)) (seen:List Bool) (out:List (List Int)):Prop where
 len:seen.length=46656
 el:∀p∈out,Gp n gens p
 one:idL n∈out
 nd:out.Nodup
 mem:∀p,Pm n p→(rdOf false seen (cdF 0 p)=true↔p∈out)
 cnt:out.length=seen.count true
theorem GI.short {n:Nat} {gens:List (List Int)} {seen:List Bool} {out:List (List Int)} (h:GI n gens seen out):out.length≤46656:=by
 have h1:=h.cnt
 have h2:seen.count true≤seen.length:=List.count_le_length
 have:=h.len
 omega
structure Elems (n:Nat) (G:List Int→Prop) (r:List (List Int)):Prop where
 mem:∀p,p∈r↔G p
 asc:r.Pairwise (Lx n)
 short:r.length≤46656
theorem at1_snoc {l:List (List Int)} {i:Nat} (h:i<l.length) (p:List Int):at1 (l++ [p]) i=at1 l i:=by
 simp[at1,List.getD_eq_getElem?_getD,List.getElem?_append_left h]
theorem GI.next {n:Nat} (hn:n≤6) {gens:List (List Int)} (hg:∀p∈gens,Pm n p) {seen:List Bool} {out:List (List Int)} (h:GI n gens seen out) {p:List Int} (hp:Gp n gens p) (hs:rdOf false seen (cdF 0 p)=false):GI n gens (seen.set (cdF 0 p).toNat true) (out++ [p]):=by
 have hpm:=hp.pm hg
 have hc:=cd_small hn hpm
 have hl:=h.len
 refine⟨by rw[List.length_set];exact hl,fun q hq=> ?_,List.mem_append_left _ h.one,?_,fun q hq=> ?_,?_⟩
 ·rw[List.mem_append,List.mem_singleton] at hq
  rcases hq with hq|rfl
  ·exact h.el q hq
  ·exact hp
 ·rw[List.nodup_append]
  refine⟨h.nd,by simp,fun a ha b hb e=> ?_⟩;rw[List.mem_singleton] at hb;subst hb;rw[e] at ha;rw[(h.mem _ hpm).2 ha] at hs;cases hs
 ·have hcq:=cd_small hn hq
  rw[rdb_set true hc.1 (by omega) hcq.1,List.mem_append,List.mem_singleton]
  by_cases e:cdF 0 q=cdF 0 p
  ·rw[if_pos e];simp[cd_inj hn hq hpm e]
  rw[if_neg e,h.mem q hq]
  constructor
  ·exact fun k=> .inl k
  ·rintro (k|rfl)
   ·exact k
   ·exact absurd rfl e
 ·rw[rdb_lt hc.1 (by omega) hs,List.length_append,h.cnt];rfl
theorem grp_l1 {n:Nat} (h1:1≤n) (hn:n≤6) {gens:List (List Int)} (hg:∀p∈gens,Pm n p) (hgl:gens.length≤4611686018427387904) (seen:List Bool) (out:List (List Int)) (i j:Nat)
    (h:GI n gens seen out) (hi:i<out.length) (hj:j≤gens.length) (hpr:∀a:Nat,a<i→∀g∈gens,mulL (at1 out a) g∈out) (hpj:∀c:Nat,c<j→∀hc:c<gens.length,mulL (at1 out i) gens[c]∈out):
    ∃r,Elems n (Gp n gens) r∧Tells (fun k=>r30_Group.l1 k gens seen out (i:Int) (j:Int)) r:=by
 have hsh:=h.short
 by_cases hjl:j<gens.length
 ·have hel:=h.el _ (List.getElem_mem hi)
  have hpm:=hel.pm hg;have hgm:=hg _ (List.getElem_mem hjl);have hpl:=hpm.1;have hgml:=hgm.1;have hG:Gp n gens (mulL out[i] gens[j]):=Cl.mul hel (List.getElem_mem hjl);have hP:=hG.pm hg;have hc:=cd_small hn hP;have hsl:=h.len;have ea:at1 out i=out[i]:=at1_eq hi;have tl:=Then_tells out[i] gens[j] (by omega) (by rw[hgml];exact hpm.rg);have tc:=code_tells hn hP
  by_cases hs:rdOf false seen (cdF 0 (mulL out[i] gens[j]))=true
  ·obtain⟨r,hr,ht⟩:=grp_l1 h1 hn hg hgl seen out i (j+1) h hi (by omega) hpr (fun c hcj hcl=>by
      by_cases e:c=j
      ·subst e;rw[ea];exact(h.mem _ hP).1 hs
      ·exact hpj c (by omega) hcl)
   refine⟨r,hr,Tells.shift ?_⟩;simp only[r30_Group.l1,rd1_at,ea,at1_eq hjl]
   refine Tells.pos (by omega) (Tells.pos (by omega) (Tells.pos (by omega) (Tells.pos (by omega) (Tells.bind tl (Tells.bind tc (Tells.pos hc.1 (Tells.pos (by omega) (Tells.pos hs ?_))))))));rw[w64 (n:=(j:Int)+1) (by omega) (by omega)]
   exact ht
  ·have hs':rdOf false seen (cdF 0 (mulL out[i] gens[j]))=false:=by simpa using hs
   have hnx:=h.next hn hg hG hs'
   have hnl:=hnx.short;rw[List.length_append,List.length_singleton] at hnl
   obtain⟨r,hr,ht⟩:=grp_l1 h1 hn hg hgl _ _ i (j+1) hnx (by rw[List.length_append];omega) (by omega) (fun a ha g hgg=>by
    rw[at1_snoc (by omega)]
    exact List.mem_append_left _ (hpr a ha g hgg)) (fun c hcj hcl=>by
    rw[at1_snoc hi]
    by_cases e:c=j
    ·subst e;rw[ea];exact List.mem_append_right _ (List.mem_singleton.2 rfl)
    ·exact List.mem_append_left _ (hpj c (by omega) hcl))
   refine⟨r,hr,Tells.shift ?_⟩;simp only[r30_Group.l1,rd1_at,ea,at1_eq hjl]
   refine Tells.pos (by omega) (Tells.pos (by omega) (Tells.pos (by omega) (Tells.pos (by omega) (Tells.bind tl (Tells.bind tc (Tells.pos hc.1 (Tells.pos (by omega) (Tells.neg (by rw[hs'];decide) (Tells.bind tc (Tells.pos hc.1 (Tells.pos (by omega) (Tells.pos (by omega) ?_))))))))))));rw[w64 (n:=(j:Int)+1) (by omega) (by omega)]
   exact ht
 ·-- the element's products are done
  have hall:∀a:Nat,a<i+1→∀g∈gens,mulL (at1 out a) g∈out:=by
   intro a ha g hgg
   by_cases e:a=i
   ·subst e;obtain⟨c,hc,rfl⟩:=List.getElem_of_mem hgg
    exact hpj c (by omega) hc
   ·exact hpr a (by omega) g hgg
  by_cases hnx:i+1<out.length
  ·obtain⟨r,hr,ht⟩:=grp_l1 h1 hn hg hgl seen out (i+1) 0 h hnx (by omega) hall (fun c hc=>by omega)
   refine⟨r,hr,Tells.shift ?_⟩;simp only[r30_Group.l1]
   refine Tells.neg (by omega) ?_;rw[w64 (n:=(i:Int)+1) (by omega) (by omega)]
   refine Tells.shift ?_;simp only[r30_Group.l0]
   exact Tells.pos (by omega) ht
  ·have hlen:∀p∈out,p.length=n:=fun p hp=>((h.el p hp).pm hg).1
   obtain⟨r,hr,hrl,hasc,ht⟩:=sort_tells (show n≤64 by omega) out (by omega) hlen h.nd
   refine⟨r,⟨fun p=> ?_,hasc,by omega⟩,Tells.shift ?_⟩
   ·rw[hr p]
    refine⟨h.el p,fun hp=> ?_⟩
    refine Cl.least (H:=fun p=>p∈out) h.one (fun p g hp hgg=> ?_) hp;obtain⟨a,ha,rfl⟩:=List.getElem_of_mem hp;have:=hall a (by omega) g hgg
    rwa [at1_eq ha] at this
   ·simp only[r30_Group.l1]
    refine Tells.neg (by omega) ?_;rw[w64 (n:=(i:Int)+1) (by omega) (by omega)]
    refine Tells.shift ?_;simp only[r30_Group.l0]
    exact Tells.neg (by omega) ht
 termination_by (46656-out.length,out.length-i,gens.length-j)
 decreasing_by
  ·apply Prod.Lex.right;apply Prod.Lex.right;omega
  ·apply Prod.Lex.left;simp only[List.length_append,List.length_singleton] at*;omega
  ·apply Prod.Lex.right;apply Prod.Lex.left;omega
theorem Group_tells {n:Nat} (h1:1≤n) (hn:n≤6) {gens:List (List Int)} (hg:∀p∈gens,Pm n p) (hgl:gens.length≤4611686018427387904):∃r,Elems n (Gp n gens) r∧Tells (fun k=>r30_Group.f k (n:Int) gens) r:=by
 have hc:=cd_small hn (Pm_id n)
 have hz:∀y:Int,rdOf false (List.replicate 46656 false) y=false:=by
  intro y;simp only[rdOf,List.getD_eq_getElem?_getD,List.getElem?_replicate]
  split<;>rfl
 have h :GI n gens ((List.replicate 46656 false).set (cdF 0 (idL n)).toNat true) [idL n]:=by
  refine⟨by rw[List.length_set,List.length_replicate],fun p hp=> ?_,by simp,by simp,fun p hp=> ?_,?_⟩
  ·rw[List.mem_singleton] at hp;rw[hp];exact .one
  ·have hcp:=cd_small hn hp;rw[rdb_set true hc.1 zz162 hcp.1,List.mem_singleton]
   by_cases e:cdF 0 p=cdF 0 (idL n)
   ·rw[if_pos e];simp[cd_inj hn hp (Pm_id n) e]
   ·rw[if_neg e,hz]
    constructor
    ·intro k;cases k
    ·rintro rfl;exact absurd rfl e
  ·rw[rdb_lt hc.1 zz162 (hz _),List.count_replicate];rfl
 obtain⟨r,hr,ht⟩:=grp_l1 h1 hn hg hgl _ _ 0 0 h (by simp) (by omega) (fun a ha=>by omega) (fun c hc=>by omega)
 refine⟨r,hr,?_⟩
 unfold r30_Group.f
 refine Tells.pos (by decide) (Tells.bind Tells.now (Tells.bind (Unit_tells n (by omega)) (Tells.bind Tells.now (Tells.pos (by simp) ?_))))
 have e0:Zo [idL n] 0=idL n:=rfl
 rw[e0]
 refine Tells.bind (code_tells hn (Pm_id n)) (Tells.pos hc.1 (Tells.pos zz162 ?_))
 refine Tells.shift ?_
 simp only[r30_Group.l0]
 exact Tells.pos (by simp) ht
theorem least_found {n:Nat} {G:List Int→Prop} {l:List (List Int)} (he:Elems n G l) {b y:Int} {i:Nat} (hi:i<l.length) (hf:Fx b l[i]) (hv:ap l[i] b=y) (hno:∀a:Nat,a<i→∀ha:a<l.length,¬(Fx b l[a]∧ap l[a] b=y)):LeastAt n G b y l[i]:=by
 refine⟨(he.mem _).1 (List.getElem_mem hi),hf,hv,fun s hs hsf hsv=> ?_⟩
 obtain⟨c,hc,rfl⟩:=List.getElem_of_mem ((he.mem s).2 hs)
 by_cases h:c<i
 ·exact absurd ⟨hsf,hsv⟩ (hno c h hc)
 by_cases e:c=i
 ·subst e;exact .inl rfl
 exact .inr (List.pairwise_iff_getElem.1 he.asc i c hi hc (by omega))
open Classical in
theorem of_l2 {n:Nat} (hn:n≤64) {G:List Int→Prop} (hG:∀p,G p→Pm n p) {l:List (List Int)} (he:Elems n G l) {b y:Nat} (hb:b<n) (hy:y≤n) (d:Int) (lv:List S56) {orb:List Int} {reps:List (List Int)} (ho:orb.length≤y) (hr:reps.length≤y) (v:Int×List S56)
    (cont:Tells (fun k=>r30_Of.l1 k (n:Int) l (b:Int) ((y:Int)+1) d lv (b:Int) (orb++(if∃q,LeastAt n G (b:Int) (y:Int) q then [(y:Int)] else [])) (reps++(if∃q,LeastAt n G (b:Int) (y:Int) q then [Yi n G (b:Int) (y:Int)] else []))) v):
    ∀(m i:Nat),i+m=l.length→(∀a:Nat,a<i→∀ha:a<l.length,¬(Fx (b:Int) l[a]∧ap l[a] (b:Int)=y))→Tells (fun k=>r30_Of.l2 k (n:Int) l (b:Int) (y:Int) (i:Int) d lv (b:Int) orb reps) v
 | 0, i,hi,hno=>by
  have hsh:=he.short
  refine Tells.shift ?_;simp only[r30_Of.l2]
  refine Tells.neg (by omega) ?_;rw[w64 (n:=(y:Int)+1) (by omega) (by omega)]
  have hne:¬∃q,LeastAt n G (b:Int) (y:Int) q:=by
   rintro ⟨q,hq⟩;obtain⟨c,hc,rfl⟩:=List.getElem_of_mem ((he.mem q).2 hq.1)
   exact hno c (by omega) hc ⟨hq.2.1,hq.2.2.1⟩
  rw[if_neg hne,if_neg hne,List.append_nil,List.append_nil] at cont
  exact cont
 | m + 1,i,hi,hno=>by
  have hsh:=he.short;have hil:i<l.length:=by omega
  have hp:=hG _ ((he.mem _).1 (List.getElem_mem hil));have hpl:=hp.1;have hfx:=fixes_tells (p:=l[i]) (b:=b) (by omega) (by omega)
  refine Tells.shift ?_;simp only[r30_Of.l2,rd1_at,at1_eq hil,rd_ap]
  refine Tells.pos (by omega) (Tells.pos (by omega) (Tells.bind hfx ?_))
  have next:¬(Fx (b:Int) l[i]∧ap l[i] (b:Int)=y)→Tells (fun k=>r30_Of.l2 k (n:Int) l (b:Int) (y:Int) (wrap64 ((i:Int)+1)) d lv (b:Int) orb reps) v:=by
   intro hnot;rw[w64 (n:=(i:Int)+1) (by omega) (by omega)]
   refine of_l2 hn hG he hb hy d lv ho hr v cont m (i+1) (by omega) (fun a h1 h2=> ?_)
   by_cases e:a=i
   ·subst e;exact hnot
   ·exact hno a (by omega) h2
  by_cases hf:Fx (b:Int) l[i]
  ·refine Tells.pos (dT hf) (Tells.pos (by omega) (Tells.pos (by omega) ?_))
   by_cases hv:ap l[i] (b:Int)=y
   ·refine Tells.pos hv (Tells.pos (by omega) (Tells.pos (by omega) ?_));rw[w64 (n:=(y:Int)+1) (by omega) (by omega)];have hq:=least_found he hil hf hv hno;have hex:∃q,LeastAt n G (b:Int) (y:Int) q:=⟨_,hq⟩;rw[if_pos hex,if_pos hex,leastQ_eq hq] at cont
    exact cont
   ·exact Tells.neg hv (next (fun h=>hv h.2))
  ·exact Tells.neg (by rw[dF hf];decide) (next (fun h=>hf h.1))
theorem orbF_len (n:Nat) (G:List Int→Prop) (b:Int) (x m:Nat):(orbF n G b x m).length≤m:=by
 unfold orbF
 have:=List.length_filter_le (p:=fun y=> @decide (∃q,LeastAt n G b y q) (Classical.propDecidable _)) ((List.range' x m).map (fun(y:Nat)=>(y:Int)))
 rw[List.length_map,List.length_range'] at this
 exact this
open Classical in
theorem of_l1 {n:Nat} (hn:n≤64) {G:List Int→Prop} (hG:∀p,G p→Pm n p) {l:List (List Int)} (he:Elems n G l) {b:Nat} (hb:b<n) (d:Int) (lv:List S56) (hlv:lv.length≤64) (v:Int×List S56):
    ∀(m y:Nat) (orb:List Int) (reps:List (List Int)),y+m=n→orb.length≤y→reps.length≤y→
    Tells (fun k=>r30_Of.l0 k (n:Int) l ((b:Int)+1) d (if 1<(orb++orbF n G (b:Int) y m).length then lv++ [⟨(b:Int),orb++orbF n G (b:Int) y m,reps++(orbF n G (b:Int) y m).map (Yi n G (b:Int))⟩] else lv)) v→
    Tells (fun k=>r30_Of.l1 k (n:Int) l (b:Int) (y:Int) d lv (b:Int) orb reps) v
 | 0, y,orb,reps,hy,ho,hr,cont=>by
  refine Tells.shift ?_;simp only[r30_Of.l1]
  refine Tells.neg (by omega) ?_;have e:orbF n G (b:Int) y 0= []:=rfl;rw[e,List.append_nil,List.map_nil,List.append_nil] at cont;rw[w64 (n:=(b:Int)+1) (by omega) (by omega)]
  by_cases h:1<orb.length
  ·rw[if_pos h] at cont
   exact Tells.pos (by omega) (Tells.pos (by omega) cont)
  ·rw[if_neg h] at cont
   exact Tells.neg (by omega) cont
 | m + 1,y,orb,reps,hy,ho,hr,cont=>by
  refine Tells.shift ?_;simp only[r30_Of.l1]
  refine Tells.pos (by omega) ?_
  refine of_l2 hn hG he hb (by omega) d lv ho hr v ?_ l.length 0 (by omega) (fun a ha=>by omega);rw[orbF_succ] at cont
  refine of_l1 hn hG he hb d lv hlv v m (y+1) _ _ (by omega) ?_ ?_ ?_
  ·rw[List.length_append];split<;>simp<;>omega
  ·rw[List.length_append];split<;>simp<;>omega
  ·rw [List.append_assoc,List.append_assoc]
   have:∀z,(if∃q,LeastAt n G (b:Int) (y:Int) q then [Yi n G (b:Int) (y:Int)] else [])++z=((if∃q,LeastAt n G (b:Int) (y:Int) q then [(y:Int)] else []).map (Yi n G (b:Int)))++z:=by
    intro z
    split<;>rfl
   rw[this,←List.map_append]
   exact cont
theorem orbF_low {n:Nat} {G:List Int→Prop} (hG:∀p,G p→Pm n p) {b:Nat} (hb:b<n):∀(j:Nat),j≤b→orbF n G (b:Int) 0 n=orbF n G (b:Int) j (n-j)
 |0,_=>rfl
 | j+1,hj=>by
  rw[orbF_low hG hb j (by omega),show n-j=(n-(j+1))+1 by omega,orbF_succ,if_neg]
  ·rfl
  ·rintro ⟨q,hq⟩;have:=hq.2.1.ge (hG q hq.1) (by omega) (by omega);rw[hq.2.2.1] at this;omega
theorem of_l0 {n:Nat} (hn:n≤64) {G:List Int→Prop} (hG:∀p,G p→Pm n p) {l:List (List Int)} (he:Elems n G l) (d:Int):∀(m b:Nat) (lv:List S56),b+m=n→lv.length≤b→Tells (fun k=>r30_Of.l0 k (n:Int) l (b:Int) d lv) (d,lv++lvsF n G b m)
 | 0,b,lv,hb,hl=>by
  refine Tells.shift ?_;simp only[r30_Of.l0]
  exact Tells.neg (by omega) (Tells.now' (by simp[lvsF]))
 | m +1,b,lv,hb,hl=>by
  refine Tells.shift ?_;simp only[r30_Of.l0]
  refine Tells.pos (by omega) ?_
  refine of_l1 hn hG he (by omega) d lv (by omega) _ (n-b) b [] [] (by omega) (by simp) (by simp) ?_;rw[List.nil_append,List.nil_append,←orbF_low hG (by omega) b (Nat.le_refl _),lvsF_succ];have ih:=of_l0 hn hG he d m (b+1) (if 1<(orbF n G (b:Int) 0 n).length then lv++ [⟨(b:Int),orbF n G (b:Int) 0 n,(orbF n G (b:Int) 0 n).map (Yi n G (b:Int))⟩] else lv) (by omega) (by split;(rw[List.length_append];simp;omega);omega)
  have e:∀z,(if 1<(orbF n G (b:Int) 0 n).length then lv++ [lvP n G (b:Int)] else lv)++z=lv++((if 1<(lvP n G (b:Int)).f1.length then [lvP n G (b:Int)] else [])++z):=by
   intro z
   by_cases h:1<(orbF n G (b:Int) 0 n).length
   ·rw[if_pos h,if_pos (show 1<(lvP n G (b:Int)).f1.length from h),List.append_assoc]
   ·rw[if_neg h,if_neg (show¬1<(lvP n G (b:Int)).f1.length from h)];rfl
  rw[←e]
  exact ih
theorem Of_tells {n:Nat} (hn:n≤64) {G:List Int→Prop} (hG:∀p,G p→Pm n p) {l:List (List Int)} (he:Elems n G l):Tells (fun k=>r30_Of.f k (n:Int) l) ((n:Int),ZR n G):=by
 unfold r30_Of.f
 have:=of_l0 hn hG he (n:Int) n 0 [] (by omega) (by simp)
 rw[List.nil_append] at this
 exact this
theorem group_tells (n:Int) (l:List (List Int)) (hl:l.length≤4611686018427387904):Tells (fun k=>r30_group.f k n l) (gensE n l):=by
 unfold r30_group.f gensE
 by_cases h1:n<1
 ·refine Tells.pos h1 (Tells.now' ?_)
  rw[if_pos (.inl h1)]
 refine Tells.neg h1 ?_
 by_cases h2:n>64
 ·refine Tells.pos h2 (Tells.now' ?_)
  rw[if_pos (.inr h2)]
 refine Tells.neg h2 ?_
 rw[if_neg (by omega)]
 exact Tells.bind (all_tells n l hl) Tells.now
theorem RBuild_tells (n:Int) (l:List (List Int)) (hn:n≤6∨64<n) (hl:l.length≤4611686018427387904):Tells (fun k=>r30_Build.f k n l) (ZW n l):=by
 unfold r30_Build.f ZW
 refine Tells.bind (group_tells n l hl) ?_
 by_cases h:gensE n l=0
 ·obtain⟨m,rfl,h1,e,hg⟩:=gensE_zero h
  rw[if_pos h];obtain⟨r,hr,ht⟩:=Group_tells h1 (by omega) hg hl
  refine Tells.pos h (Tells.bind ht (Tells.bind (Of_tells e (fun p hp=>hp.pm hg) hr) Tells.now))
 rw[if_neg h]
 exact Tells.neg h Tells.now
end Go.Proofs.YtjjlhbgpdncpcaaGreat.P.M
namespace Go.Proofs.YtjjlhbgpdncpcaaGreat.P
section
attribute [local go_sem] ZH ZF ZL ZK ZB ZA ZG ZE
mutual
def r09_Few.j0:Nat→Int→Bool→Int→List (List Int)→Option (Bool)
 |0,_,_,_,_=>none
 |k+1,x1,x16,x302000,x302001=>if x16=true then(some false) else(r09_Few.l0 k (wrap64 (x1-(x302001.length:Int))) 0 x302000 x302001)
def r09_Few.l0:Nat→Int→Int→Int→List (List Int)→Option (Bool)
 |0,_,_,_,_=>none
 |k+1,x5,x6,x302000,x302001=>if x6<(x302001.length:Int) then(if 0≤x6 then(if((Zo x302001 x6).length:Int)>x5 then(some false) else(r09_Few.l0 k (wrap64 (x5-((Zo x302001 x6).length:Int))) (wrap64 (x6+1)) x302000 x302001)) else(none)) else(some true)
end
def r09_Few.f (k:Nat) (a0_0:Int) (l0_1:List (List Int)) (a1:Int):Option (Bool):=if a0_0>260 then(r09_Few.j0 k a1 true a0_0 l0_1) else(r09_Few.j0 k a1 (decide ((l0_1.length:Int)>a1)) a0_0 l0_1)
theorem r09_Few.calls (k:Nat) (z:Int) (I:Option Addr) (J:Nat) (l0_1:List (List Int)) (a1:Int) (r:Bool) (w:World) (au:Kd.C (Kd.slice 3 (Kd.int .i64)) w I l0_1.length l0_1) (ar:l0_1.length≤J) (h:r09_Few.f k z l0_1 a1=some r):
    Calls Tryz.prog 29 #[.agg #[.int .i64 z,.slice I l0_1.length J],.int .i64 a1] w fun e w'=>e= .returned (.bool r)∧Below w.heap.size w w':=by
 have a6:=Tryz.underlying68
 have ac:=aM au
 have a3:=aM ar
 clear au ar
 have HB:=aM (Below.refl w.heap.size w)
 have H:(if z>260 then(r09_Few.j0 k a1 true z l0_1) else(r09_Few.j0 k a1 (decide ((l0_1.length:Int)>a1)) z l0_1))=some r:=h
 clear h
 have aE:=aM H
 clear H
 go_enter Tryz.func29,Tryz.ntmps29
 go_upto_region 1 with(first|((with_reducible refine Zq (N:=2) rfl ?_);(try(refine Zv (by rfl) ?_;dsimp only));refine Zx ?hg (N:=2) ?hd (cs:= #[.int .i64 z,.slice I l0_1.length J]) (t:=68) ?hr ?_;(case hd=>rfl);(case hg=>rfl);(case hr=>first|(go_simp;done)|(go_simp;rfl));intro o hg w4 hbox hb;have m:=aM (hbox);have a2:=aM ((by rw[hg];exact(Zc zz128):w.heap.size≤o));have GE301:=aM ((by rw[hg];exact(Zc zz128):w.heap.size≤o));replace HB:=aM (Zd zz128 hb);clear hb hbox hg))
 (try simp only[Act.put,sA,sB,sC])
 go_cut [16] (fun a5 wc=>∃(kq:Nat) (Z:Bool),a5= .bool Z∧Aside0 (r09_Few.j0 kq a1 Z z l0_1=some r)∧Aside0 (kq≤k)∧Aside0 (wc.heap[o]? =some (.cells #[.int .i64 z,(.slice I l0_1.length J)] 68 (0,0)))∧Aside0 (Below w.heap.size w wc))
 case first=>
  have H:=aE.out;clear aE
  by_cases c5:z>260
  ·rw[if_pos c5] at H;have U:=dT c5;clear c5
   (first|rw[U]|(simp only[Zt,Zu];rw[U])|skip)
   have H':=aM H;clear H;have ad:w4.cell? ⟨o,0,none⟩=some (.int .i64 z):=(Za m.out 0).trans rfl;have ae:w4.cell? ⟨o,1,none⟩=some (.slice I l0_1.length J):=(Za m.out 1).trans rfl;have ah:=Zb m.out 0;have ai:=Zb m.out 1;go_wp2;go_meet
   case rel=>exact⟨_,(true),zz157,H',⟨zz160⟩,⟨(zB m)⟩,⟨zz97⟩⟩
  rw[if_neg c5] at H;have U:=dF c5;clear c5
  (first|rw[U]|(simp only[Zt,Zu];rw[U])|skip)
  have H':=aM H;clear H;have af:w4.cell? ⟨o,0,none⟩=some (.int .i64 z):=(Za m.out 0).trans rfl;have ag:w4.cell? ⟨o,1,none⟩=some (.slice I l0_1.length J):=(Za m.out 1).trans rfl;have aj:=Zb m.out 0;have ak:=Zb m.out 1;go_wp2;go_meet
  case rel=>exact⟨_,(decide ((l0_1.length:Int)>a1)),zz157,H',⟨zz160⟩,⟨(zB m)⟩,⟨zz97⟩⟩
 case rest=>
  clear aE;(try clear c2);(try clear p2);(try clear c5);(try clear U);(try clear ad);(try clear ae);(try clear af);(try clear ag);(try clear ah);(try clear ai);(try clear aj);(try clear ak);obtain⟨kq,Z,rfl,HA,HJ2,m,HB⟩:=hcut
  cases kq with
  |zero=>exact absurd HA.out (by simp[r09_Few.j0])
  | succ aI =>
   have H:=HA.out;clear HA;simp only[r09_Few.j0] at H
   by_cases c8:Z=true
   ·subst c8;have H1:(some false)=some r:=by rw[if_pos rfl] at H;exact H
    clear H;have H:=H1;clear H1;obtain rfl:=oI H;go_wp2;go_ret
    exact⟨by first|rfl|(simp[Zm,Zl]<;>rfl)|(simp[*,Zm,Zl]<;>rfl),by repeat(first|(with_reducible first|exact HB.out|apply Zh|apply Zg|apply Zj|refine Zi ?_ GE301.out)|exact HB.out)⟩
   replace c8:=Bool.eq_false_iff.mpr c8;subst c8;have H1:(r09_Few.l0 aI (wrap64 (a1-(l0_1.length:Int))) 0 z l0_1)=some r:=by rw[if_neg (show¬(false=true) by decide)] at H;exact H
   clear H;have H:=H1;clear H1;have H':=aM H;clear H;have aA:wc.cell? ⟨o,0,none⟩=some (.int .i64 z):=(Za m.out 0).trans rfl;have aB:wc.cell? ⟨o,1,none⟩=some (.slice I l0_1.length J):=(Za m.out 1).trans rfl;have aC:=Zb m.out 0;have aD:=Zb m.out 1;go_wp2
   go_loopg [5,6] aI (fun kq v5 v6 w'=>∃(x5_2:Int) (D:Int),v5= .int .i64 x5_2∧v6= .int .i64 D∧Aside0 (r09_Few.l0 kq x5_2 D z l0_1=some r)∧Aside0 (kq≤aI)∧Aside0 (w'.heap[o]? =some (.cells #[.int .i64 z,(.slice I l0_1.length J)] 68 (0,0)))∧Aside0 (Below w.heap.size w w'))
   case atStart=>exact⟨(wrap64 (a1-(l0_1.length:Int))),(0),zz157,zz157,H',⟨Nat.le_refl _⟩,⟨(zB m)⟩,⟨zz97⟩⟩
   case round =>
    clear H';(try clear c2);(try clear p2);(try clear c5);(try clear U);(try clear p6);(try clear c8);(try clear ad);(try clear ae);(try clear af);(try clear ag);(try clear aA);(try clear aB);(try clear ah);(try clear ai);(try clear aj);(try clear ak);(try clear aC);(try clear aD);(try clear p2);obtain⟨x5_2,D,rfl,rfl,HA,HK2,m,HB⟩:=hrel
    cases gk with
    |zero=>exact absurd HA.out (by simp[r09_Few.l0])
    | succ k2=>
     have H:=HA.out;clear HA;simp only[r09_Few.l0] at H
     by_cases c10:D<(l0_1.length:Int)
     ·rw [if_pos c10] at H;have aG:=dT c10;clear c10
      by_cases ay:0≤D
      ·rw [if_pos ay] at H;have a4:=dT ay;clear ay
       by_cases al:((Zo l0_1 D).length:Int)>x5_2
       ·rw[if_pos al] at H;have aH:=dT al;clear al;obtain rfl:=oI H;have aN:wr.cell? ⟨o,0,none⟩=some (.int .i64 z):=(Za m.out 0).trans rfl;have aO:wr.cell? ⟨o,1,none⟩=some (.slice I l0_1.length J):=(Za m.out 1).trans rfl;have aT:=Zb m.out 0;have aU:=Zb m.out 1;have X:0≤(D:Int):=oD zz156;have Y:D<(l0_1.length:Int):=oD zz156;obtain⟨ao,ax,az,aq,B,O,L⟩:=ZY ac.out D X Y
        cases aq;replace B:=(HB.out.cell (wB w _ B)).trans B;have an:=aM L;have am:=aM O;clear L O;replace X:=eq_true X;replace Y:=eq_true Y;go_wp2;go_ret
        exact⟨by first|rfl|(simp[Zm,Zl]<;>rfl)|(simp[*,Zm,Zl]<;>rfl),by repeat(first|(with_reducible first|exact HB.out|apply Zh|apply Zg|apply Zj|refine Zi ?_ GE301.out)|exact HB.out)⟩
       rw[if_neg al] at H;have aH:=dF al;clear al;have H':=aM H;clear H;have aP:wr.cell? ⟨o,0,none⟩=some (.int .i64 z):=(Za m.out 0).trans rfl;have aQ:wr.cell? ⟨o,1,none⟩=some (.slice I l0_1.length J):=(Za m.out 1).trans rfl;have aV:=Zb m.out 0;have aW:=Zb m.out 1;have X:0≤(D:Int):=oD zz156;have Y:D<(l0_1.length:Int):=oD zz156;obtain⟨ao,ax,az,aq,B,O,L⟩:=ZY ac.out D X Y
       cases aq;replace B:=(HB.out.cell (wB w _ B)).trans B;have an:=aM L;have am:=aM O;clear L O;replace X:=eq_true X;replace Y:=eq_true Y;have av:0≤(D:Int):=oD zz156;have aw:D<(l0_1.length:Int):=oD zz156;obtain⟨aF,aZ,a0,aL,P,ab,aa⟩:=ZY ac.out D av aw;obtain rfl:ao=aF:=(by injection aL);replace P:=(HB.out.cell (wB w _ P)).trans P;have aK:=aM aa;have aJ:=aM ab;clear aa ab;replace av:=eq_true av;replace aw:=eq_true aw;have ea_:=oI (B.symm.trans P);injection ea_ with ea_ en_ ec_
       subst ea_;subst ec_;clear en_;go_wp2
       go_roundg k2
       case measure=>have:=HJ2.out;have:=HK2.out;omega
       case rel=>exact⟨(wrap64 (x5_2-((Zo l0_1 D).length:Int))),(wrap64 (D+1)),zz157,zz157,H',⟨(by have:=HJ2.out;have:=HK2.out;omega)⟩,⟨(zB m)⟩,⟨zz97⟩⟩
      rw[if_neg ay] at H
      exact absurd H (by simp)
     rw[if_neg c10] at H;have aG:=dF c10;clear c10;obtain rfl:=oI H;have aR:wr.cell? ⟨o,0,none⟩=some (.int .i64 z):=(Za m.out 0).trans rfl;have aS:wr.cell? ⟨o,1,none⟩=some (.slice I l0_1.length J):=(Za m.out 1).trans rfl;have aX:=Zb m.out 0;have aY:=Zb m.out 1;go_wp2;go_ret
     exact⟨by first|rfl|(simp[Zm,Zl]<;>rfl)|(simp[*,Zm,Zl]<;>rfl),by repeat(first|(with_reducible first|exact HB.out|apply Zh|apply Zg|apply Zj|refine Zi ?_ GE301.out)|exact HB.out)⟩
end
end Go.Proofs.YtjjlhbgpdncpcaaGreat.P
namespace Go.Proofs.YtjjlhbgpdncpcaaGreat.P.M
instance:DecidableEq S56:=fun x y=>
 if h:x.f0=y.f0∧x.f1=y.f1∧x.f2=y.f2 then isTrue (by cases x;cases y;simp at h;simp[h]) else isFalse (fun e=>h (by rw[e];exact⟨rfl,rfl,rfl⟩))
theorem s74_ext {x y:S56} (h0:x.f0=y.f0) (h1:x.f1=y.f1) (h2:x.f2=y.f2):x=y:=by
 cases x;cases y;simp at h0 h1 h2;simp[h0,h1,h2]
theorem rd74_at {l:List S56} {i:Nat} (h:i<l.length):Ze l (i:Int)=l[i]:=by simp[Ze,h]
def Bg:Nat:=4611686018427387904
def Fine (l:List S56):Prop:=l.length≤Bg∧∀x∈l,x.f1.length≤Bg∧x.f2.length≤Bg∧∀r∈x.f2,r.length≤Bg
theorem same_l0 (n1 n2:Int) (x y:List S56) (hxy:x.length=y.length) (hf:Fine x):∀(m i:Nat),i+m=x.length→x.take i=y.take i→Tells (fun k=>r30_Same.l0 k (i:Int) n1 x n2 y) (decide (x=y))
 | 0,i,hi,ht=>by
  refine Tells.shift ?_;simp only[r30_Same.l0]
  refine Tells.neg (by omega) (Tells.now' ?_);rw[List.take_of_length_le (by omega),List.take_of_length_le (by omega)] at ht
  exact(dT ht).symm
 | m + 1, i,hi,ht=>by
  have hx:i<x.length:=by omega
  have hy:i<y.length:=by omega
  have hb:=hf.2 _ (List.getElem_mem hx);have hl:=hf.1;unfold Bg at hb hl;have bad:x[i]≠y[i]→false=decide (x=y):=fun h=>(dF (fun e=>h (by simp only[e]))).symm
  refine Tells.shift ?_;simp only[r30_Same.l0,rd74_at hx,rd74_at hy]
  refine Tells.pos (by omega) (Tells.pos (by omega) (Tells.pos (by omega) ?_))
  have fin:x[i]≠y[i]→Tells (fun k=>r30_Same.j2 k (i:Int) true n1 x n2 y) (decide (x=y)):=by
   intro h
   refine Tells.shift ?_;simp only[r30_Same.j2]
   exact Tells.pos trivial (Tells.now' (bad h))
  by_cases e0:x[i].f0=y[i].f0
  ·refine Tells.pos e0 (Tells.bind (SameInts_tells _ _ hb.1) ?_)
   by_cases e1:x[i].f1=y[i].f1
   ·refine Tells.pos (dT e1) (Tells.bind (SameRows_tells _ _ hb.2.1 hb.2.2) (Tells.shift ?_));simp only[r30_Same.j2]
    by_cases e2:x[i].f2=y[i].f2
    ·rw[dT e2]
     refine Tells.neg (by simp) ?_;rw[w64 (n:=(i:Int)+1) (by omega) (by omega)]
     refine same_l0 n1 n2 x y hxy hf m (i+1) (by omega) ?_;rw[List.take_succ_eq_append_getElem hx,List.take_succ_eq_append_getElem hy,ht,s74_ext e0 e1 e2]
    ·rw[dF e2]
     exact Tells.pos rfl (Tells.now' (bad (fun h=>e2 (by rw[h]))))
   ·exact Tells.neg (by rw[dF e1];decide) (fin (fun h=>e1 (by rw[h])))
  ·exact Tells.neg e0 (fin (fun h=>e0 (by rw[h])))
theorem Same_tells (n1 n2:Int) (x y:List S56) (hf:Fine x):Tells (fun k=>r30_Same.f k n1 x n2 y) (decide (n1=n2∧x=y)):=by
 unfold r30_Same.f
 by_cases h0:n1=n2
 ·refine Tells.pos h0 (Tells.shift ?_)
  simp only[r30_Same.j0]
  by_cases hl:x.length=y.length
  ·refine Tells.neg (by simp[hl]) ?_
   exact(same_l0 n1 n2 x y hl hf x.length 0 (by omega) rfl).eq (by simp[h0])
  refine Tells.pos (by simp;omega) (Tells.now' ?_)
  exact(dF (fun h=>hl (by rw[h.2]))).symm
 refine Tells.neg h0 (Tells.shift ?_)
 simp only[r30_Same.j0]
 refine Tells.pos trivial (Tells.now' ?_)
 exact(dF (fun h=>h0 h.1)).symm
theorem leastQ_len {n:Nat} {G:List Int→Prop} (hG:∀p,G p→Pm n p) (b x:Int):(Yi n G b x).length≤n:=by
 unfold Yi
 split
 ·rename_i h
  exact Nat.le_of_eq (hG _ (Classical.choose_spec h).1).1
 ·simp
theorem lvsF_len (n:Nat) (G:List Int→Prop) (b m:Nat):(lvsF n G b m).length≤m:=by
 unfold lvsF
 have:=List.length_filter_le (p:=fun l:S56=>decide (1<l.f1.length)) ((List.range' b m).map (fun(c:Nat)=>lvP n G (c:Int)))
 rw[List.length_map,List.length_range'] at this
 exact this
theorem Yd {n:Nat} {G:List Int→Prop} {x:S56} (h:x∈ZR n G):∃c:Nat,c<n∧x=lvP n G (c:Int)∧1<x.f1.length:=by
 unfold ZR lvsF at h
 rw[List.mem_filter,List.mem_map] at h
 obtain⟨⟨c,hc,rfl⟩,h2⟩:=h
 rw[List.mem_range'] at hc
 obtain⟨i,hi,rfl⟩:=hc
 exact⟨_,by omega,rfl,by simpa using h2⟩
theorem chainP_small {n:Nat} {G:List Int→Prop} (hG:∀p,G p→Pm n p):(ZR n G).length≤n∧∀x∈ZR n G,x.f1.length≤n∧x.f2.length=x.f1.length∧∀r∈x.f2,r.length≤n:=by
 refine⟨lvsF_len n G 0 n,fun x hx=> ?_⟩
 obtain⟨c,hc,rfl,_⟩:=Yd hx
 refine⟨orbF_len n G (c:Int) 0 n,by simp[lvP],fun r hr=> ?_⟩
 simp only[lvP,List.mem_map] at hr
 obtain⟨y,_,rfl⟩:=hr
 exact leastQ_len hG _ _
theorem few_l0 (n:Int) (l:List (List Int)) (hl:l.length≤1000):∀(m i:Nat) (x:Int),i+m=l.length→0≤x→x≤1000→(∀a:Nat,a<i→∀ha:a<l.length,l[a].length≤1000)→∃b,Tells (fun k=>r09_Few.l0 k x (i:Int) n l) b∧(b=true→∀r∈l,r.length≤1000)
 | 0, i,x,hi,h0,h1,ha=>by
  refine⟨true,Tells.shift ?_,fun _ r hr=> ?_⟩
  ·simp only[r09_Few.l0]
   exact Tells.neg (by omega) Tells.now
  ·obtain⟨a,h,rfl⟩:=List.getElem_of_mem hr
   exact ha a (by omega) h
 | m + 1,i,x,hi,h0,h1,ha=>by
  have hil:i<l.length:=by omega
  by_cases h:(l[i].length:Int)>x
  ·refine⟨false,Tells.shift ?_,fun h=>by cases h⟩;simp only[r09_Few.l0,rd1_at,at1_eq hil]
   exact Tells.pos (by omega) (Tells.pos (by omega) (Tells.pos h Tells.now))
  ·obtain⟨b,ht,hb⟩:=few_l0 n l hl m (i+1) (x-l[i].length) (by omega) (by omega) (by omega) (fun a h1 h2=>by
      by_cases e:a=i
      ·subst e;omega
      ·exact ha a (by omega) h2)
   refine⟨b,Tells.shift ?_,hb⟩;simp only[r09_Few.l0,rd1_at,at1_eq hil]
   refine Tells.pos (by omega) (Tells.pos (by omega) (Tells.neg h ?_));rw[w64 (n:=x-(l[i].length:Int)) (by omega) (by omega),w64 (n:=(i:Int)+1) (by omega) (by omega)]
   exact ht
theorem Few_tells (l:List (List Int)) (a:Int) (h0:0≤a) (h1:a≤1000):∃b,Tells (fun k=>r09_Few.f k 0 l a) b∧(b=true→l.length≤1000∧∀r∈l,r.length≤1000):=by
 by_cases h:(l.length:Int)>a
 ·refine⟨false,?_,fun h=>by cases h⟩
  unfold r09_Few.f
  refine Tells.neg (by omega) (Tells.shift ?_);simp only[r09_Few.j0]
  exact Tells.pos (dT h) Tells.now
 obtain⟨b,ht,hb⟩:=few_l0 0 l (by omega) l.length 0 (a-l.length) (by omega) (by omega) (by omega) (fun a h=>by omega)
 refine⟨b,?_,fun hb'=>⟨by omega,hb hb'⟩⟩
 unfold r09_Few.f
 refine Tells.neg (by omega) (Tells.shift ?_)
 simp only[r09_Few.j0]
 refine Tells.neg (by rw[dF h];decide) ?_
 rw[w64 (n:=a-(l.length:Int)) (by omega) (by omega)]
 exact ht
end Go.Proofs.YtjjlhbgpdncpcaaGreat.P.M
namespace Go.Proofs.YtjjlhbgpdncpcaaGreat.P
section
attribute [local go_sem] ZH ZF ZL ZK ZB ZA ZG ZE
def r30_Gens.l0:Nat→List (List Int)→Int→Int→List (S56)→Option ((List (List Int)))
 |0,_,_,_,_=>none
 |k+1,x3,x4,x360000,x360001=>if x4<(x360001.length:Int) then(if 0≤x4 then(if x3.length+((Ze x360001 x4).f2).length<5864062014805 then(r30_Gens.l0 k (x3++((Ze x360001 x4).f2)) (wrap64 (x4+1)) x360000 x360001) else(none)) else(none)) else(some x3)
def r30_Gens.f (k:Nat) (a0_0:Int) (l0_1:List (S56)):Option ((List (List Int))):=r30_Gens.l0 k ([]:List (List Int)) 0 a0_0 l0_1
theorem r30_Gens.calls (k:Nat) (I:Int) (D:Nat→Prop) (P:Option Addr) (J:Nat) (l0_1:List (S56)) (r:List (List Int)) (w:World) (aw:Kd.V k56 56 w w.heap.size (fun k_=>D k_) (.slice P l0_1.length J) l0_1) (h:r30_Gens.f k I l0_1=some r):
    Calls Tryz.prog 38 #[.agg #[.int .i64 I,.slice P l0_1.length J]] w fun e w'=>∃aN:Value,e= .returned (aN)∧Kd.N (Kd.slice 3 (Kd.int .i64)) 32 w' w.heap.size (fun k_=>(D k_∨w.heap.size≤k_)) aN r∧Below w.heap.size w w':=by
 have a6:=Tryz.underlying24
 have HO0_1:=aM (show Kd.V k56 56 w w.heap.size (fun k_=>(D k_∨w.heap.size≤k_)) (.slice P l0_1.length J) l0_1 from Kd.V_mono aw (fun k_ hk=> .inl hk))
 have HB:=aM (Below.refl w.heap.size w)
 have H:(r30_Gens.l0 k ([]:List (List Int)) 0 I l0_1)=some r:=h
 clear h
 have H':=aM H
 clear H
 go_enter Tryz.func38,Tryz.ntmps38
 go_wp2_with (first|((with_reducible refine Zq (N:=1) rfl ?_);refine Zx ?hg (N:=1) ?hd (cs:= #[.int .i64 I,.slice P l0_1.length J]) (t:=24) ?hr ?_;(case hd=>rfl);(case hg=>rfl);(case hr=>first|(go_simp;done)|(go_simp;rfl));intro m hg w2 hbox hb;replace HO0_1:=aM (Kd.V_below (Kd.V_elderB (zV HO0_1) m (Nat.le_of_eq hg.symm)) hb);have z:=aM (hbox);have a3:=aM ((by rw[hg];exact(Zc zz128):w.heap.size≤m));have GE359:=aM ((by rw[hg];exact(Zc zz128):w.heap.size≤m));replace HB:=aM (Zd zz128 hb);clear hb hbox hg))
 go_loopg [3,4] k (fun kq v3 v4 w'=>∃(ac:List (List Int)) (B:Int),v4= .int .i64 B∧Aside0 (r30_Gens.l0 kq ac B I l0_1=some r)∧Aside0 (kq≤k)∧Aside0 (Kd.N (Kd.slice 3 (Kd.int .i64)) 32 w' w.heap.size (fun k_=>(D k_∨w.heap.size≤k_)∧k_≠m) v3 ac)∧Aside0 (Kd.V k56 56 w' w.heap.size (fun k_=>(D k_∨w.heap.size≤k_)∧some k_≠(v3:Value).ownBlock∧k_≠m) (.slice P l0_1.length J) l0_1)∧Aside0 (w'.heap[m]? =some (.cells #[.int .i64 I,(.slice P l0_1.length J)] 24 (0,0)))∧Aside0 (Below w.heap.size w w'))
 case atStart=>exact⟨(([]:List (List Int))),(0),zz157,H',⟨Nat.le_refl _⟩,⟨zz125⟩,⟨zz92⟩,⟨(zB z)⟩,⟨zz98⟩⟩
 case round =>
  clear H';(try clear p2);obtain⟨ac,B,rfl,HA,HK1,HO_3,HO_360001,z,HB⟩:=hrel
  cases gk with
  |zero=>exact absurd HA.out (by simp[r30_Gens.l0])
  | succ k1=>
   have H:=HA.out;clear HA;simp only[r30_Gens.l0] at H
   by_cases c3:B<(l0_1.length:Int)
   ·rw [if_pos c3] at H;have aD:=dT c3;clear c3
    by_cases c4:0≤B
    ·rw [if_pos c4] at H;have a5:=dT c4;clear c4
     by_cases c5:ac.length+((Ze l0_1 B).f2).length<5864062014805
     ·rw[if_pos c5] at H;have aC:=aM c5;clear c5;obtain⟨ar,Z⟩:∃y_:List (List Int),y_=(ac++((Ze l0_1 B).f2)):=⟨_,rfl⟩;replace H:(r30_Gens.l0 k1 ar (wrap64 (B+1)) I l0_1)=some r:=by first|(rw[Z];with_reducible exact H)|(have H2_:=(Option.bind_some _ _).symm.trans H;rw[Z];with_reducible exact H2_)|(have H2_:=(Option.bind_some _ _).symm.trans H;with_reducible exact H2_)|with_reducible exact H|(rw[Z];exact H)|exact H
      have av:=aM Z;clear Z;have H':=aM H;clear H;have aV:wr.cell? ⟨m,0,none⟩=some (.int .i64 I):=(Za z.out 0).trans rfl;have aW:wr.cell? ⟨m,1,none⟩=some (.slice P l0_1.length J):=(Za z.out 1).trans rfl;have aZ:=Zb z.out 0;have a0:=Zb z.out 1;have aj:0≤(B:Int):=oD zz156;have ak:B<(l0_1.length:Int):=oD zz156;obtain⟨al,aP,aT,aQ,aU,aE,aG,am,an,ah,af,ai,ag⟩:=Z4 (Kd.V_reads' HO_360001.out).2.2 B aj ak
      cases aE;obtain⟨a4,aq,ao,ad⟩:=Kd.V_get HO_360001.out z56 B aj (by first|exact ak|exact oD zz156|(have e_:=(Kd.V_reads' HO_360001.out).1;omega));obtain⟨aH,aJ,aI,aK,rfl,aa,X,ab,Y⟩:=Z6 ao;have L:=ad 1 _ rfl;rw[ZN _ _ 1 (by omega)] at L;replace L:=oI (L.symm.trans am);injection L with hva_ hvn_ hvc_
      rw[hva_] at X;rw[hvc_] at aa;have ae:=aM (show Kd.V (Kd.int .i64) 3 _ w.heap.size _ _ ((Ze l0_1 B).f1) from Kd.V_mk aa X);clear hva_ hvn_ hvc_ X aa;have O:=ad 2 _ rfl;rw[ZN _ _ 2 (by omega)] at O;replace O:=oI (O.symm.trans an);injection O with hva_ hvn_ hvc_
      rw[hva_] at Y;rw[hvc_] at ab;have U:=aM (show Kd.V (Kd.slice 3 (Kd.int .i64)) 32 _ w.heap.size _ _ ((Ze l0_1 B).f2) from Kd.V_mk ab Y);clear hva_ hvn_ hvc_ Y ab;clear ad aq;have az:=aM af;have ax:=aM ah;clear af ah;have aA:=aM ag;have ay:=aM ai;clear ag ai;replace aj:=eq_true aj;replace ak:=eq_true ak
      go_wp2_with (first|((with_reducible refine ZQ (b:= .append) (xs:= #[.tmp 12,.tmp 18]) rfl ?_);at_builtin;refine Kd.N_append_rows (Kd.slice 3 (Kd.int .i64)) (w0:=w) w.heap.size rfl (.tmp 12) (.tmp 18) 46 32 (.slice none 0 0) 24 rfl Tryz.underlying46 info32 rfl (by decide) (by omega) u3 ac ((Ze l0_1 B).f2) _ _ _ (fun k_=>(D k_∨w.heap.size≤k_)∧k_≠m) (fun k_=>((fun k_=>(D k_∨w.heap.size≤k_)∧k_≠m)) k_∧some k_≠(u3:Value).ownBlock) rfl rfl ?aO ?aR (fun _ hk=>hk) ?aF ?aB ?aS ?aL ?_;(case aR=>exact(by skip;exact Kd.V_F (Kd.V_mono (ok':=(fun k_=>((fun k_=>(D k_∨w.heap.size≤k_)∧k_≠m)) k_∧some k_≠(u3:Value).ownBlock)) (U.out) (fun k_ hk=>⟨⟨hk.1,hk.2.2⟩,hk.2.1⟩))));(case aB=>exact zz98);(case aF=>exact(fun k_ hk=>⟨(.inr (Nat.le_trans (Zc zz98) hk)),Kd.freshB (g:=m) (o:= .cells #[.int .i64 I,.slice (some al) l0_1.length J] 24 (0,0)) (zB z) k_ hk⟩));(case aO=>exact(zN HO_3));(case aS=>exact(Zc zz98));(case aL=>have:=aC.out;omega);intro a7 w7 ho hb hg hat;rw[←av.out] at ho;replace HO_360001:=aM (Kd.V_afterv (ok:=(fun k_=>(D k_∨w.heap.size≤k_)∧k_≠m)) (by(with_reducible repeat(first|apply Kd.V_alloc|apply Kd.V_drewN|apply Kd.V_drew));exact Kd.V_mono HO_360001.out (fun _ hk=>⟨⟨hk.1,hk.2.2⟩,hk.2.1⟩)) hg hat);replace z:=aM (Z7 (g:=m) (o:= .cells #[.int .i64 I,.slice (some al) l0_1.length J] 24 (0,0)) (zB z) hg (Kd.N_ne HO_3.out z.out (by decide)));replace ae:=aM (Kd.V_afterv (ok:=(fun k_=>(D k_∨w.heap.size≤k_)∧k_≠m)) (by(with_reducible repeat(first|apply Kd.V_alloc|apply Kd.V_drewN|apply Kd.V_drew));exact Kd.V_mono ae.out (fun _ hk=>⟨⟨hk.1,hk.2.2⟩,hk.2.1⟩)) hg hat);replace U:=aM (Kd.V_afterv (ok:=(fun k_=>(D k_∨w.heap.size≤k_)∧k_≠m)) (by(with_reducible repeat(first|apply Kd.V_alloc|apply Kd.V_drewN|apply Kd.V_drew));exact Kd.V_mono U.out (fun _ hk=>⟨⟨hk.1,hk.2.2⟩,hk.2.1⟩)) hg hat);replace HB:=aM (hb);have au:=aM (ho);clear HO_3;clear ho hb hg hat))
      go_roundg k1
      case measure=>have:=HK1.out;omega
      case rel=>exact⟨(ar),(wrap64 (B+1)),zz157,H',⟨zz167⟩,⟨(zN au)⟩,⟨(by(with_reducible repeat(first|apply Kd.V_alloc|apply Kd.V_drewN|apply Kd.V_drew));exact Kd.V_mono HO_360001.out (fun _ hk=>⟨hk.1.1,⟨hk.2,hk.1.2⟩⟩))⟩,⟨(zB z)⟩,⟨zz98⟩⟩
     rw[if_neg c5] at H
     exact absurd H (by simp)
    rw[if_neg c4] at H
    exact absurd H (by simp)
   rw[if_neg c3] at H;have aD:=dF c3;clear c3;obtain rfl:=oI H;have aX:wr.cell? ⟨m,0,none⟩=some (.int .i64 I):=(Za z.out 0).trans rfl;have aY:wr.cell? ⟨m,1,none⟩=some (.slice P l0_1.length J):=(Za z.out 1).trans rfl;have a1:=Zb z.out 0;have a2:=Zb z.out 1;go_wp2;go_ret
   exact⟨_,by first|rfl|(simp[Zm,Zl]<;>rfl)|(simp[*,Zm,Zl]<;>rfl),by(with_reducible repeat(first|apply Kd.N_alloc|apply Kd.N_drewN|apply Kd.N_drew));exact Kd.N_mono HO_3.out (fun _ hk=>hk.1),by repeat(first|(with_reducible first|exact HB.out|apply Zh|apply Zg|apply Zj|refine Zi ?_ GE359.out)|exact HB.out)⟩
end
end Go.Proofs.YtjjlhbgpdncpcaaGreat.P