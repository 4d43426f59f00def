/- What the claim's theorem is built on, part 0: words, walks of the code, and what they tell. -/
set_option linter.unusedVariables false
set_option linter.unusedSimpArgs false
namespace Go.Proofs.YtjjlhbgpdncpcaaGreat.P.M
def ap (l:List Int) (i:Int):Int:=l.getD i.toNat 0
def Pm (n:Nat) (l:List Int):Prop:=l.length=n∧(∀x∈l,0≤x∧x<(n:Int))∧l.Nodup
def mulL (p q:List Int):List Int:=p.map (fun x=>ap q x)
def idL (n:Nat):List Int:=(List.range n).map (fun(i:Nat)=>(i:Int))
def invL (p:List Int):List Int:=(List.range p.length).map (fun(i:Nat)=>((p.idxOf (i:Int):Nat):Int))
theorem ap_nat (l:List Int) (i:Nat):ap l (i:Int)=l.getD i 0:=by simp[ap]
theorem ap_mem {l:List Int} {i:Int} (h0:0≤i) (h1:i<(l.length:Int)):ap l i∈l:=by
 have h:i.toNat<l.length:=by omega
 simp only[ap,List.getD_eq_getElem?_getD,List.getElem?_eq_getElem h,Option.getD_some]
 exact List.getElem_mem h
theorem ap_map (f:Int→Int) (l:List Int) {i:Int} (h0:0≤i) (h1:i<(l.length:Int)):ap (l.map f) i=f (ap l i):=by
 have h:i.toNat<l.length:=by omega
 simp[ap,List.getD_eq_getElem?_getD,List.getElem?_eq_getElem h]
theorem ap_range (n:Nat) (f:Nat→Int) {i:Int} (h0:0≤i) (h1:i<(n:Int)):ap ((List.range n).map f) i=f i.toNat:=by
 have h:i.toNat<n:=by omega
 simp[ap,List.getD_eq_getElem?_getD,h]
theorem ap_ext {n:Nat} {p q:List Int} (hp:p.length=n) (hq:q.length=n) (h:∀i:Int,0≤i→i<n→ap p i=ap q i):p=q:=by
 apply List.ext_getElem (by omega)
 intro i h1 h2
 have:=h i (by omega) (by omega)
 rw[ap_nat,ap_nat] at this
 simpa[List.getD_eq_getElem?_getD,h1,h2] using this
theorem Pm.rng {n:Nat} {p:List Int} (h:Pm n p) {i:Int} (h0:0≤i) (h1:i<n):0≤ap p i∧ap p i<n:=h.2.1 _ (ap_mem h0 (by rw[h.1];exact h1))
theorem Pm.inj {n:Nat} {p:List Int} (h:Pm n p) {i j:Int} (h0:0≤i) (h1:i<n) (k0:0≤j) (k1:j<n) (e:ap p i=ap p j):i=j:=by
 have hi:i.toNat<p.length:=by have:=h.1;omega
 have hj:j.toNat<p.length:=by have:=h.1;omega
 simp only[ap,List.getD_eq_getElem?_getD,List.getElem?_eq_getElem hi,List.getElem?_eq_getElem hj,Option.getD_some] at e
 have:=(List.getElem_inj h.2.2).1 e
 omega
theorem sub_len:∀ {l1 l2:List Int},l1.Nodup→(∀x∈l1,x∈l2)→l1.length≤l2.length
 | [],_,_,_=>by simp
 | a::l1,l2,h,hs=>by
  rw[List.nodup_cons] at h;have ha:a∈l2:=hs a (by simp);have:=sub_len (l1:=l1) (l2:=l2.erase a) h.2 (fun x hx=>(List.mem_erase_of_ne (fun e=>h.1 (by rw[←e];exact hx))).2 (hs x (by simp[hx])));rw[List.length_erase_of_mem ha] at this;have:=List.length_pos_of_mem ha;simp only[List.length_cons];omega
theorem sub_back:∀ {l1 l2:List Int},l1.Nodup→(∀x∈l1,x∈l2)→l2.length≤l1.length→∀x∈l2,x∈l1
 | [],l2,_,_,hl,x,hx=>by have:=List.length_pos_of_mem hx;simp only[List.length_nil] at hl;omega
 | a::l1,l2,h,hs,hl,x,hx=>by
  rw[List.nodup_cons] at h;have ha:a∈l2:=hs a (by simp)
  by_cases e:x=a
  ·simp[e]
  ·refine List.mem_cons_of_mem _ (sub_back (l1:=l1) (l2:=l2.erase a) h.2 (fun y hy=>(List.mem_erase_of_ne (fun e=>h.1 (by rw[←e];exact hy))).2 (hs y (by simp[hy]))) ?_ x ((List.mem_erase_of_ne e).2 hx));rw[List.length_erase_of_mem ha];simp only[List.length_cons] at hl;omega
theorem mem_idL {n:Nat} {x:Int} :x∈idL n↔0≤x∧x<n:=by
 simp only[idL,List.mem_map,List.mem_range]
 constructor
 ·rintro ⟨i,hi,rfl⟩;omega
 ·intro h;exact⟨x.toNat,by omega,by omega⟩
theorem idL_len (n:Nat):(idL n).length=n:=by simp[idL]
theorem map_nodup {α β:Type} {f:α→β} {l:List α} (h:l.Nodup) (hf:∀x∈l,∀y∈l,f x=f y→x=y):(l.map f).Nodup:=by
 rw[List.Nodup,List.pairwise_map]
 refine List.Pairwise.imp_of_mem ?_ h
 intro a b ha hb hab e
 exact hab (hf a ha b hb e)
theorem Pm_id (n:Nat):Pm n (idL n):=by
 refine⟨idL_len n,fun x hx=>mem_idL.1 hx,?_⟩
 exact map_nodup List.nodup_range (fun x _ y _ e=>by omega)
theorem ap_id {n:Nat} {i:Int} (h0:0≤i) (h1:i<n):ap (idL n) i=i:=by rw[idL,ap_range n _ h0 h1];omega
theorem Pm.surj {n:Nat} {p:List Int} (h:Pm n p) {y:Int} (h0:0≤y) (h1:y<n):y∈p:=
 sub_back h.2.2 (fun x hx=>mem_idL.2 (h.2.1 x hx)) (by rw[idL_len,h.1];exact Nat.le_refl _) y (mem_idL.2 ⟨h0,h1⟩)
theorem Pm.idx {n:Nat} {p:List Int} (h:Pm n p) {y:Int} (h0:0≤y) (h1:y<n):p.idxOf y<n∧ap p (p.idxOf y:Nat)=y:=by
 have hy:=h.surj h0 h1
 have hl:=List.idxOf_lt_length_of_mem hy
 refine⟨h.1▸hl,?_⟩
 rw[ap_nat,List.getD_eq_getElem?_getD,List.getElem?_eq_getElem hl,Option.getD_some]
 exact List.getElem_idxOf hl
theorem mul_len (p q:List Int):(mulL p q).length=p.length:=by simp[mulL]
theorem ap_mul {p q:List Int} {i:Int} (h0:0≤i) (h1:i<(p.length:Int)):ap (mulL p q) i=ap q (ap p i):=by rw[mulL,ap_map _ _ h0 h1]
theorem Pm.ap_mul {n:Nat} {p q:List Int} (h:Pm n p) {i:Int} (h0:0≤i) (h1:i<n):ap (mulL p q) i=ap q (ap p i):=M.ap_mul h0 (by rw[h.1];exact h1)
theorem Pm.mul {n:Nat} {p q:List Int} (hp:Pm n p) (hq:Pm n q):Pm n (mulL p q):=by
 refine⟨by rw[mul_len,hp.1],?_,?_⟩
 ·intro x hx
  rw[mulL,List.mem_map] at hx;obtain⟨y,hy,rfl⟩:=hx
  exact hq.rng (hp.2.1 y hy).1 (hp.2.1 y hy).2
 ·exact map_nodup hp.2.2 (fun x hx y hy e=>hq.inj (hp.2.1 x hx).1 (hp.2.1 x hx).2 (hp.2.1 y hy).1 (hp.2.1 y hy).2 e)
theorem mul_assoc {n:Nat} {p q r:List Int} (hp:Pm n p) (hq:Pm n q) (hr:Pm n r):mulL (mulL p q) r=mulL p (mulL q r):=by
 refine ap_ext ((hp.mul hq).mul hr).1 (hp.mul (hq.mul hr)).1 (fun i h0 h1=> ?_)
 have:=hp.rng h0 h1
 rw[(hp.mul hq).ap_mul h0 h1,hp.ap_mul h0 h1,hp.ap_mul h0 h1,hq.ap_mul this.1 this.2]
theorem mul_id {n:Nat} {p:List Int} (hp:Pm n p):mulL p (idL n)=p:=by
 refine ap_ext (hp.mul (Pm_id n)).1 hp.1 (fun i h0 h1=> ?_)
 have:=hp.rng h0 h1
 rw[hp.ap_mul h0 h1,ap_id this.1 this.2]
theorem id_mul {n:Nat} {p:List Int} (hp:Pm n p):mulL (idL n) p=p:=by
 refine ap_ext ((Pm_id n).mul hp).1 hp.1 (fun i h0 h1=> ?_)
 rw[(Pm_id n).ap_mul h0 h1,ap_id h0 h1]
theorem inv_len (p:List Int):(invL p).length=p.length:=by simp[invL]
theorem Pm.ap_inv {n:Nat} {p:List Int} (hp:Pm n p) {i:Int} (h0:0≤i) (h1:i<n):ap (invL p) i=(p.idxOf i:Nat):=by
 rw[invL,hp.1,ap_range n _ h0 h1]
 rw[show((i.toNat:Nat):Int)=i by omega]
theorem Pm.inv {n:Nat} {p:List Int} (hp:Pm n p):Pm n (invL p):=by
 refine⟨by rw[inv_len,hp.1],?_,?_⟩
 ·intro x hx
  rw[invL,hp.1,List.mem_map] at hx;obtain⟨i,hi,rfl⟩:=hx;rw[List.mem_range] at hi;have:=hp.idx (y:=i) (by omega) (by omega);omega
 ·rw[invL,hp.1]
  refine map_nodup List.nodup_range (fun x hx y hy e=> ?_);rw[List.mem_range] at hx hy;have h1:=hp.idx (y:=x) (by omega) (by omega);have h2:=hp.idx (y:=y) (by omega) (by omega);rw[e] at h1;have:=h1.2.symm.trans h2.2;omega
theorem inv_mul {n:Nat} {p:List Int} (hp:Pm n p):mulL (invL p) p=idL n:=by
 refine ap_ext (hp.inv.mul hp).1 (Pm_id n).1 (fun i h0 h1=> ?_)
 rw[hp.inv.ap_mul h0 h1,hp.ap_inv h0 h1,(hp.idx h0 h1).2,ap_id h0 h1]
theorem mul_inv {n:Nat} {p:List Int} (hp:Pm n p):mulL p (invL p)=idL n:=by
 refine ap_ext (hp.mul hp.inv).1 (Pm_id n).1 (fun i h0 h1=> ?_)
 have hr:=hp.rng h0 h1
 rw[hp.ap_mul h0 h1,hp.ap_inv hr.1 hr.2,ap_id h0 h1]
 have h2:=hp.idx hr.1 hr.2
 exact hp.inj (by omega) (by omega) h0 h1 h2.2
theorem mul_inv_cancel {n:Nat} {p r:List Int} (hp:Pm n p) (hr:Pm n r):mulL (mulL p (invL r)) r=p:=by rw[mul_assoc hp hr.inv hr,inv_mul hr,mul_id hp]
theorem mul_cancel_inv {n:Nat} {p r:List Int} (hp:Pm n p) (hr:Pm n r):mulL (mulL p r) (invL r)=p:=by rw[mul_assoc hp hr hr.inv,mul_inv hr,mul_id hp]
theorem inv_unique {n:Nat} {p q:List Int} (hp:Pm n p) (hq:Pm n q) (e:mulL q p=idL n):q=invL p:=by
 have:=congrArg (fun x=>mulL x (invL p)) e
 simp only[mul_cancel_inv hq hp,id_mul hp.inv] at this
 exact this
def powL (n:Nat) (p:List Int):Nat→List Int
 |0=>idL n
 |k+1=>mulL (powL n p k) p
theorem Pm.pow {n:Nat} {p:List Int} (hp:Pm n p):∀k,Pm n (powL n p k)
 |0=>Pm_id n
 |k+1=>(hp.pow k).mul hp
theorem pow_add {n:Nat} {p:List Int} (hp:Pm n p) (a:Nat):∀b,powL n p (a+b)=mulL (powL n p a) (powL n p b)
 |0=>(mul_id (hp.pow a)).symm
 | b+1=>by
  show mulL (powL n p (a+b)) p=mulL (powL n p a) (mulL (powL n p b) p)
  rw[pow_add hp a b,mul_assoc (hp.pow a) (hp.pow b) hp]
theorem pow_fix {n:Nat} {p:List Int} (hp:Pm n p) {d:Nat} {i:Int} (h0:0≤i) (h1:i<n) (e:ap (powL n p d) i=i):∀k,ap (powL n p (d*k)) i=i
 |0=>ap_id h0 h1
 |k+1=>by rw[Nat.mul_succ,pow_add hp,(hp.pow _).ap_mul h0 h1,pow_fix hp h0 h1 e k,e]
theorem pow_back {n:Nat} {p:List Int} (hp:Pm n p) {i:Int} (h0:0≤i) (h1:i<n):∃d,1≤d∧d≤n∧ap (powL n p d) i=i:=by
 have hn:¬((List.range (n+1)).map (fun k=>ap (powL n p k) i)).Nodup:=by
  intro h
  have:=sub_len (l2:=idL n) h (fun x hx=>by
   rw[List.mem_map] at hx;obtain⟨k,_,rfl⟩:=hx
   exact mem_idL.2 ((hp.pow k).rng h0 h1))
  simp only[idL_len,List.length_map,List.length_range] at this;omega
 have:∃a b,a<b∧b≤n∧ap (powL n p a) i=ap (powL n p b) i:=by
  apply Classical.byContradiction;intro hc
  apply hn
  apply map_nodup List.nodup_range;intro x hx y hy e;rw[List.mem_range] at hx hy
  rcases Nat.lt_trichotomy x y with h|h|h
  ·exact absurd ⟨x,y,h,by omega,e⟩ hc
  ·exact h
  ·exact absurd ⟨y,x,h,by omega,e.symm⟩ hc
 obtain⟨a,b,hab,hb,e⟩:=this
 refine⟨b-a,by omega,by omega,?_⟩
 rw[show b=(b-a)+a by omega,pow_add hp,(hp.pow _).ap_mul h0 h1] at e
 have hr:=(hp.pow (b-a)).rng h0 h1
 exact((hp.pow a).inj h0 h1 hr.1 hr.2 e).symm
def fac:Nat→Nat
 |0=>1
 |k+1=>(k+1)*fac k
theorem fac_pos:∀k,1≤fac k
 |0=>Nat.le_refl _
 |k+1=>Nat.mul_pos (Nat.succ_pos k) (fac_pos k)
theorem dvd_fac:∀ {d n:Nat},1≤d→d≤n→d∣fac n
 |d,0,h,k=>by omega
 | d,n+1,h,k=>by
  by_cases e:d=n+1
  ·subst e;exact Nat.dvd_mul_right (n+1) (fac n)
  ·exact Nat.dvd_trans (dvd_fac h (by omega)) (Nat.dvd_mul_left _ _)
theorem pow_fac {n:Nat} {p:List Int} (hp:Pm n p):powL n p (fac n)=idL n:=by
 refine ap_ext (hp.pow _).1 (Pm_id n).1 (fun i h0 h1=> ?_)
 obtain⟨d,hd,hd',e⟩:=pow_back hp h0 h1
 obtain⟨k,hk⟩:=dvd_fac hd hd'
 rw[hk,pow_fix hp h0 h1 e,ap_id h0 h1]
theorem inv_pow {n:Nat} {p:List Int} (hp:Pm n p):powL n p (fac n-1)=invL p:=by
 refine inv_unique hp (hp.pow _) ?_
 have h:=fac_pos n
 rw[←pow_fac hp]
 conv=>rhs;rw[show fac n=(fac n-1)+1 by omega]
 rfl
inductive Cl (n:Nat) (S:List Int→Prop):List Int→Prop
 |one:Cl n S (idL n)
 |mul {p g:List Int} :Cl n S p→S g→Cl n S (mulL p g)
theorem Cl.pm {n:Nat} {S:List Int→Prop} (hS:∀g,S g→Pm n g) {p:List Int} (h:Cl n S p):Pm n p:=by
 induction h with
 |one=>exact Pm_id n
 |mul _ hg ih=>exact ih.mul (hS _ hg)
theorem Cl.gen {n:Nat} {S:List Int→Prop} (hS:∀g,S g→Pm n g) {g:List Int} (h:S g):Cl n S g:=by
 have:=Cl.mul (Cl.one (n:=n) (S:=S)) h
 rwa [id_mul (hS g h)] at this
theorem Cl.mul' {n:Nat} {S:List Int→Prop} (hS:∀g,S g→Pm n g) {p q:List Int} (hp:Cl n S p) (hq:Cl n S q):Cl n S (mulL p q):=by
 induction hq with
 |one=>rw[mul_id (hp.pm hS)];exact hp
 |mul hq hg ih=>rw[←mul_assoc (hp.pm hS) (hq.pm hS) (hS _ hg)];exact ih.mul hg
theorem Cl.pow {n:Nat} {S:List Int→Prop} (hS:∀g,S g→Pm n g) {p:List Int} (hp:Cl n S p):∀k,Cl n S (powL n p k)
 |0=> .one
 |k+1=>Cl.mul' hS (Cl.pow hS hp k) hp
theorem Cl.inv {n:Nat} {S:List Int→Prop} (hS:∀g,S g→Pm n g) {p:List Int} (hp:Cl n S p):Cl n S (invL p):=by
 rw[←inv_pow (hp.pm hS)];exact hp.pow hS _
theorem Cl.least {n:Nat} {S H:List Int→Prop} (h1:H (idL n)) (hm:∀p g,H p→S g→H (mulL p g)) {p:List Int} (hp:Cl n S p):H p:=by
 induction hp with
 |one=>exact h1
 |mul _ hg ih=>exact hm _ _ ih hg
theorem Cl.sub {n:Nat} {S R:List Int→Prop} (hR:∀g,R g→Pm n g) (h:∀g,S g→Cl n R g) {p:List Int} (hp:Cl n S p):Cl n R p:=
 Cl.least .one (fun _ _ h1 h2=>Cl.mul' hR h1 (h _ h2)) hp
end Go.Proofs.YtjjlhbgpdncpcaaGreat.P.M