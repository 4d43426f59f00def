/- The law of the claim, proved for every input: the last of its texts. -/
import Derived.Test.YtjjlhbgpdncpcaaRows
import Derived.Deep.Matrix
import Derived.WalkKit
import Derived.ProofKit
import Derived.OpenShut
import Derived.Deep.Strs
import Derived.ChangeSame
import Derived.ShutString
import Derived.ChangeOld
import Derived.Below
import Derived.SizedLaws
import Derived.Carry
import Derived.Test.YtjjlhbgpdncpcaaNf5
import Derived.Test.YtjjlhbgpdncpcaaNf1
import Derived.Test.YtjjlhbgpdncpcaaNf2
import Derived.Test.YtjjlhbgpdncpcaaNf3
import Derived.Test.YtjjlhbgpdncpcaaNf4
section
set_option linter.unusedVariables false
set_option linter.unusedSimpArgs false
namespace Go.Proofs.Ytjjlhbgpdncpcaa.P.M
open Go.RowKit Go.Proofs.YtjjlhbgpdncpcaaW.PrintWords Go.Proofs.YtjjlhbgpdncpcaaW.PrintLast Go.Proofs.YtjjlhbgpdncpcaaW.PrintMore
structure Ok (n:Nat) (T:Tw):Prop where
 wf:Wf T
 hn:T.n=n
def Gn (n:Nat) (T:Tw) (b:Int):List Int→Prop:=Cl n (fun g=>g∈T.gen b)
structure Lvn (n:Nat) (T:Tw) (b:Int):Prop where
 reps:∀x:Int,0≤x→x<n→T.rep b x≠ []→Gn n T b (T.rep b x)
 gens:∀g∈T.gen (b+1),Gn n T b g
 pairs:∀x:Int,0≤x→x<n→T.rep b x≠ []→∀g∈T.gen b,Sf n T.rep (n-b).toNat b (mulL (T.rep b x) g)
def Compn (n:Nat) (T:Tw) (b:Int):Prop:=∀c:Int,b≤c→c<n→Lvn n T c
theorem Compn.comp {n:Nat} {T:Tw} {b:Int} (hn:T.n=n) (h:Compn n T b):Comp T b:=by
 subst hn
 intro c h1 h2
 have:=h c h1 h2
 exact⟨this.reps,this.gens,this.pairs⟩
theorem sfI {n:Nat} {T:Tw} (h:Ok n T) {b:Int} (h0:0≤b) (h1:b≤n) (hc:Compn n T b) {p:List Int} (hp:Pm n p) (hf:Fx b p):Sf n T.rep (n-b).toNat b p↔Gn n T b p:=by
 obtain⟨hw,hn⟩:=h
 have:=hc.comp hn
 subst hn
 exact sf_iff hw _ b h0 (by omega) this p hp hf
theorem Ok.rep {n:Nat} {T:Tw} (h:Ok n T) {b x:Int} (h0:0≤b) (h1:b<n) (h2:0≤x) (h3:x<n) (hr:T.rep b x≠ []):Pm n (T.rep b x)∧Fx b (T.rep b x)∧ap (T.rep b x) b=x:=by
 obtain⟨hw,rfl⟩:=h;exact hw.rep b x h0 h1 h2 h3 hr
theorem Ok.gpm {n:Nat} {T:Tw} (h:Ok n T) {b:Int} (h0:0≤b) (h1:b≤n):∀g,g∈T.gen b→Pm n g:=by
 obtain⟨hw,rfl⟩:=h;exact hw.gpm h0 h1
theorem Ok.gfx {n:Nat} {T:Tw} (h:Ok n T) {b:Int} (h0:0≤b) (h1:b≤n) {p:List Int} (hp:Gn n T b p):Pm n p∧Fx b p:=by
 obtain⟨hw,rfl⟩:=h;exact hw.gfx h0 h1 hp
theorem Ok.sfx {n:Nat} {T T':Tw} (h:Ok n T) (hx:Ext T T') {m:Nat} {b:Int} {p:List Int} (h0:0≤b) (hb:b+m=n) (hp:Pm n p) (hs:Sf n T.rep m b p):Sf n T'.rep m b p:=by
 obtain⟨hw,rfl⟩:=h
 have:=Sf.ext hw hx m b p h0 hb hp hs
 rwa [hx.1] at this
theorem Ok.id {n:Nat} {T:Tw} (h:Ok n T) {b:Int} (h0:0≤b) (h1:b<n):T.rep b b=idL n:=by
 obtain⟨hw,rfl⟩:=h;exact hw.one b h0 h1
theorem idL_ne {n:Nat} (h:1≤n):idL n≠ []:=by
 intro e
 have:=congrArg List.length e
 rw[idL_len] at this
 simp at this;omega
theorem Pm.ne {n:Nat} {p:List Int} (hp:Pm n p) (h:1≤n):p≠ []:=by
 intro e
 have:=hp.1
 rw[e] at this
 simp at this;omega
theorem strip_fx {n:Nat} {b:Int} (h0:0≤b) (h1:b<n) {q r:List Int} (hq:Pm n q) (hqf:Fx b q) (hr:Pm n r) (hrf:Fx b r) (e:ap r b=ap q b):Pm n (mulL q (invL r))∧Fx (b+1) (mulL q (invL r)):=by
 refine⟨hq.mul hr.inv,(hqf.mul hq hr.inv (Int.le_of_lt h1) (hrf.inv hr (Int.le_of_lt h1))).up ?_⟩
 rw[hq.ap_mul h0 h1,←e,←hr.ap_mul h0 h1,mul_inv hr,ap_id h0 h1]
theorem strip_tells {n:Nat} {T:Tw} (h:Ok n T) (h64:n≤64):∀(m:Nat) (b:Int) (p:List Int),0≤b→b+m=n→Pm n p→Fx b p→∃e:Int,Tells (fun k=>stripL k T p b) e∧(e=n↔Sf n T.rep m b p)
 | 0, b,p,h0,hb,hp,hf=>by
  have hn:=h.hn
  refine⟨n,Tells.shift ?_,?_⟩
  ·simp only[stripL]
   exact Tells.neg (by omega) (Tells.now' (by omega))
  ·rw[Sf]
   refine⟨fun _=> ?_,fun _=>rfl⟩;have:b=n:=by omega
   subst this
   exact hf.all hp
 | m + 1,b,p,h0,hb,hp,hf=>by
  have hn:=h.hn;have hx:=hp.rng h0 (show b<n by omega);have hpl:=hp.1
  by_cases hr:T.rep b (ap p b)= []
  ·refine⟨b,Tells.shift ?_,?_⟩
   ·simp only[stripL,Yg]
    exact Tells.pos (by omega) (Tells.pos (by omega) (Tells.pos (by omega) (Tells.pos hx.1 (Tells.pos (by omega) (Tells.pos hr Tells.now)))))
   ·rw[Sf]
    exact⟨fun e=>by omega,fun e=>absurd hr e.1⟩
  ·have hR:=h.rep h0 (show b<n by omega) hx.1 hx.2 hr;have hs:=strip_fx h0 (show b<n by omega) hp hf hR.1 hR.2.1 hR.2.2;obtain⟨e,ht,he⟩:=strip_tells h h64 m (b+1) _ (by omega) (by omega) hs.1 hs.2
   refine⟨e,Tells.shift ?_,?_⟩
   ·simp only[stripL,Yg];have hil:=hR.1.inv.1
    exact Tells.pos (by omega) (Tells.pos (by omega) (Tells.pos (by omega) (Tells.pos hx.1 (Tells.pos (by omega) (Tells.neg hr (Tells.bind (inverse_tells hR.1 (by omega)) (Tells.bind (then_tells _ _ (by omega) (by rw[hil];exact hp.rg)) ht)))))))
   ·rw[he,Sf]
    exact⟨fun k=>⟨hr,k⟩,fun k=>k.2⟩
theorem countP_le {α:Type} {P Q:α→Bool} :∀ {l:List α},(∀x∈l,P x=true→Q x=true)→l.countP P≤l.countP Q
 | [],_=>by simp
 | a::l,h=>by
  have ih:=countP_le (l:=l) (fun x hx=>h x (by simp[hx]));have ha:=h a (by simp);simp only[List.countP_cons]
  cases hP:P a
  ·simp;omega
  ·simp[ha hP];omega
theorem countP_lt {α:Type} {P Q:α→Bool} :∀ {l:List α},(∀x∈l,P x=true→Q x=true)→(∃x∈l,Q x=true∧P x=false)→l.countP P<l.countP Q
 | [],_,⟨x,hx,_⟩=>by simp at hx
 | a ::l,h,⟨x,hx,hq,hp⟩=>by
  have hl:=countP_le (l:=l) (P:=P) (Q:=Q) (fun x hx=>h x (by simp[hx]));simp only[List.countP_cons]
  rcases List.mem_cons.1 hx with rfl|hx
  ·simp[hq,hp];omega
  ·have ih:=countP_lt (l:=l) (fun x hx=>h x (by simp[hx])) ⟨x,hx,hq,hp⟩;have ha:=h a (by simp)
   cases hP:P a
   ·simp;omega
   ·simp[ha hP];omega
def cnt (n:Nat) (T:Tw) (b:Int):Nat:=(List.range (n*n)).countP (fun i=>decide (b≤((i/n:Nat):Int)∧T.rep ((i/n:Nat):Int) ((i%n:Nat):Int)≠ []))
theorem cnt_max (n:Nat) (T:Tw) (b:Int):cnt n T b≤n*n:=by
 have:=List.countP_le_length (p:=(fun i=>decide (b≤((i/n:Nat):Int)∧T.rep ((i/n:Nat):Int) ((i%n:Nat):Int)≠ []))) (l:=List.range (n*n))
 simpa[cnt] using this
theorem cell_of {n i:Nat} (h:i<n*n):i/n<n∧i%n<n:=by
 have hn:0<n:=by
  cases n with
  |zero=>simp at h
  |succ n=>omega
 exact⟨Nat.div_lt_of_lt_mul h,Nat.mod_lt _ hn⟩
theorem cnt_le {n:Nat} {T T':Tw} (hn:T.n=n) (hx:Ext T T') (b:Int):cnt n T b≤cnt n T' b:=by
 refine countP_le (fun i hi h=> ?_)
 have hc:=cell_of (List.mem_range.1 hi)
 simp only[decide_eq_true_eq] at h⊢
 refine⟨h.1,?_⟩
 rw[hx.2 _ _ (Int.natCast_nonneg _) (by rw[hn];exact Int.ofNat_lt.2 hc.1) (Int.natCast_nonneg _) (by rw[hn];exact Int.ofNat_lt.2 hc.2) h.2]
 exact h.2
theorem cnt_lt {n:Nat} {T T':Tw} (hn:T.n=n) (hx:Ext T T') {b c x:Int} (hb0:0≤b) (hb:b≤c) (h1:c<n) (h2:0≤x) (h3:x<n) (e:T.rep c x= []) (e':T'.rep c x≠ []):cnt n T b<cnt n T' b:=by
 refine countP_lt (fun i hi h=> ?_) ?_
 ·have hc:=cell_of (List.mem_range.1 hi)
  simp only[decide_eq_true_eq] at h⊢
  refine⟨h.1,?_⟩;rw[hx.2 _ _ (Int.natCast_nonneg _) (by rw[hn];exact Int.ofNat_lt.2 hc.1) (Int.natCast_nonneg _) (by rw[hn];exact Int.ofNat_lt.2 hc.2) h.2]
  exact h.2
 ·have hn0:0<n:=by omega
  have hd:(c.toNat*n+x.toNat)/n=c.toNat:=by
   rw[Nat.add_comm,Nat.add_mul_div_right _ _ hn0,Nat.div_eq_of_lt (by omega)];omega
  have hm:(c.toNat*n+x.toNat)%n=x.toNat:=by
   rw[Nat.add_comm,Nat.add_mul_mod_self_right,Nat.mod_eq_of_lt (by omega)]
  have hl:c.toNat*n+x.toNat<n*n:=by
   have:(c.toNat+1)*n≤n*n:=Nat.mul_le_mul_right n (by omega);rw[Nat.add_mul] at this;omega
  refine⟨c.toNat*n+x.toNat,List.mem_range.2 hl,?_⟩;rw[hd,hm,show((c.toNat:Nat):Int)=c by omega,show((x.toNat:Nat):Int)=x by omega];simp[hb,e,e']
def nil (n:Nat) (T:Tw) (b:Int):Nat:=(List.range n).countP (fun x=>decide (T.rep b ((x:Nat):Int)= []))
theorem nil_le {n:Nat} {T T':Tw} (hn:T.n=n) (hx:Ext T T') {b:Int} (h0:0≤b) (h1:b<n):nil n T' b≤nil n T b:=by
 refine countP_le (fun i hi h=> ?_)
 have:=List.mem_range.1 hi
 simp only[decide_eq_true_eq] at h⊢
 apply Classical.byContradiction
 intro hc
 rw[hx.2 _ _ h0 (by omega) (by omega) (by omega) hc] at h
 exact hc h
theorem nil_lt {n:Nat} {T T':Tw} (hn:T.n=n) (hx:Ext T T') {b x:Int} (h0:0≤b) (h1:b<n) (h2:0≤x) (h3:x<n) (e:T.rep b x= []) (e':T'.rep b x≠ []):nil n T' b<nil n T b:=by
 refine countP_lt (fun i hi h=> ?_) ⟨x.toNat,List.mem_range.2 (by omega),?_⟩
 ·have:=List.mem_range.1 hi
  simp only[decide_eq_true_eq] at h⊢
  apply Classical.byContradiction;intro hc;rw[hx.2 _ _ h0 (by omega) (by omega) (by omega) hc] at h
  exact hc h
 ·rw[show((x.toNat:Nat):Int)=x by omega]
  simp[e,e']
def Bd (n:Nat) (T:Tw) (b:Int):Prop:=∀c:Int,b≤c→c<n→(T.gen c).length≤cnt n T c
def Low (T T':Tw) (b:Int):Prop:=∀c:Int,0≤c→c<b→(∀x:Int,0≤x→T'.rep c x=T.rep c x)∧T'.gen c=T.gen c
theorem Low.refl (T:Tw) (b:Int):Low T T b:=fun _ _ _=>⟨fun _ _=>rfl,rfl⟩
theorem Low.trans {T T' T'':Tw} {b:Int} (h:Low T T' b) (k:Low T' T'' b):Low T T'' b:=fun c h0 h1=>⟨fun x hx=>((k c h0 h1).1 x hx).trans ((h c h0 h1).1 x hx),(k c h0 h1).2.trans (h c h0 h1).2⟩
structure Pre (n:Nat) (T:Tw) (b:Int):Prop where
 ok:Ok n T
 comp:Compn n T (b+1)
 reps:∀x:Int,0≤x→x<n→T.rep b x≠ []→Gn n T b (T.rep b x)
 gens:∀g∈T.gen (b+1),Gn n T b g
 bd:Bd n T (b+1)
structure Stp (n:Nat) (b:Int) (T T':Tw):Prop where
 pre:Pre n T' b
 ext:Ext T T'
 low:Low T T' b
 gen:T'.gen b=T.gen b
 new:∀x:Int,0≤x→x<n→T.rep b x= []→T'.rep b x≠ []→∀g∈T.gen b,Sf n T'.rep (n-b).toNat b (mulL (T'.rep b x) g)
structure Ins (n:Nat) (b:Int) (T T':Tw) (q:List Int):Prop where
 ok:Ok n T'
 comp:Compn n T' b
 ext:Ext T T'
 low:Low T T' b
 bd:Bd n T' b
 sf:Sf n T'.rep (n-b).toNat b q
 gens:∀g∈T'.gen b,g∈T.gen b∨g=q
 keep:∀g∈T.gen b,g∈T'.gen b
def InsOk (n:Nat) (b:Int):Prop:=∀(T:Tw) (q:List Int),Ok n T→Compn n T b→Bd n T b→Pm n q→Fx b q→∃T',Tells (fun k=>insertL k T q b) T'∧Ins n b T T' q
theorem Stp.refl {n:Nat} {b:Int} {T:Tw} (h:Pre n T b):Stp n b T T:=⟨h,Ext.refl T,Low.refl T b,rfl,fun x _ _ e e'=>absurd e e'⟩
theorem Stp.trans {n:Nat} {b:Int} {T T' T'':Tw} (hT:T.n=n) (h0:0≤b) (h1:b<n) (h:Stp n b T T') (k:Stp n b T' T''):Stp n b T T'':=by
 refine⟨k.pre,h.ext.trans k.ext,h.low.trans k.low,k.gen.trans h.gen,fun x h2 h3 e e' g hg=> ?_⟩
 by_cases hm:T'.rep b x= []
 ·exact k.new x h2 h3 hm e' g (by rw[h.gen];exact hg)
 have hT':T'.n=n:=h.pre.ok.hn
 have e2:=k.ext.2 b x h0 (by omega) h2 (by omega) hm
 rw[e2]
 have hr:=h.pre.ok.rep h0 h1 h2 h3 hm
 have hgp:=h.pre.ok.gpm h0 (Int.le_of_lt h1) g (by rw[h.gen];exact hg)
 exact h.pre.ok.sfx k.ext h0 (by omega) (hr.1.mul hgp) (h.new x h2 h3 e hm g hg)
theorem Gn.eq {n:Nat} {T T':Tw} {b:Int} (e:T'.gen b=T.gen b) {p:List Int} (h:Gn n T b p):Gn n T' b p:=by unfold Gn;rw[e];exact h
theorem Ins.stp {n:Nat} {b:Int} {T T':Tw} {q:List Int} (h0:0≤b) (h1:b<n) (hp:Pre n T b) (hq:Gn n T b q) (h:Ins n (b+1) T T' q):Stp n b T T':=by
 have hl:=h.low b h0 (by omega)
 refine⟨⟨h.ok,h.comp,?_,?_,h.bd⟩,h.ext,fun c k0 k1=>h.low c k0 (by omega),hl.2,?_⟩
 ·intro x h2 h3 hr
  rw[hl.1 x h2] at hr⊢
  exact Gn.eq hl.2 (hp.reps x h2 h3 hr)
 ·intro g hg
  rcases h.gens g hg with k|rfl
  ·exact Gn.eq hl.2 (hp.gens g k)
  ·exact Gn.eq hl.2 hq
 ·intro x h2 h3 e e'
  rw[hl.1 x h2] at e'
  exact absurd e e'
theorem visit_ok {n:Nat} (h64:n≤64) {b:Int} (h0:0≤b) (h1:b<n) (hI:InsOk n (b+1)) (hgl:∀T:Tw,Pre n T b→(T.gen b).length≤1000000→True) (L:Nat):∀N:Nat,∀(T:Tw) (q:List Int),nil n T b<N→Pre n T b→Gn n T b q→(T.gen b).length≤1000000→∃T',Tells (fun k=>visitL k T q b) T'∧Stp n b T T'∧Sf n T'.rep (n-b).toNat b q
 |0,T,q,hN,_,_,_=>by omega
 | N + 1, T, q,hN,hp,hq,hl=>by
  have hT:=hp.ok.hn;have hqp:=hp.ok.gfx h0 (Int.le_of_lt h1) hq;have hx:=hqp.1.rng h0 h1;have hql:=hqp.1.1
  by_cases hr:T.rep b (ap q b)= []
  ·-- a new representative
   have hw1:Ok n (T.setRep b (ap q b) q):=⟨Wf.setRep hp.ok.wf h0 (by omega) hx.1 (by omega) (by rw[hT];exact hqp.1) hqp.2 rfl hr,hT⟩;have hrs:∀c y:Int,0≤c→0≤y→(T.setRep b (ap q b) q).rep c y=if c=b∧y=ap q b then q else T.rep c y:=fun c y k0 k1=>rep_set hp.ok.wf h0 (by omega) hx.1 (by omega) q k0 k1
   have hx1:Ext T (T.setRep b (ap q b) q):=⟨rfl,fun c y k0 k1 k2 k3 e=>by
    rw[hrs c y k0 k2,if_neg];rintro ⟨rfl,rfl⟩
    exact e hr⟩
   have hup:∀c y:Int,b<c→0≤y→(T.setRep b (ap q b) q).rep c y=T.rep c y:=fun c y k0 k1=>by rw[hrs c y (by omega) k1,if_neg (by omega)]
   have hself:(T.setRep b (ap q b) q).rep b (ap q b)=q:=by rw[hrs b _ h0 hx.1,if_pos ⟨rfl,rfl⟩]
   have hp1:Pre n (T.setRep b (ap q b) q) b:=by
    refine⟨hw1,fun c k1 k2=> ?_,?_,hp.gens,fun c k1 k2=>Nat.le_trans (hp.bd c k1 k2) (cnt_le hT hx1 c)⟩
    ·have hl:=hp.comp c k1 k2
     refine⟨fun x j0 j1 e=> ?_,hl.gens,fun x j0 j1 e g hg=> ?_⟩
     ·rw[hup c x (by omega) j0] at e⊢
      exact hl.reps x j0 j1 e
     ·rw[hup c x (by omega) j0] at e⊢;have hr':=hp.ok.rep (by omega) k2 j0 j1 e;have hg':=hp.ok.gpm (b:=c) (by omega) (Int.le_of_lt k2) g hg
      exact hp.ok.sfx hx1 (by omega) (by omega) (hr'.1.mul hg') (hl.pairs x j0 j1 e g hg)
    ·intro x j0 j1 e;rw[hrs b x h0 j0] at e⊢
     by_cases k:b=b∧x=ap q b
     ·rw[if_pos k];exact hq
     ·rw[if_neg k] at e⊢;exact hp.reps x j0 j1 e
   have hnl:nil n (T.setRep b (ap q b) q) b<N:=by
    have:=nil_lt hT hx1 h0 h1 hx.1 hx.2 hr (by rw[hself];exact hqp.1.ne (by omega));omega
   -- the loop over the generators; its visits are smaller
   have loop:∀(m j:Nat) (T1:Tw),T1.gen b=T.gen b→j+m=(T.gen b).length→nil n T1 b<N→Pre n T1 b→∃T',Tells (fun k=>visitLoop k T1 q b (j:Int)) T'∧Stp n b T1 T'∧∀i:Nat,j≤i→∀hi:i<(T.gen b).length,Sf n T'.rep (n-b).toNat b (mulL q (T.gen b)[i]):=by
    intro m
    induction m with
    | zero=>
     intro j T1 hge hj hN1 hp1;have hT1:=hp1.ok.hn
     refine⟨T1,Tells.shift ?_,Stp.refl hp1,fun i h2 h3=>by omega⟩;simp only[visitLoop,hge]
     exact Tells.pos (by omega) (Tells.neg (by omega) Tells.now)
    | succ m ih=>
     intro j T1 hge hj hN1 hp1;have hT1:=hp1.ok.hn;have hjl:j<(T.gen b).length:=by omega
     have hgm:=hp.ok.gpm h0 (Int.le_of_lt h1) _ (List.getElem_mem hjl);have hgq:Gn n T1 b (mulL q (T.gen b)[j]):=Gn.eq hge (Cl.mul hq (List.getElem_mem hjl));obtain⟨T2,ht2,hs2,hf2⟩:=visit_ok h64 h0 h1 hI hgl L N T1 _ hN1 hp1 hgq (by rw[hge];exact hl);obtain⟨T3,ht3,hs3,hf3⟩:=ih (j+1) T2 (hs2.gen.trans hge) (by omega) (Nat.lt_of_le_of_lt (nil_le hT1 hs2.ext h0 h1) hN1) hs2.pre
     refine⟨T3,Tells.shift ?_,hs2.trans hT1 h0 h1 hs3,fun i h2 h3=> ?_⟩
     ·simp only[visitLoop,hge];have e:Zp (T.gen b) (j:Int)=(T.gen b)[j]:=by simp[Zp,hjl]
      rw[e];have hgl:=hgm.1
      exact Tells.pos (by omega) (Tells.pos (by omega) (Tells.bind (then_tells _ _ (by omega) (by rw[hgl];exact hqp.1.rg)) (Tells.bind ht2 ht3)))
     ·by_cases e:i=j
      ·subst e
       exact hs2.pre.ok.sfx hs3.ext h0 (by omega) (hqp.1.mul hgm) hf2
      ·exact hf3 i (by omega) h3
   obtain⟨T',ht,hs,hf⟩:=loop (T.gen b).length 0 (T.setRep b (ap q b) q) rfl (by omega) hnl hp1;have hext:=hx1.trans hs.ext
   have hrq:T'.rep b (ap q b)=q:=by
    rw[hs.ext.2 b _ h0 (by rw[hw1.hn];exact h1) hx.1 (by rw[hw1.hn];exact hx.2) (by rw[hself];exact hqp.1.ne (by omega)),hself]
   refine⟨T',Tells.shift ?_,⟨hs.pre,hext,fun c k0 k1=> ?_,hs.gen,fun x j0 j1 e e' g hg=> ?_⟩,?_⟩
   ·simp only[visitL,Yg]
    exact Tells.pos (by omega) (Tells.pos (by omega) (Tells.pos hx.1 (Tells.pos (by omega) (Tells.pos (by omega) (Tells.pos hr ht)))))
   ·have:=hs.low c k0 k1
    refine⟨fun x hx0=> ?_,this.2⟩;rw[this.1 x hx0,hrs c x k0 hx0,if_neg (by omega)]
   ·by_cases k:x=ap q b
    ·subst k;rw[hrq];obtain⟨i,hi,rfl⟩:=List.getElem_of_mem hg
     exact hf i (by omega) hi
    ·exact hs.new x j0 j1 (by rw[hrs b x h0 j0,if_neg (by omega)];exact e) e' g hg
   ·rw[show(n-b).toNat=(n-(b+1)).toNat+1 by omega,Sf,hrq]
    refine⟨hqp.1.ne (by omega),?_⟩;rw[mul_inv hqp.1];have hok:=hs.pre.ok;have:=sf_id hok.wf (n-(b+1)).toNat (b+1) (by omega) (by rw[hok.hn];omega);rw[hok.hn] at this
    exact this
  ·have hR:=hp.ok.rep h0 h1 hx.1 hx.2 hr;have hs:=strip_fx h0 h1 hqp.1 hqp.2 hR.1 hR.2.1 hR.2.2;have hpm:=hp.ok.gpm h0 (Int.le_of_lt h1);have hG:Gn n T b (mulL q (invL (T.rep b (ap q b)))):=Cl.mul' hpm hq (Cl.inv hpm (hp.reps _ hx.1 hx.2 hr));obtain⟨T',ht,hi⟩:=hI T _ hp.ok hp.comp hp.bd hs.1 hs.2
   refine⟨T',Tells.shift ?_,hi.stp h0 h1 hp hG,?_⟩
   ·simp only[visitL,Yg];have hil:=hR.1.inv.1
    exact Tells.pos (by omega) (Tells.pos (by omega) (Tells.pos hx.1 (Tells.pos (by omega) (Tells.pos (by omega) (Tells.neg hr (Tells.bind (inverse_tells hR.1 (by omega)) (Tells.bind (then_tells _ _ (by omega) (by rw[hil];exact hqp.1.rg)) ht)))))))
   ·rw[show(n-b).toNat=(n-(b+1)).toNat+1 by omega,Sf];have e:=hi.ext.2 b _ h0 (by omega) hx.1 (by omega) hr;rw[e]
    exact⟨hr,hi.sf⟩
end Go.Proofs.Ytjjlhbgpdncpcaa.P.M
end
section
set_option linter.unusedVariables false
set_option linter.unusedSimpArgs false
namespace Go.Proofs.Ytjjlhbgpdncpcaa.P.M
open Go.RowKit Go.Proofs.YtjjlhbgpdncpcaaW.PrintWords Go.Proofs.YtjjlhbgpdncpcaaW.PrintLast Go.Proofs.YtjjlhbgpdncpcaaW.PrintMore
theorem Gn.up {n:Nat} {T T':Tw} {b:Int} (hp:∀g∈T'.gen b,Pm n g) (h:∀g∈T.gen b,g∈T'.gen b) {p:List Int} (hg:Gn n T b p):Gn n T' b p:=
 Cl.sub hp (fun g hg=>Cl.gen hp (h g hg)) hg
theorem insert_step {n:Nat} (h64:n≤64) {b:Int} (h0:0≤b) (h1:b<n) (hI:InsOk n (b+1)):InsOk n b:=by
 intro T p hok hc hb hp hf
 have hT:=hok.hn
 obtain⟨e,hte,hie⟩:=strip_tells hok h64 (n-b).toNat b p h0 (by omega) hp hf
 by_cases he:e=n
 ·-- it sifts: nothing is done
  refine⟨T,Tells.shift ?_,⟨hok,hc,Ext.refl T,Low.refl T b,hb,hie.1 he,fun g hg=> .inl hg,fun g hg=>hg⟩⟩;simp only[insertL]
  exact Tells.bind hte (Tells.pos (by omega) Tells.now)
 have hns:¬Sf n T.rep (n-b).toNat b p:=fun h=>he (hie.2 h)
 have hlen:(T.gen b).length≤4096:=by
  have h2:=hb b (Int.le_refl _) h1;have h3:=cnt_max n T b;have:n*n≤64*64:=Nat.mul_le_mul h64 h64;omega
 have ok1:Ok n (T.addGen b p):=⟨Wf.addGen hok.wf h0 (by omega) (by rw[hT];exact hp) hf,hT⟩
 have g1:(T.addGen b p).gen b=T.gen b++ [p]:=by rw[gen_add hok.wf h0 (by omega) p h0,if_pos rfl]
 have g2:∀c:Int,0≤c→c≠b→(T.addGen b p).gen c=T.gen c:=fun c k0 k1=>by rw[gen_add hok.wf h0 (by omega) p k0,if_neg k1]
 have pm1:=ok1.gpm h0 (Int.le_of_lt h1)
 have upb:∀ {x:List Int},Gn n T b x→Gn n (T.addGen b p) b x:=fun h=>Gn.up pm1 (fun g hg=>by rw[g1];exact List.mem_append_left _ hg) h
 have hb1:=hc b (Int.le_refl _) h1
 have pre1:Pre n (T.addGen b p) b:=by
  refine⟨ok1,fun c k1 k2=> ?_,fun x j0 j1 e=>upb (hb1.reps x j0 j1 e),fun g hg=> ?_,fun c k1 k2=> ?_⟩
  ·have hl:=hc c (by omega) k2
   refine⟨fun x j0 j1 e=>Gn.eq (g2 c (by omega) (by omega)) (hl.reps x j0 j1 e),fun g hg=> ?_,fun x j0 j1 e g hg=> ?_⟩
   ·rw[g2 (c+1) (by omega) (by omega)] at hg
    exact Gn.eq (g2 c (by omega) (by omega)) (hl.gens g hg)
   ·rw[g2 c (by omega) (by omega)] at hg
    exact hl.pairs x j0 j1 e g hg
  ·rw[g2 (b+1) (by omega) (by omega)] at hg
   exact upb (hb1.gens g hg)
  ·rw[g2 c (by omega) (by omega)]
   exact hb c (by omega) k2
 have ext1:Ext T (T.addGen b p):=⟨rfl,fun _ _ _ _ _ _ _=>rfl⟩
 have hrow:(T.row b).length=n:=by have:=hok.wf.lrr b h0 (by omega);omega
 have loop :∀(m i:Nat) (T2:Tw),i+m=n→Pre n T2 b→T2.gen b=T.gen b++ [p]→Ext T T2→∃T',Tells (fun k=>insertLoop k T2 (T.row b) p b (i:Int)) T'∧Stp n b T2 T'∧∀x:Int,(i:Int)≤x→x<n→T.rep b x≠ []→Sf n T'.rep (n-b).toNat b (mulL (T.rep b x) p):=by
  intro m
  induction m with
  | zero=>
   intro i T2 hi hp2 hg2 hx2
   refine⟨T2,Tells.shift ?_,Stp.refl hp2,fun x k1 k2=>by omega⟩;simp only[insertLoop]
   exact Tells.neg (by omega) Tells.now
  | succ m ih=>
   intro i T2 hi hp2 hg2 hx2;have hT2:=hp2.ok.hn;have e0:Zp (T.row b) (i:Int)=T.rep b (i:Int):=rfl
   by_cases hr:T.rep b (i:Int)= []
   ·obtain⟨T',ht,hs,hx⟩:=ih (i+1) T2 (by omega) hp2 hg2 hx2
    refine⟨T',Tells.shift ?_,hs,fun x k1 k2 k3=> ?_⟩
    ·simp only[insertLoop,e0]
     exact Tells.pos (by omega) (Tells.pos hr ht)
    ·by_cases e:x=i
     ·rw[e] at k3;exact absurd hr k3
     ·exact hx x (by omega) k2 k3
   ·have hR:=hok.rep h0 h1 (x:=(i:Int)) (by omega) (by omega) hr;have hr2:=hx2.2 b (i:Int) h0 (by omega) (by omega) (by omega) hr
    have hG:Gn n T2 b (mulL (T.rep b (i:Int)) p):=by
     have:=hp2.reps (i:Int) (by omega) (by omega) (by rw[hr2];exact hr);rw[hr2] at this
     exact Cl.mul this (by rw[hg2];simp)
    obtain⟨T3,ht3,hs3,hf3⟩:=visit_ok h64 h0 h1 hI (fun _ _ _=>trivial) 0 (nil n T2 b+1) T2 _ (by omega) hp2 hG (by rw[hg2,List.length_append];simp;omega);obtain⟨T',ht,hs,hx⟩:=ih (i+1) T3 (by omega) hs3.pre (hs3.gen.trans hg2) (hx2.trans hs3.ext)
    refine⟨T',Tells.shift ?_,hs3.trans hT2 h0 h1 hs,fun x k1 k2 k3=> ?_⟩
    ·simp only[insertLoop,e0];have h2:=hR.1.1;have h3:=hp.1
     exact Tells.pos (by omega) (Tells.neg hr (Tells.bind (then_tells _ _ (by omega) (by rw[h3];exact hR.1.rg)) (Tells.bind ht3 ht)))
    ·by_cases e:x=i
     ·subst e
      exact hs3.pre.ok.sfx hs.ext h0 (by omega) (hR.1.mul hp) hf3
     ·exact hx x (by omega) k2 k3
 obtain⟨T',ht,hs,hx⟩:=loop n 0 (T.addGen b p) (by omega) pre1 g1 ext1
 have hext:=ext1.trans hs.ext
 have hgen:T'.gen b=T.gen b++ [p]:=hs.gen.trans g1
 have hcomp:Compn n T' b:=by
  intro c k1 k2
  by_cases e:c=b
  ·subst e
   refine⟨hs.pre.reps,hs.pre.gens,fun x j0 j1 e g hg=> ?_⟩
   by_cases hm:T.rep c x= []
   ·exact hs.new x j0 j1 hm e g (by rw[g1,←hgen];exact hg)
   ·have e2:=hext.2 c x h0 (by omega) j0 (by omega) hm;have hR:=hok.rep h0 h1 j0 j1 hm;rw[e2];rw[hgen,List.mem_append,List.mem_singleton] at hg
    rcases hg with hg|rfl
    ·exact hok.sfx hext h0 (by omega) (hR.1.mul (hok.gpm h0 (Int.le_of_lt h1) g hg)) (hb1.pairs x j0 j1 hm g hg)
    ·exact hx x (by omega) j1 hm
  ·exact hs.pre.comp c (by omega) k2
 have hsf:Sf n T'.rep (n-b).toNat b p:=(sfI hs.pre.ok h0 (Int.le_of_lt h1) hcomp hp hf).2 (Cl.gen (hs.pre.ok.gpm h0 (Int.le_of_lt h1)) (by rw[hgen];simp))
 refine⟨T',Tells.shift ?_,⟨hs.pre.ok,hcomp,hext,fun c k0 k1=> ?_,fun c k1 k2=> ?_,hsf,fun g hg=> ?_,fun g hg=>by rw[hgen];exact List.mem_append_left _ hg⟩⟩
 ·simp only[insertL]
  exact Tells.bind hte (Tells.neg (by omega) (Tells.pos h0 (Tells.pos (by omega) (Tells.pos (by omega) ht))))
 ·have:=hs.low c k0 k1
  exact⟨this.1,this.2.trans (g2 c k0 (by omega))⟩
 ·by_cases e:c=b
  ·subst e
   have hlt:cnt n T c<cnt n T' c:=by
    apply Classical.byContradiction;intro hcon
    apply hns;have hw':=hs.pre.ok.wf
    have:=Sf.same hw' hext c (fun d x j0 j1 j2 j3 e=>by
     apply Classical.byContradiction;intro hne
     exact hcon (cnt_lt hT hext h0 j0 (by omega) j2 (by omega) e hne)) (n-c).toNat c p h0 (Int.le_refl _) (by omega) (by rw[hT];exact hp) (by rw[hs.pre.ok.hn];exact hsf)
    rwa [hT] at this
   have:=hb c (Int.le_refl _) h1;rw[hgen,List.length_append];simp only[List.length_singleton];omega
  exact hs.pre.bd c (by omega) k2
 ·rw[hgen,List.mem_append,List.mem_singleton] at hg
  exact hg
theorem insert_end {n:Nat} (h64:n≤64):InsOk n (n:Int):=by
 intro T p hok hc hb hp hf
 have hT:=hok.hn
 obtain⟨e,hte,hie⟩:=strip_tells hok h64 0 (n:Int) p (by omega) (by omega) hp hf
 have hs:Sf n T.rep 0 (n:Int) p:=hf.all hp
 refine⟨T,Tells.shift ?_,⟨hok,hc,Ext.refl T,Low.refl T _,hb,?_,fun g hg=> .inl hg,fun g hg=>hg⟩⟩
 ·simp only[insertL]
  exact Tells.bind hte (Tells.pos (by have:=hie.2 hs;omega) Tells.now)
 ·rw[show((n:Int)-n).toNat=0 by omega];exact hs
theorem insert_ok {n:Nat} (h64:n≤64):∀(m:Nat) (b:Int),0≤b→b+m=n→InsOk n b
 | 0,b,h0,hb=>by
  have:b=n:=by omega
  subst this
  exact insert_end h64
 |m+1,b,h0,hb=>insert_step h64 h0 (by omega) (insert_ok h64 m (b+1) (by omega) (by omega))
theorem newTower_tells {n:Nat} (h1:1≤n) (h64:n≤64):∃T,Tells (fun k=>newTowerL k n) T∧Ok n T∧Compn n T 0∧Bd n T 0∧∀b,T.gen b= []:=by
 have hne:=idL_ne h1
 have key :∀T:Tw,T= { n:=n,reps:=(List.range n).map (fun b=>(List.replicate n []).set b (idL n)),gens:=List.replicate n [] } →Ok n T∧Compn n T 0∧Bd n T 0∧∀b,T.gen b= []:=by
  intro T hT;have hn:T.n=n:=by rw[hT]
  have hrow:∀b:Int,0≤b→b<n→T.row b=(List.replicate n []).set b.toNat (idL n):=by
   intro b h0 h1;have:b.toNat<n:=by omega
   rw[hT];simp[Tw.row,List.getD_eq_getElem?_getD,this]
  have hrep:∀b x:Int,0≤b→b<n→0≤x→x<n→T.rep b x=if x=b then idL n else []:=by
   intro b x h0 h1 h2 h3;rw[Tw.rep,hrow b h0 h1]
   by_cases e:x=b
   ·subst e;rw[if_pos rfl,List.getD_eq_getElem?_getD,List.getElem?_set_self (by simp;omega)];rfl
   ·rw[if_neg e,List.getD_eq_getElem?_getD,List.getElem?_set_ne (by omega),List.getElem?_replicate]
    split<;>rfl
  have hgen:∀b,T.gen b= []:=by
   intro b;rw[hT];simp only[Tw.gen,List.getD_eq_getElem?_getD,List.getElem?_replicate]
   split<;>rfl
  have hok:Ok n T:=by
   refine⟨⟨by omega,by omega,by rw[hT];simp,fun b h0 h1=> ?_,by rw[hT];simp,fun b h0 h1=> ?_,fun b x h0 h1 h2 h3 hr=> ?_,fun b h0 h1 g hg=> ?_⟩,hn⟩
   ·rw[hrow b h0 (by omega),hn];simp
   ·rw[hrep b b h0 (by omega) h0 (by omega),if_pos rfl,hn]
   ·rw [hrep b x h0 (by omega) h2 (by omega)] at hr⊢
    by_cases e:x=b
    ·subst e;rw[if_pos rfl,hn]
     exact⟨Yi n,Fx.id n (by omega),ap_id h0 (by omega)⟩
    ·rw[if_neg e] at hr;exact absurd rfl hr
   ·rw[hgen b] at hg;simp at hg
  refine⟨hok,fun c k1 k2=>⟨fun x j0 j1 e=> ?_,fun g hg=> ?_,fun x j0 j1 e g hg=> ?_⟩,fun c k1 k2=> ?_,hgen⟩
  ·rw[hrep c x (by omega) k2 j0 j1] at e⊢
   by_cases e2:x=c
   ·rw[if_pos e2];exact .one
   ·rw[if_neg e2] at e;exact absurd rfl e
  ·rw[hgen] at hg;simp at hg
  ·rw[hgen] at hg;simp at hg
  ·rw[hgen];simp
 refine⟨_,?_,key _ rfl⟩
 unfold newTowerL
 exact Tells.pos ⟨h1,h64⟩ (Tells.bind (identity_tells n (by omega)) (Tells.neg hne Tells.now))
theorem tower_loop {n:Nat} (h1:1≤n) (h64:n≤64) (l:List (List Int)) (hl:∀p∈l,Pm n p):∀(m i:Nat) (T:Tw),i+m=l.length→Ok n T→Compn n T 0→Bd n T 0→(∀g∈T.gen 0,g∈l)→(∀g∈l.take i,Gn n T 0 g)→
    ∃T',Tells (fun k=>Yb k T l (i:Int)) T'∧Ok n T'∧Compn n T' 0∧(∀g∈T'.gen 0,g∈l)∧(∀g∈l,Gn n T' 0 g)
 | 0,i,T,hi,hok,hc,hb,hg,ht=>by
  refine⟨T,Tells.shift ?_,hok,hc,hg,fun g hgl=>ht g (by rw[List.take_of_length_le (by omega)];exact hgl)⟩;simp only[Yb]
  exact Tells.neg (by omega) Tells.now
 | m +1,i,T,hi,hok,hc,hb,hg,ht=>by
  have hil:i<l.length:=by omega
  have hp:=hl _ (List.getElem_mem hil);obtain⟨T1,ht1,hI⟩:=insert_ok h64 n 0 (by omega) (by omega) T l[i] hok hc hb hp (fun j k0 k1=>by omega);have hpm1:=hI.ok.gpm (b:=0) (by omega) (by omega)
  obtain⟨T',ht',h2,h3,h4,h5⟩:=tower_loop h1 h64 l hl m (i+1) T1 (by omega) hI.ok hI.comp hI.bd (fun g hg1=>by
   rcases hI.gens g hg1 with k|rfl
   ·exact hg g k
   ·exact List.getElem_mem hil) (fun g hg1=>by
   rw[List.take_succ_eq_append_getElem hil,List.mem_append,List.mem_singleton] at hg1
   rcases hg1 with k|rfl
   ·exact Gn.up hpm1 hI.keep (ht g k)
   ·exact(sfI hI.ok (Int.le_refl _) (by omega) hI.comp hp (fun j k0 k1=>by omega)).1 hI.sf)
  refine⟨T',Tells.shift ?_,h2,h3,h4,h5⟩;simp only[Yb];have e:Zp l (i:Int)=l[i]:=by simp[Zp,hil]
  rw[e]
  exact Tells.pos (by omega) (Tells.neg (hp.ne h1) (Tells.bind ht1 ht'))
theorem tower_tells {n:Nat} (h1:1≤n) (h64:n≤64) (l:List (List Int)) (hl:∀p∈l,Pm n p):
    ∃T0 T,Tells (fun k=>newTowerL k n) T0∧Tells (fun k=>Yb k T0 l 0) T∧Ok n T∧Compn n T 0∧∀p,Gn n T 0 p↔Cl n (fun g=>g∈l) p:=by
 obtain⟨T0,ht0,hok,hc,hb,hg⟩:=newTower_tells h1 h64
 obtain⟨T,ht,h2,h3,h4,h5⟩:=tower_loop h1 h64 l hl l.length 0 T0 (by omega) hok hc hb (fun g h=>by rw[hg] at h;simp at h) (fun g h=>by simp at h)
 refine⟨T0,T,ht0,ht,h2,h3,fun p=>⟨fun h=> ?_,fun h=> ?_⟩⟩
 ·exact Cl.sub hl (fun g hgg=>Cl.gen hl (h4 g hgg)) h
 ·exact Cl.sub (h2.gpm (by omega) (by omega)) h5 h
def Lx (n:Nat) (p q:List Int):Prop:=∃i:Int,0≤i∧i<n∧(∀j:Int,0≤j→j<i→ap p j=ap q j)∧ap p i<ap q i
theorem best_tells {n:Nat} {T:Tw} (hok:Ok n T) {c:Int} (h0:0≤c) (h1:c<n) {p:List Int} (hp:Pm n p):∀(m:Nat) (x best:Int),0≤x→x+m=n→0≤best→best<n→T.rep c best≠ []→(∀y:Int,0≤y→y<x→T.rep c y≠ []→ap p best≤ap p y)→
    ∃e:Int,Tells (fun k=>bestL k T c p x best) e∧0≤e∧e<n∧T.rep c e≠ []∧∀y:Int,0≤y→y<n→T.rep c y≠ []→ap p e≤ap p y
 | 0,x,best,hx,hm,hb0,hb1,hr,hy=>by
  have hT:=hok.hn
  refine⟨best,Tells.shift ?_,hb0,hb1,hr,fun y k0 k1=>hy y k0 (by omega)⟩;simp only[bestL]
  exact Tells.neg (by omega) Tells.now
 | m + 1, x,best,hx,hm,hb0,hb1,hr,hy=>by
  have hT:=hok.hn;have hpl:=hp.1
  by_cases hz:T.rep c x= []
  ·obtain⟨e,ht,h2⟩:=best_tells hok h0 h1 hp m (x+1) best (by omega) (by omega) hb0 hb1 hr (fun y k0 k1 k2=>by
      by_cases e:y=x
      ·rw[e] at k2;exact absurd hz k2
      ·exact hy y k0 (by omega) k2)
   refine⟨e,Tells.shift ?_,h2⟩;simp only[bestL]
   exact Tells.pos (by omega) (Tells.pos hz ht)
  ·by_cases hlt:ap p x<ap p best
   ·obtain⟨e,ht,h2⟩:=best_tells hok h0 h1 hp m (x+1) x (by omega) (by omega) hx (by omega) hz (fun y k0 k1 k2=>by
       by_cases e:y=x
       ·rw[e];exact Int.le_refl _
       ·have:=hy y k0 (by omega) k2;omega)
    refine⟨e,Tells.shift ?_,h2⟩;simp only[bestL,Yg]
    exact Tells.pos (by omega) (Tells.neg hz (Tells.pos (by omega) (Tells.pos hb0 (Tells.pos (by omega) (Tells.pos hlt ht)))))
   ·obtain⟨e,ht,h2⟩:=best_tells hok h0 h1 hp m (x+1) best (by omega) (by omega) hb0 hb1 hr (fun y k0 k1 k2=>by
       by_cases e:y=x
       ·rw[e];omega
       ·exact hy y k0 (by omega) k2)
    refine⟨e,Tells.shift ?_,h2⟩;simp only[bestL,Yg]
    exact Tells.pos (by omega) (Tells.neg hz (Tells.pos (by omega) (Tells.pos hb0 (Tells.pos (by omega) (Tells.neg hlt ht)))))
theorem Gn.sub {n:Nat} {T:Tw} (hok:Ok n T) {b:Int} (h0:0≤b) (h1:b<n) (hc:Compn n T b) {p:List Int} (h:Gn n T (b+1) p):Gn n T b p:=
 Cl.sub (hok.gpm h0 (Int.le_of_lt h1)) (hc b (Int.le_refl _) h1).gens h
theorem canon_tells {n:Nat} {T:Tw} (hok:Ok n T) (h64:n≤64):∀(m:Nat) (c:Int) (p:List Int),0≤c→c+m=n→Compn n T c→Pm n p→
    ∃q,Tells (fun k=>canonL k T p c) q∧(∃s,Gn n T c s∧q=mulL s p)∧∀s,Gn n T c s→q=mulL s p∨Lx n q (mulL s p)
 | 0, c,p,h0,hm,hc,hp=>by
  have hT:=hok.hn;have hcn:c=n:=by omega
  subst hcn
  refine⟨p,Tells.shift ?_,⟨idL n,.one,(id_mul hp).symm⟩,fun s hs=> .inl ?_⟩
  ·simp only[canonL]
   exact Tells.neg (by omega) Tells.now
  ·have:=hok.gfx (by omega) (by omega) hs;rw[this.2.all this.1,id_mul hp]
 | m + 1, c,p,h0,hm,hc,hp=>by
  have hT:=hok.hn;have h1:c<n:=by omega
  have hid:=hok.id h0 h1;obtain⟨x0,htb,hx0,hx1,hr,hmin⟩:=best_tells hok h0 h1 hp n 0 c (by omega) (by omega) h0 h1 (by rw[hid];exact idL_ne (by omega)) (fun y k0 k1=>by omega);have hR:=hok.rep h0 h1 hx0 hx1 hr;have hl:=hc c (Int.le_refl _) h1;have hc1:Compn n T (c+1):=fun d k1 k2=>hc d (by omega) k2
  obtain⟨q,htq,⟨s1,hs1,hq1⟩,hleast⟩:=canon_tells hok h64 m (c+1) (mulL (T.rep c x0) p) (by omega) (by omega) hc1 (hR.1.mul hp);have hs1p:=hok.gfx (b:=c+1) (by omega) (by omega) hs1
  refine⟨q,Tells.shift ?_,⟨mulL s1 (T.rep c x0),Cl.mul' (hok.gpm h0 (Int.le_of_lt h1)) (Gn.sub hok h0 h1 hc hs1) (hl.reps _ hx0 hx1 hr),?_⟩,fun s hs=> ?_⟩
  ·simp only[canonL];have h2:=hR.1.1;have h3:=hp.1
   exact Tells.pos (by omega) (Tells.pos h0 (Tells.bind htb (Tells.pos hx0 (Tells.pos (by omega) (Tells.bind (then_tells _ _ (by omega) (by rw[h3];exact hR.1.rg)) htq)))))
  ·rw[hq1,mul_assoc hs1p.1 hR.1 hp]
  ·have hsp:=hok.gfx h0 (Int.le_of_lt h1) hs;have hsf:=(sfI hok h0 (Int.le_of_lt h1) hc hsp.1 hsp.2).2 hs;rw[show(n-c).toNat=m+1 by omega,Sf] at hsf;have hx:=hsp.1.rng h0 h1;have hRx:=hok.rep h0 h1 hx.1 hx.2 hsf.1;have hfx:=strip_fx h0 h1 hsp.1 hsp.2 hRx.1 hRx.2.1 hRx.2.2;have hin:Gn n T (c+1) (mulL s (invL (T.rep c (ap s c)))):=(sfI hok (by omega) (by omega) hc1 hfx.1 hfx.2).1 (by rw[show(n-(c+1)).toNat=m by omega];exact hsf.2)
   by_cases e:ap s c=x0
   ·rw[e] at hin;have:=hleast _ hin;rw[←mul_assoc (hsp.1.mul hR.1.inv) hR.1 hp,mul_inv_cancel hsp.1 hR.1] at this
    exact this
   ·right
    have hlt:ap p x0<ap p (ap s c):=by
     have:=hmin _ hx.1 hx.2 hsf.1;have hne:ap p x0≠ap p (ap s c):=fun k=>e (hp.inj hx0 hx1 hx.1 hx.2 k).symm
     omega
    refine⟨c,h0,h1,fun j k0 k1=> ?_,?_⟩
    ·rw[hq1,hs1p.1.ap_mul k0 (by omega),hs1p.2 j k0 (by omega),hR.1.ap_mul k0 (by omega),hR.2.1 j k0 k1,hsp.1.ap_mul k0 (by omega),hsp.2 j k0 k1]
    ·rw[hq1,hs1p.1.ap_mul h0 h1,hs1p.2 c h0 (by omega),hR.1.ap_mul h0 h1,hR.2.2,hsp.1.ap_mul h0 h1]
     exact hlt
end Go.Proofs.Ytjjlhbgpdncpcaa.P.M
end
section
set_option linter.unusedVariables false
set_option linter.unusedSimpArgs false
namespace Go.Proofs.Ytjjlhbgpdncpcaa.P.M
open Go.RowKit Go.Proofs.YtjjlhbgpdncpcaaW.PrintWords Go.Proofs.YtjjlhbgpdncpcaaW.PrintLast Go.Proofs.YtjjlhbgpdncpcaaW.PrintMore
theorem checkL_zero {p:List Int} :ZR p=0↔Pm p.length p∧1≤p.length∧p.length≤64:=by
 unfold ZR
 by_cases h1:p.length<1∨64<p.length
 ·rw[if_pos h1];constructor
  ·intro h;omega
  ·rintro ⟨_,h2,h3⟩;omega
 rw[if_neg h1]
 by_cases h2:∃x∈p,x<0∨(p.length:Int)≤x
 ·rw[if_pos h2];constructor
  ·intro h;omega
  ·rintro ⟨h3,_⟩;obtain⟨x,hx,hb⟩:=h2;have:=h3.2.1 x hx;omega
 rw[if_neg h2]
 by_cases h3:p.Nodup
 ·rw[if_pos h3]
  refine⟨fun _=>⟨⟨rfl,fun x hx=> ?_,h3⟩,by omega,by omega⟩,fun _=>rfl⟩;have:¬(x<0∨(p.length:Int)≤x):=fun k=>h2 ⟨x,hx,k⟩
  omega
 rw[if_neg h3];constructor
 ·intro h;omega
 ·rintro ⟨h4,_⟩;exact absurd h4.2.2 h3
theorem nodup_iff_ap {p:List Int} :p.Nodup↔∀i j:Nat,j<i→i<p.length→ap p i≠ap p j:=by
 rw[List.Nodup,List.pairwise_iff_getElem]
 constructor
 ·intro h i j hj hi e
  have:=h j i (by omega) hi hj;rw[ap_nat,ap_nat,List.getD_eq_getElem?_getD,List.getD_eq_getElem?_getD,List.getElem?_eq_getElem hi,List.getElem?_eq_getElem (show j<p.length by omega)] at e
  exact this e.symm
 ·intro h i j hi hj hij e
  refine h j i hij hj ?_;rw[ap_nat,ap_nat,List.getD_eq_getElem?_getD,List.getD_eq_getElem?_getD,List.getElem?_eq_getElem hi,List.getElem?_eq_getElem hj]
  exact e.symm
theorem rck2 (p:List Int) (hl:p.length≤64) (i:Nat) (hi:i<p.length) (v:Int) (hv:(∀j:Nat,j<i→ap p i≠ap p j)→Tells (fun k=>r30_Check.l1 k p (p.length:Int) ((i:Int)+1)) v) (hd:(∃j:Nat,j<i∧ap p i=ap p j)→v=18):
    ∀(m j:Nat),j+m=i→(∀a:Nat,a<j→ap p i≠ap p a)→Tells (fun k=>r30_Check.l2 k p (p.length:Int) (i:Int) (j:Int)) v
 | 0,j,hj,ha=>by
  refine Tells.shift ?_;simp only[r30_Check.l2]
  refine Tells.neg (by omega) ?_;rw[w64 (n:=(i:Int)+1) (by omega) (by omega)]
  exact hv (fun b hb=>ha b (by omega))
 | m +1,j,hj,ha=>by
  refine Tells.shift ?_;simp only[r30_Check.l2,Yg]
  refine Tells.pos (by omega) (Tells.pos (by omega) (Tells.pos (by omega) (Tells.pos (by omega) (Tells.pos (by omega) ?_))))
  by_cases e:ap p i=ap p j
  ·exact Tells.pos e (Tells.now' (hd ⟨j,by omega,e⟩).symm)
  ·refine Tells.neg e ?_;rw[w64 (n:=(j:Int)+1) (by omega) (by omega)]
   refine rck2 p hl i hi v hv hd m (j+1) (by omega) (fun a h=> ?_)
   by_cases e2:a=j
   ·rw[e2];exact e
   ·exact ha a (by omega)
theorem rck1 (p:List Int) (hl:p.length≤64):∀(m i:Nat),i+m=p.length→(∀a b:Nat,b<a→a<i→ap p a≠ap p b)→Tells (fun k=>r30_Check.l1 k p (p.length:Int) (i:Int)) (if p.Nodup then 0 else 18)
 | 0,i,hi,ha=>by
  refine Tells.shift ?_;simp only[r30_Check.l1]
  refine Tells.neg (by omega) (Tells.now' ?_);rw[if_pos (nodup_iff_ap.2 (fun a b h1 h2=>ha a b h1 (by omega)))]
 | m +1,i,hi,ha=>by
  refine Tells.shift ?_;simp only[r30_Check.l1]
  refine Tells.pos (by omega) ?_
  refine rck2 p hl i (by omega) _ (fun h=> ?_) (fun⟨j,hj,e⟩=>if_neg (fun h=>nodup_iff_ap.1 h i j hj (by omega) e)) i 0 (by omega) (fun a h=>by omega)
  have:=rck1 p hl m (i+1) (by omega) (fun a b h1 h2=>by
   by_cases e:a=i
   ·rw[e];exact h b (by omega)
   ·exact ha a b h1 (by omega))
  exact this
theorem rck0 (p:List Int) (hl:p.length≤64):∀(m i:Nat),i+m=p.length→(∀a:Nat,a<i→0≤ap p a∧ap p a<p.length)→Tells (fun k=>r30_Check.l0 k p (p.length:Int) (i:Int)) (if∃x∈p,x<0∨(p.length:Int)≤x then 6 else if p.Nodup then 0 else 18)
 | 0,i,hi,ha=>by
  refine Tells.shift ?_;simp only[r30_Check.l0]
  refine Tells.neg (by omega) ?_;rw[if_neg]
  ·exact rck1 p hl p.length 0 (by omega) (fun a b h1 h2=>by omega)
  ·rintro ⟨x,hx,hb⟩;obtain⟨j,hj,rfl⟩:=List.getElem_of_mem hx;have:=ha j (by omega);rw[ap_nat,List.getD_eq_getElem?_getD,List.getElem?_eq_getElem hj,Option.getD_some] at this;omega
 | m + 1,i,hi,ha=>by
  refine Tells.shift ?_;simp only[r30_Check.l0,Yg]
  refine Tells.pos (by omega) (Tells.pos (by omega) (Tells.pos (by omega) ?_));have hm:ap p i∈p:=ap_mem (by omega) (by omega)
  by_cases e:ap p i<0
  ·refine Tells.pos e (Tells.now' ?_);rw[if_pos ⟨_,hm,.inl e⟩]
  ·refine Tells.neg e ?_
   by_cases e2:ap p i≥(p.length:Int)
   ·refine Tells.pos e2 (Tells.now' ?_);rw[if_pos ⟨_,hm,.inr e2⟩]
   ·refine Tells.neg e2 ?_;rw[w64 (n:=(i:Int)+1) (by omega) (by omega)]
    refine rck0 p hl m (i+1) (by omega) (fun a h=> ?_)
    by_cases e3:a=i
    ·rw[e3];exact⟨by omega,by omega⟩
    ·exact ha a (by omega)
theorem Check_tells (p:List Int):Tells (fun k=>r30_Check.f k p) (ZR p):=by
 unfold r30_Check.f ZR
 by_cases h1:(p.length:Int)<1
 ·refine Tells.pos h1 (Tells.shift ?_)
  simp only[r30_Check.j0]
  refine Tells.pos trivial (Tells.now' ?_);rw[if_pos (by omega)]
 refine Tells.neg h1 (Tells.shift ?_)
 simp only[r30_Check.j0]
 by_cases h2:(p.length:Int)>64
 ·refine Tells.pos (dT h2) (Tells.now' ?_)
  rw[if_pos (by omega)]
 refine Tells.neg (by rw[dF h2];decide) ?_
 rw[if_neg (by omega)]
 exact rck0 p (by omega) p.length 0 (by omega) (fun a h=>by omega)
theorem rdL1_nat {l:List (List Int)} {i:Nat} (h:i<l.length):Zp l (i:Int)=l[i]:=by simp[Zp,h]
def allL (n:Int) (l:List (List Int)):Int:=match(l.map ZR).find? (fun e=>e !=0) with
 |some e=>e
 |none=>if l.any (lenB n) then 10 else 0
theorem find_at {l:List (List Int)} {i:Nat} (h:i<l.length) (ha:∀a:Nat,a<i→∀k:a<l.length,ZR l[a]=0) (hb:ZR l[i]≠0):(l.map ZR).find? (fun e=>e !=0)=some (ZR l[i]):=by
 rw[List.find?_eq_some_iff_getElem]
 refine⟨by simpa using hb,i,by simpa using h,by simp,fun j hj=> ?_⟩
 have:=ha j hj (by omega)
 simp[this]
theorem find_zero {l:List (List Int)} (ha:∀a:Nat,∀k:a<l.length,ZR l[a]=0):(l.map ZR).find? (fun e=>e !=0)=none:=by
 rw[List.find?_eq_none]
 intro x hx
 rw[List.mem_map] at hx
 obtain⟨y,hy,rfl⟩:=hx
 obtain⟨j,hj,rfl⟩:=List.getElem_of_mem hy
 rw[ha j hj];simp
theorem all_l1 (n:Int) (l:List (List Int)) (hl:l.length≤4611686018427387904):∀(m i:Nat),i+m=l.length→(∀a:Nat,a<i→∀k:a<l.length,lenB n l[a]=false)→Tells (fun k=>r30_all.l1 k n l (i:Int)) (if l.any (lenB n) then 10 else 0)
 | 0,i,hi,ha=>by
  refine Tells.shift ?_;simp only[r30_all.l1]
  refine Tells.neg (by omega) (Tells.now' ?_);rw[if_neg];rw[List.any_eq_true];rintro ⟨x,hx,hb⟩;obtain⟨j,hj,rfl⟩:=List.getElem_of_mem hx;rw[ha j (by omega) hj] at hb;cases hb
 | m +1,i,hi,ha=>by
  refine Tells.shift ?_;simp only[r30_all.l1];have h:i<l.length:=by omega
  rw[rdL1_nat h]
  refine Tells.pos (by omega) (Tells.pos (by omega) ?_)
  by_cases e:(l[i].length:Int)=n
  ·refine Tells.pos e ?_;rw[w64 (n:=(i:Int)+1) (by omega) (by omega)]
   refine all_l1 n l hl m (i+1) (by omega) (fun a h1 h2=> ?_)
   by_cases e2:a=i
   ·subst e2;simp[lenB,e]
   ·exact ha a (by omega) h2
  ·refine Tells.neg e (Tells.now' ?_);rw[if_pos];rw[List.any_eq_true]
   exact⟨l[i],List.getElem_mem h,by simpa[lenB] using e⟩
theorem all_l0 (n:Int) (l:List (List Int)) (hl:l.length≤4611686018427387904):∀(m i:Nat),i+m=l.length→(∀a:Nat,a<i→∀k:a<l.length,ZR l[a]=0)→Tells (fun k=>r30_all.l0 k n l (i:Int)) (allL n l)
 | 0,i,hi,ha=>by
  refine Tells.shift ?_;simp only[r30_all.l0]
  refine Tells.neg (by omega) ?_;have:allL n l=if l.any (lenB n) then 10 else 0:=by rw[allL,find_zero (fun a k=>ha a (by omega) k)]
  rw[this]
  exact all_l1 n l hl l.length 0 (by omega) (fun a h=>by omega)
 | m +1,i,hi,ha=>by
  refine Tells.shift ?_;simp only[r30_all.l0];have h:i<l.length:=by omega
  rw[rdL1_nat h]
  refine Tells.pos (by omega) (Tells.pos (by omega) (Tells.bind (Check_tells _) ?_))
  by_cases e:ZR l[i]=0
  ·refine Tells.pos e ?_;rw[w64 (n:=(i:Int)+1) (by omega) (by omega)]
   refine all_l0 n l hl m (i+1) (by omega) (fun a h1 h2=> ?_)
   by_cases e2:a=i
   ·subst e2;exact e
   ·exact ha a (by omega) h2
  ·refine Tells.neg e (Tells.now' ?_);rw[allL,find_at h ha e]
theorem all_tells (n:Int) (l:List (List Int)) (hl:l.length≤4611686018427387904):Tells (fun k=>r30_all.f k n l) (allL n l):=by
 unfold r30_all.f
 exact all_l0 n l hl l.length 0 (by omega) (fun a h=>by omega)
theorem allL_zero {n:Int} {l:List (List Int)} :allL n l=0↔∀p∈l,ZR p=0∧(p.length:Int)=n:=by
 unfold allL
 constructor
 ·intro h
  split at h
  ·rename_i e he
   have:=List.find?_some he;simp[h] at this
  ·rename_i he
   rw[List.find?_eq_none] at he;intro p hp
   refine⟨by simpa using he (ZR p) (List.mem_map.2 ⟨p,hp,rfl⟩),?_⟩
   apply Classical.byContradiction;intro hc;rw[if_pos (List.any_eq_true.2 ⟨p,hp,by simpa[lenB] using hc⟩)] at h
   cases h
 ·intro h
  rw [List.find?_eq_none.2 (fun x hx=>by
   rw[List.mem_map] at hx;obtain⟨y,hy,rfl⟩:=hx;rw[(h y hy).1];simp)]
  simp only;rw[if_neg];rw[List.any_eq_true];rintro ⟨p,hp,hb⟩;have:=(h p hp).2;simp[lenB,this] at hb
end Go.Proofs.Ytjjlhbgpdncpcaa.P.M
end
section
set_option linter.unusedVariables false
set_option linter.unusedSimpArgs false
namespace Go.Proofs.Ytjjlhbgpdncpcaa.P.M
open Go.RowKit Go.Proofs.YtjjlhbgpdncpcaaW.PrintWords Go.Proofs.YtjjlhbgpdncpcaaW.PrintLast Go.Proofs.YtjjlhbgpdncpcaaW.PrintMore
open Classical
theorem Lx.asymm {n:Nat} {p q:List Int} (h:Lx n p q) (k:Lx n q p):False:=by
 obtain⟨i,h0,h1,h2,h3⟩:=h
 obtain⟨j,k0,k1,k2,k3⟩:=k
 rcases Int.lt_trichotomy i j with e|e|e
 ·have:=k2 i h0 e;omega
 ·subst e;omega
 ·have:=h2 j k0 e;omega
def LeastAt (n:Nat) (G:List Int→Prop) (b x:Int) (q:List Int):Prop:=G q∧Fx b q∧ap q b=x∧∀s,G s→Fx b s→ap s b=x→q=s∨Lx n q s
theorem LeastAt.unique {n:Nat} {G:List Int→Prop} {b x:Int} {p q:List Int} (h:LeastAt n G b x p) (k:LeastAt n G b x q):p=q:=by
 rcases h.2.2.2 q k.1 k.2.1 k.2.2.1 with e|e
 ·exact e
 ·rcases k.2.2.2 p h.1 h.2.1 h.2.2.1 with e2|e2
  ·exact e2.symm
  ·exact(e.asymm e2).elim
noncomputable def leastQ (n:Nat) (G:List Int→Prop) (b x:Int):List Int:=if h:∃q,LeastAt n G b x q then Classical.choose h else []
theorem leastQ_eq {n:Nat} {G:List Int→Prop} {b x:Int} {q:List Int} (h:LeastAt n G b x q):leastQ n G b x=q:=by
 have h':∃q,LeastAt n G b x q:=⟨q,h⟩
 unfold leastQ
 rw[dif_pos h']
 exact(Classical.choose_spec h').unique h
noncomputable def orbF (n:Nat) (G:List Int→Prop) (b:Int) (x m:Nat):List Int:=((List.range' x m).map (fun(y:Nat)=>(y:Int))).filter (fun y=>decide (∃q,LeastAt n G b y q))
noncomputable def lvP (n:Nat) (G:List Int→Prop) (b:Int):S74:=⟨b,orbF n G b 0 n,(orbF n G b 0 n).map (leastQ n G b)⟩
noncomputable def lvsF (n:Nat) (G:List Int→Prop) (b m:Nat):List S74:=((List.range' b m).map (fun(c:Nat)=>lvP n G (c:Int))).filter (fun l=>decide (1<l.f1.length))
noncomputable def chainP (n:Nat) (G:List Int→Prop):List S74:=lvsF n G 0 n
theorem orbF_succ (n:Nat) (G:List Int→Prop) (b:Int) (x m:Nat):orbF n G b x (m+1)=(if∃q,LeastAt n G b (x:Int) q then [(x:Int)] else [])++orbF n G b (x+1) m:=by
 unfold orbF
 rw[List.range'_succ,List.map_cons,List.filter_cons]
 by_cases h:∃q,LeastAt n G b (x:Int) q
 ·rw[if_pos h,if_pos (dT h)];rfl
 rw[if_neg h,if_neg (by rw[dF h];decide)];rfl
theorem lvsF_succ (n:Nat) (G:List Int→Prop) (b m:Nat):lvsF n G b (m+1)=(if 1<(lvP n G (b:Int)).f1.length then [lvP n G (b:Int)] else [])++lvsF n G (b+1) m:=by
 unfold lvsF
 rw[List.range'_succ,List.map_cons,List.filter_cons]
 by_cases h:1<(lvP n G (b:Int)).f1.length
 ·rw[if_pos h,if_pos (dT h)];rfl
 rw[if_neg h,if_neg (by rw[dF h];decide)];rfl
theorem inv_id (n:Nat):invL (idL n)=idL n:=(inv_unique (Yi n) (Yi n) (mul_id (Yi n))).symm
theorem stab {n:Nat} {T:Tw} (hok:Ok n T) (hc:Compn n T 0):∀(b:Nat),b≤n→∀ {g:List Int},Gn n T 0 g→Fx (b:Int) g→Gn n T (b:Int) g
 |0,hb,g,hg,hf=>hg
 | b+1,hb,g,hg,hf=>by
  have ih:=stab hok hc b (by omega) hg (fun i h0 h1=>hf i h0 (by omega));have hgp:=hok.gfx (b:=(b:Int)) (by omega) (by omega) ih;have hs:=(sfI hok (b:=(b:Int)) (by omega) (by omega) (fun c k1 k2=>hc c (by omega) k2) hgp.1 hgp.2).2 ih;rw[show(n-(b:Int)).toNat=(n-((b:Int)+1)).toNat+1 by omega,Sf] at hs;have e:ap g (b:Int)=b:=hf b (by omega) (by omega);rw[e,hok.id (by omega) (by omega),inv_id,mul_id hgp.1] at hs
  exact(sfI hok (b:=(b:Int)+1) (by omega) (by omega) (fun c k1 k2=>hc c (by omega) k2) hgp.1 (show Fx ((b:Int)+1) g from hf)).1 hs.2
theorem unstab {n:Nat} {T:Tw} (hok:Ok n T) (hc:Compn n T 0):∀(b:Nat),b≤n→∀ {g:List Int},Gn n T (b:Int) g→Gn n T 0 g
 |0,hb,g,hg=>hg
 |b+1,hb,g,hg=>unstab hok hc b (by omega) (Gn.sub hok (by omega) (by omega) (fun c k1 k2=>hc c (by omega) k2) hg)
theorem least_of_rep {n:Nat} {T:Tw} (hok:Ok n T) (h64:n≤64) (hc:Compn n T 0) {b:Nat} (hb:b<n) {x:Int} (h0:0≤x) (h1:x<n) (hr:T.rep (b:Int) x≠ []):
    ∃q,Tells (fun k=>canonL k T (T.rep (b:Int) x) ((b:Int)+1)) q∧LeastAt n (Gn n T 0) (b:Int) x q:=by
 have hR:=hok.rep (b:=(b:Int)) (by omega) (by omega) h0 h1 hr
 have hcb:Compn n T (b:Int):=fun c k1 k2=>hc c (by omega) k2
 have hl:=hcb (b:Int) (Int.le_refl _) (by omega)
 obtain⟨q,ht,⟨s,hs,hq⟩,hmin⟩:=canon_tells hok h64 (n-(b+1)) ((b:Int)+1) _ (by omega) (by omega) (fun c k1 k2=>hc c (by omega) k2) hR.1
 have hsp:=hok.gfx (b:=(b:Int)+1) (by omega) (by omega) hs
 have hqG:Gn n T (b:Int) q:=by
  rw[hq]
  exact Cl.mul' (hok.gpm (by omega) (by omega)) (Gn.sub hok (by omega) (by omega) hcb hs) (hl.reps x h0 h1 hr)
 have hqp:=hok.gfx (b:=(b:Int)) (by omega) (by omega) hqG
 refine⟨q,ht,unstab hok hc b (by omega) hqG,hqp.2,?_,fun s' hs' hf' he'=> ?_⟩
 ·rw[hq,hsp.1.ap_mul (by omega) (by omega),hsp.2 b (by omega) (by omega),hR.2.2]
 ·have hsb:=stab hok hc b (by omega) hs' hf'
  have hsp':=hok.gfx (b:=(b:Int)) (by omega) (by omega) hsb;have hsf:=(sfI hok (b:=(b:Int)) (by omega) (by omega) hcb hsp'.1 hsp'.2).2 hsb;rw[show(n-(b:Int)).toNat=(n-((b:Int)+1)).toNat+1 by omega,Sf,he'] at hsf;have hfx:=strip_fx (b:=(b:Int)) (by omega) (by omega) hsp'.1 hsp'.2 hR.1 hR.2.1 (hR.2.2.trans he'.symm);have hin:=(sfI hok (b:=(b:Int)+1) (by omega) (by omega) (fun c k1 k2=>hc c (by omega) k2) hfx.1 hfx.2).1 hsf.2;have:=hmin _ hin;rw[mul_inv_cancel hsp'.1 hR.1] at this
  exact this
theorem rep_of_least {n:Nat} {T:Tw} (hok:Ok n T) (hc:Compn n T 0) {b:Nat} (hb:b<n) {x:Int} {q:List Int} (h:LeastAt n (Gn n T 0) (b:Int) x q):T.rep (b:Int) x≠ []:=by
 have hsb:=stab hok hc b (by omega) h.1 h.2.1
 have hsp:=hok.gfx (b:=(b:Int)) (by omega) (by omega) hsb
 have hsf:=(sfI hok (b:=(b:Int)) (by omega) (by omega) (fun c k1 k2=>hc c (by omega) k2) hsp.1 hsp.2).2 hsb
 rw[show(n-(b:Int)).toNat=(n-((b:Int)+1)).toNat+1 by omega,Sf,h.2.2.1] at hsf
 exact hsf.1
theorem level_tells {n:Nat} {T:Tw} (hok:Ok n T) (h64:n≤64) (hc:Compn n T 0) {b:Nat} (hb:b<n):∀(m x:Nat) (orb:List Int) (reps:List (List Int)),x+m=n→
    Tells (fun k=>levelL k T (b:Int) (x:Int) orb reps) (orb++orbF n (Gn n T 0) (b:Int) x m,reps++(orbF n (Gn n T 0) (b:Int) x m).map (leastQ n (Gn n T 0) (b:Int)))
 | 0,x,orb,reps,hx=>by
  have hT:=hok.hn
  refine Tells.shift ?_;simp only[levelL]
  exact Tells.neg (by omega) (Tells.now' (by simp[orbF]))
 | m +1,x,orb,reps,hx=>by
  have hT:=hok.hn
  refine Tells.shift ?_;simp only[levelL]
  refine Tells.pos (by omega) ?_;rw[orbF_succ]
  by_cases hr:T.rep (b:Int) (x:Int)= []
  ·refine Tells.pos hr ?_;rw[if_neg (fun⟨q,hq⟩=>rep_of_least hok hc hb hq hr),List.nil_append]
   exact level_tells hok h64 hc hb m (x+1) orb reps (by omega)
  ·obtain⟨q,ht,hq⟩:=least_of_rep hok h64 hc hb (x:=(x:Int)) (by omega) (by omega) hr
   refine Tells.neg hr (Tells.bind ht ?_);rw[if_pos ⟨q,hq⟩,List.map_append,List.map_singleton,leastQ_eq hq,←List.append_assoc,←List.append_assoc]
   exact level_tells hok h64 hc hb m (x+1) _ _ (by omega)
theorem chain_tells {n:Nat} {T:Tw} (hok:Ok n T) (h64:n≤64) (hc:Compn n T 0):∀(m b:Nat) (lv:List S74),b+m=n→Tells (fun k=>chainL k T (b:Int) lv) (lv++lvsF n (Gn n T 0) b m)
 | 0,b,lv,hb=>by
  have hT:=hok.hn
  refine Tells.shift ?_;simp only[chainL]
  exact Tells.neg (by omega) (Tells.now' (by simp[lvsF]))
 | m +1,b,lv,hb=>by
  have hT:=hok.hn
  refine Tells.shift ?_;simp only[chainL]
  refine Tells.pos (by omega) (Tells.bind (level_tells hok h64 hc (by omega) n 0 [] [] (by omega)) ?_);rw[lvsF_succ];simp only[List.nil_append]
  have e:∀z,(if 1<(orbF n (Gn n T 0) (b:Int) 0 n).length then lv++ [lvP n (Gn n T 0) (b:Int)] else lv)++z=lv++((if 1<(lvP n (Gn n T 0) (b:Int)).f1.length then [lvP n (Gn n T 0) (b:Int)] else [])++z):=by
   intro z
   by_cases h:1<(orbF n (Gn n T 0) (b:Int) 0 n).length
   ·rw[if_pos h,if_pos (show 1<(lvP n (Gn n T 0) (b:Int)).f1.length from h),List.append_assoc]
   ·rw[if_neg h,if_neg (show¬1<(lvP n (Gn n T 0) (b:Int)).f1.length from h)];rfl
  rw[←e]
  exact chain_tells hok h64 hc m (b+1) _ (by omega)
def gensE (n:Int) (l:List (List Int)):Int:=if n<1∨64<n then 4 else allL n l
theorem gensL_eq (n:Int) (l:List (List Int)):gensL n l=gensE n l:=rfl
def Gp (n:Nat) (l:List (List Int)):List Int→Prop:=Cl n (fun g=>g∈l)
noncomputable def ZV (n:Int) (l:List (List Int)):Int×List S74×Int:=if gensE n l=0 then(n,chainP n.toNat (Gp n.toNat l),0) else(0,[],gensE n l)
theorem gensE_zero {n:Int} {l:List (List Int)} (h:gensE n l=0):∃m:Nat,n=m∧1≤m∧m≤64∧∀p∈l,Pm m p:=by
 unfold gensE at h
 split at h
 ·cases h
 ·refine⟨n.toNat,by omega,by omega,by omega,fun p hp=> ?_⟩
  have:=allL_zero.1 h p hp;have h2:=checkL_zero.1 this.1;have:p.length=n.toNat:=by omega
  rw[←this];exact h2.1
theorem PBuild_tells (n:Int) (l:List (List Int)):Tells (fun k=>perm_Build.f k n l) (ZV n l):=by
 unfold perm_Build.f ZV
 refine Tells.bind (a:=gensE n l) (Tells.now' (gensL_eq n l)) ?_
 by_cases h:gensE n l=0
 ·obtain⟨m,rfl,h1,h64,hl⟩:=gensE_zero h
  obtain⟨T0,T,ht0,ht,hok,hc,hG⟩:=tower_tells h1 h64 l hl;rw[if_pos h];have hT:=hok.hn;have e:Gn m T 0=Gp m l:=funext (fun p=>propext (hG p));have hch:=chain_tells hok h64 hc m 0 [] (by omega);rw[e] at hch
  refine Tells.pos h (Tells.pos (by omega) ?_);rw[show((m:Nat):Int).toNat=m by omega]
  refine Tells.bind ht0 (Tells.bind ht (Tells.bind hch (Tells.now' ?_)));rw[hT];rfl
 rw[if_neg h]
 exact Tells.neg h Tells.now
end Go.Proofs.Ytjjlhbgpdncpcaa.P.M
end
section
set_option linter.unusedVariables false
set_option linter.unusedSimpArgs false
namespace Go.Proofs.Ytjjlhbgpdncpcaa.P.M
open Go.RowKit Go.Proofs.YtjjlhbgpdncpcaaW.PrintWords Go.Proofs.YtjjlhbgpdncpcaaW.PrintLast Go.Proofs.YtjjlhbgpdncpcaaW.PrintMore
def cdF (a:Int) (l:List Int):Int:=l.foldl (fun a x=>6*a+x) a
theorem cdF_inj:∀ {p q:List Int} {a b:Int},p.length=q.length→(∀x∈p,0≤x∧x<6)→(∀x∈q,0≤x∧x<6)→cdF a p=cdF b q→a=b∧p=q
 | [],[],a,b,_,_,_,h=>⟨h,rfl⟩
 | [],_::_,_,_,h,_,_,_=>by simp at h
 |_::_,[],_,_,h,_,_,_=>by simp at h
 | x::p,y::q,a,b,h,hp,hq,e=>by
  have ih:=cdF_inj (p:=p) (q:=q) (a:=6*a+x) (b:=6*b+y) (by simpa using h) (fun z hz=>hp z (by simp[hz])) (fun z hz=>hq z (by simp[hz])) e;have h1:=hp x (by simp);have h2:=hq y (by simp);have:x=y:=by omega
  subst this
  exact⟨by omega,by rw[ih.2]⟩
theorem cdF_bound:∀ {l:List Int} {a:Int},0≤a→(∀x∈l,0≤x∧x<6)→0≤cdF a l∧cdF a l<(a+1)*6^l.length
 | [],a,h,_=>by simp[cdF];omega
 | x::l,a,h,hl=>by
  have hx:=hl x (by simp);have ih:=cdF_bound (l:=l) (a:=6*a+x) (by omega) (fun z hz=>hl z (by simp[hz]));have e:cdF a (x::l)=cdF (6*a+x) l:=rfl;rw[e]
  refine⟨ih.1,Int.lt_of_lt_of_le ih.2 ?_⟩;rw[List.length_cons,Int.pow_succ,←Int.mul_assoc,Int.mul_right_comm]
  exact Int.mul_le_mul_of_nonneg_right (by omega) (Int.le_of_lt (Int.pow_pos (by decide)))
theorem cdF_take (l:List Int) (i:Nat) (h:i<l.length):cdF 0 (l.take (i+1))=6*cdF 0 (l.take i)+ap l i:=by
 rw[List.take_succ_eq_append_getElem h,cdF,List.foldl_append]
 simp only[List.foldl_cons,List.foldl_nil]
 rw[ap_nat,List.getD_eq_getElem?_getD,List.getElem?_eq_getElem h];rfl
theorem six_le (n:Nat) (h:n≤6):(6:Int)^n≤46656:=by
 have:n=0∨n=1∨n=2∨n=3∨n=4∨n=5∨n=6:=by omega
 rcases this with rfl|rfl|rfl|rfl|rfl|rfl|rfl<;>decide
theorem cd_small {n:Nat} (hn:n≤6) {p:List Int} (hp:Pm n p):0≤cdF 0 p∧cdF 0 p<46656:=by
 have:=cdF_bound (l:=p) (a:=0) (by omega) (fun x hx=>by have:=hp.2.1 x hx;omega)
 refine⟨this.1,Int.lt_of_lt_of_le this.2 ?_⟩
 rw[hp.1]
 have:=six_le n hn
 omega
theorem cd_inj {n:Nat} (hn:n≤6) {p q:List Int} (hp:Pm n p) (hq:Pm n q) (e:cdF 0 p=cdF 0 q):p=q:=
 (cdF_inj (by rw[hp.1,hq.1]) (fun x hx=>by have:=hp.2.1 x hx;omega) (fun x hx=>by have:=hq.2.1 x hx;omega) e).2
theorem code_loop {n:Nat} (hn:n≤6) {p:List Int} (hp:Pm n p):∀(m i:Nat),i+m=n→Tells (fun k=>r30_code.l0 k p (cdF 0 (p.take i)) (i:Int)) (cdF 0 p)
 | 0,i,hi=>by
  have hpl:=hp.1
  refine Tells.shift ?_;simp only[r30_code.l0]
  refine Tells.neg (by omega) (Tells.now' ?_);rw[List.take_of_length_le (by omega)]
 | m +1,i,hi=>by
  have hpl:=hp.1
  refine Tells.shift ?_;simp only[r30_code.l0,Yg]
  have hb:∀j:Nat,0≤cdF 0 (p.take j)∧cdF 0 (p.take j)<46656:=by
   intro j;have:=cdF_bound (l:=p.take j) (a:=0) (by omega) (fun x hx=>by have:=hp.2.1 x (List.mem_of_mem_take hx);omega)
   refine⟨this.1,Int.lt_of_lt_of_le this.2 ?_⟩;have h2:=six_le (p.take j).length (by rw[List.length_take];omega);omega
  have h1:=hb i;have h2:=hb (i+1);rw[cdF_take p i (by omega)] at h2
  refine Tells.pos (by omega) (Tells.pos (by omega) ?_);rw[w64 (n:=6*cdF 0 (p.take i)) (by omega) (by omega),w64 (n:=6*cdF 0 (p.take i)+ap p i) (by omega) (by omega),w64 (n:=(i:Int)+1) (by omega) (by omega),←cdF_take p i (by omega)]
  exact code_loop hn hp m (i+1) (by omega)
theorem code_tells {n:Nat} (hn:n≤6) {p:List Int} (hp:Pm n p):Tells (fun k=>r30_code.f k p) (cdF 0 p):=by
 unfold r30_code.f
 exact code_loop hn hp n 0 (by omega)
open Classical in
theorem less_loop {n:Nat} (hn:n≤64) {p q:List Int} (hp:p.length=n) (hq:q.length=n):∀(m i:Nat),i+m=n→(∀j:Int,0≤j→j<i→ap p j=ap q j)→Tells (fun k=>r30_Less.l0 k p q (i:Int)) (decide (Lx n p q))
 | 0,i,hi,he=>by
  refine Tells.shift ?_;simp only[r30_Less.l0]
  refine Tells.neg (by omega) (Tells.now' ?_)
  refine(dF ?_).symm;rintro ⟨j,h0,h1,_,h3⟩;have:=he j h0 (by omega);omega
 | m + 1,i,hi,he=>by
  refine Tells.shift ?_;simp only[r30_Less.l0,Yg]
  refine Tells.pos (by omega) (Tells.pos (by omega) (Tells.pos (by omega) ?_))
  by_cases e:ap p i=ap q i
  ·refine Tells.pos e ?_;rw[w64 (n:=(i:Int)+1) (by omega) (by omega)]
   refine less_loop hn hp hq m (i+1) (by omega) (fun j h0 h1=> ?_)
   by_cases e2:j=i
   ·rw[e2];exact e
   ·exact he j h0 (by omega)
  ·refine Tells.neg e (Tells.now' ?_)
   by_cases hlt:ap p i<ap q i
   ·exact decide_eq_decide.2 ⟨fun _=>⟨(i:Int),by omega,by omega,he,hlt⟩,fun _=>hlt⟩
   ·refine decide_eq_decide.2 ⟨fun h=>absurd h hlt,?_⟩;rintro ⟨j,h0,h1,h2,h3⟩;exfalso
    rcases Int.lt_trichotomy j i with k|k|k
    ·have:=he j h0 k;omega
    ·rw[k] at h3;omega
    ·exact e (h2 i (by omega) k)
open Classical in
theorem less_tells {n:Nat} (hn:n≤64) {p q:List Int} (hp:p.length=n) (hq:q.length=n):Tells (fun k=>r30_Less.f k p q) (decide (Lx n p q)):=by
 unfold r30_Less.f
 exact less_loop hn hp hq n 0 (by omega) (fun j h0 h1=>by omega)
theorem Lx.trans {n:Nat} {p q r:List Int} (h:Lx n p q) (k:Lx n q r):Lx n p r:=by
 obtain⟨i,h0,h1,h2,h3⟩:=h
 obtain⟨j,k0,k1,k2,k3⟩:=k
 rcases Int.lt_trichotomy i j with e|e|e
 ·exact⟨i,h0,h1,fun a a0 a1=>(h2 a a0 a1).trans (k2 a a0 (by omega)),by have:=k2 i h0 e;omega⟩
 ·subst e
  exact⟨i,h0,h1,fun a a0 a1=>(h2 a a0 a1).trans (k2 a a0 a1),by omega⟩
 ·exact⟨j,k0,k1,fun a a0 a1=>(h2 a a0 (by omega)).trans (k2 a a0 a1),by have:=h2 j k0 e;omega⟩
theorem Lx.total {n:Nat} {p q:List Int} (hp:p.length=n) (hq:q.length=n):Lx n p q∨p=q∨Lx n q p:=by
 by_cases h:∃i:Nat,i<n∧ap p i≠ap q i
 ·have : ∃ i:Nat,(i<n∧ap p i≠ap q i)∧∀j<i,¬(j<n∧ap p j≠ap q j):=by
     obtain⟨i,hi⟩:=h
     have key:∀m:Nat,∀i≤m,(i<n∧ap p i≠ap q i)→∃i:Nat,(i<n∧ap p i≠ap q i)∧∀j<i,¬(j<n∧ap p j≠ap q j):=by
      intro m
      induction m with
      |zero=>intro i hi h;exact⟨i,h,fun j hj=>by omega⟩
      | succ m ih=>
       intro i hi h
       by_cases hc:∃j<i,(j<n∧ap p j≠ap q j)
       ·obtain⟨j,hj,hh⟩:=hc
        exact ih j (by omega) hh
       ·exact⟨i,h,fun j hj hh=>hc ⟨j,hj,hh⟩⟩
     exact key i i (Nat.le_refl _) hi
  obtain⟨i,⟨h1,h2⟩,h3⟩:=this
  have eqs:∀j:Int,0≤j→j<i→ap p j=ap q j:=by
   intro j j0 j1;have:=h3 j.toNat (by omega)
   apply Classical.byContradiction;intro hc
   exact this ⟨by omega,by rw[show((j.toNat:Nat):Int)=j by omega];exact hc⟩
  rcases Int.lt_trichotomy (ap p i) (ap q i) with e|e|e
  ·exact .inl ⟨i,by omega,by omega,eqs,e⟩
  ·exact absurd e h2
  ·exact .inr (.inr ⟨i,by omega,by omega,fun j j0 j1=>(eqs j j0 j1).symm,e⟩)
 right;left
 refine ap_ext hp hq (fun i h0 h1=> ?_)
 apply Classical.byContradiction
 intro hc
 exact h ⟨i.toNat,by omega,by rw[show((i.toNat:Nat):Int)=i by omega];exact hc⟩
open Classical in
theorem fixes_loop {p:List Int} {b:Int} (hb:b≤p.length) (hl:p.length≤64):∀(m i:Nat),(i:Int)+m=b→(∀j:Int,0≤j→j<i→ap p j=j)→Tells (fun k=>r30_fixes.l0 k p b (i:Int)) (decide (Fx b p))
 | 0,i,hi,he=>by
  refine Tells.shift ?_;simp only[r30_fixes.l0]
  refine Tells.neg (by omega) (Tells.now' ?_)
  exact(dT (fun j h0 h1=>he j h0 (by omega))).symm
 | m +1,i,hi,he=>by
  refine Tells.shift ?_;simp only[r30_fixes.l0,Yg]
  refine Tells.pos (by omega) (Tells.pos (by omega) (Tells.pos (by omega) ?_))
  by_cases e:ap p i=i
  ·refine Tells.pos e ?_;rw[w64 (n:=(i:Int)+1) (by omega) (by omega)]
   refine fixes_loop hb hl m (i+1) (by omega) (fun j h0 h1=> ?_)
   by_cases e2:j=i
   ·rw[e2];exact e
   ·exact he j h0 (by omega)
  ·refine Tells.neg e (Tells.now' ?_)
   refine(dF (fun h=>e (h i (by omega) (by omega)))).symm
open Classical in
theorem fixes_tells {p:List Int} {b:Nat} (hb:b≤p.length) (hl:p.length≤64):Tells (fun k=>r30_fixes.f k p (b:Int)) (decide (Fx (b:Int) p)):=by
 unfold r30_fixes.f
 exact fixes_loop (by omega) hl b 0 (by omega) (fun j h0 h1=>by omega)
def at1 (l:List (List Int)) (i:Nat):List Int:=l.getD i []
theorem at1_eq {l:List (List Int)} {i:Nat} (h:i<l.length):at1 l i=l[i]:=by simp[at1,h]
theorem at1_set {l:List (List Int)} {i:Nat} (h:i<l.length) (v:List Int) (j:Nat):at1 (l.set i v) j=if j=i then v else at1 l j:=by
 by_cases e:j=i
 ·subst e
  rw[if_pos rfl,at1,List.getD_eq_getElem?_getD,List.getElem?_set_self h];rfl
 rw[if_neg e,at1,List.getD_eq_getElem?_getD,List.getElem?_set_ne (by omega),←List.getD_eq_getElem?_getD];rfl
def Le (n:Nat) (p q:List Int):Prop:=¬Lx n q p
theorem Le.trans {n:Nat} {p q r:List Int} (hp:p.length=n) (hq:q.length=n) (hr:r.length=n) (h:Le n p q) (k:Le n q r):Le n p r:=by
 intro c
 rcases Lx.total hp hq with a|a|a
 ·rcases Lx.total hq hr with b|b|b
  ·exact(a.trans b).asymm c
  ·subst b;exact a.asymm c
  ·exact k b
 ·subst a;exact k c
 ·exact h a
theorem swap_perm {l:List (List Int)} {i j:Nat} (hi:i<l.length) (hj:j<l.length) (hne:i≠j):((l.set i (at1 l j)).set j (at1 l i)).Perm l:=by
 rw[at1_eq hi,at1_eq hj]
 exact List.set_set_perm hi hj
structure SortI (n:Nat) (l0 l:List (List Int)):Prop where
 perm:l.Perm l0
 len:∀p∈l0,p.length=n
theorem SortI.at {n:Nat} {l0 l:List (List Int)} (h:SortI n l0 l) {i:Nat} (hi:i<l.length):(at1 l i).length=n:=by
 rw[at1_eq hi]
 exact h.len _ (h.perm.mem_iff.1 (List.getElem_mem hi))
theorem rd1_at (l:List (List Int)) (i:Nat):Zp l (i:Int)=at1 l i:=by simp[Zp,at1]
open Classical in
theorem sort_l3 {n:Nat} (hn:n≤64) {l0:List (List Int)} (hl0:l0.length≤4611686018427387904) (i:Nat) (P:List (List Int)→Prop)
    (cont:∀l,SortI n l0 l→(∀a b:Nat,a<b→b<i+1→Le n (at1 l a) (at1 l b))→∃r,P r∧Tells (fun k=>r30_Group.l2 k l ((i:Int)+1)) r):
    ∀(j:Nat) (l:List (List Int)),j≤i→i<l0.length→SortI n l0 l→(∀a b:Nat,a<b→b≤i→a≠j→b≠j→Le n (at1 l a) (at1 l b))→(∀b:Nat,j<b→b≤i→Le n (at1 l j) (at1 l b))→
    ∃r,P r∧Tells (fun k=>r30_Group.l3 k l (i:Int) (j:Int)) r
 | 0, l,hj,hi,hs,h1,h2=>by
  obtain⟨r,hr,ht⟩:=cont l hs (fun a b hab hb=>by
   by_cases e:a=0
   ·subst e;exact h2 b hab (by omega)
   ·exact h1 a b hab (by omega) e (by omega))
  refine⟨r,hr,Tells.shift ?_⟩;simp only[r30_Group.l3]
  refine Tells.neg (by omega) ?_;rw[w64 (n:=(i:Int)+1) (by omega) (by omega)]
  exact ht
 | j + 1, l,hj,hi,hs,h1,h2=>by
  have hll:=hs.perm.length_eq;have hw:wrap64 (((j+1:Nat):Int)-1)=(j:Int):=by rw[w64 (by omega) (by omega)];omega
  have hlt:=less_tells hn (hs.at (i:=j+1) (by omega)) (hs.at (i:=j) (by omega))
  by_cases hx:Lx n (at1 l (j+1)) (at1 l j)
  ·-- swap
   rw[dT hx] at hlt
   have hA:∀a:Nat,at1 ((l.set (j+1) (at1 l j)).set j (at1 l (j+1))) a=if a=j then at1 l (j+1) else if a=j+1 then at1 l j else at1 l a:=by
    intro a;rw[at1_set (by rw[List.length_set];omega)]
    by_cases e:a=j
    ·rw[if_pos e,if_pos e]
    ·rw[if_neg e,if_neg e,at1_set (by omega)]
   have hs':SortI n l0 ((l.set (j+1) (at1 l j)).set j (at1 l (j+1))):=⟨(swap_perm (by omega) (by omega) (by omega)).trans hs.perm,hs.len⟩
   obtain ⟨r,hr,ht⟩:=sort_l3 hn hl0 i P cont j _ (by omega) hi hs' (fun a b hab hb ha hbj=>by
    rw[hA a,hA b,if_neg ha,if_neg hbj]
    by_cases e1:a=j+1
    ·rw[if_pos e1,if_neg (by omega)]
     exact h1 j b (by omega) hb (by omega) (by omega)
    ·rw [if_neg e1]
     by_cases e2:b=j+1
     ·rw[if_pos e2]
      exact h1 a j (by omega) (by omega) e1 (by omega)
     ·rw[if_neg e2];exact h1 a b hab hb e1 e2) (fun b hb hbi=>by
    rw[hA j,hA b,if_pos rfl,if_neg (by omega)]
    by_cases e2:b=j+1
    ·rw[if_pos e2];exact fun c=>hx.asymm c
    ·rw[if_neg e2];exact h2 b (by omega) hbi)
   refine⟨r,hr,Tells.shift ?_⟩;simp only[r30_Group.l3,hw,rd1_at]
   refine Tells.pos (by omega) (Tells.pos (by omega) (Tells.pos (by omega) (Tells.pos (by omega) (Tells.pos (by omega) (Tells.bind hlt (Tells.pos rfl ?_))))));rw[show(((j+1:Nat):Int)).toNat=j+1 by omega,show((j:Nat):Int).toNat=j by omega]
   exact ht
  ·rw [dF hx] at hlt
   obtain ⟨r,hr,ht⟩:=cont l hs (fun a b hab hb=>by
    by_cases e1:a=j+1
    ·subst e1;exact h2 b (by omega) (by omega)
    ·by_cases e2:b=j+1
     ·subst e2
      by_cases e3:a=j
      ·subst e3;exact hx
      ·exact Le.trans (hs.at (by omega)) (hs.at (by omega)) (hs.at (by omega)) (h1 a j (by omega) (by omega) (by omega) (by omega)) hx
     ·exact h1 a b hab (by omega) e1 e2)
   refine⟨r,hr,Tells.shift ?_⟩;simp only[r30_Group.l3,hw,rd1_at]
   refine Tells.pos (by omega) (Tells.pos (by omega) (Tells.pos (by omega) (Tells.pos (by omega) (Tells.pos (by omega) (Tells.bind hlt (Tells.neg (by simp) ?_))))));rw[w64 (n:=(i:Int)+1) (by omega) (by omega)]
   exact ht
theorem sort_l2 {n:Nat} (hn:n≤64) {l0:List (List Int)} (hl0:l0.length≤4611686018427387904):∀(m i:Nat) (l:List (List Int)),l0.length≤i+m→SortI n l0 l→(∀a b:Nat,a<b→b<i→b<l0.length→Le n (at1 l a) (at1 l b))→
    ∃r,(r.Perm l0∧∀a b:Nat,a<b→b<l0.length→Le n (at1 r a) (at1 r b))∧Tells (fun k=>r30_Group.l2 k l (i:Int)) r
 | m, i,l,hi,hs,h=>by
  have hll:=hs.perm.length_eq
  by_cases hlt:i<l0.length
  ·match m,hi with
   |0,hi=>omega
   | m+1,hi=>
    obtain⟨r,hr,ht⟩:=sort_l3 hn hl0 i (fun r=>r.Perm l0∧∀a b:Nat,a<b→b<l0.length→Le n (at1 r a) (at1 r b)) (fun l' hs' h'=>sort_l2 hn hl0 m (i+1) l' (by omega) hs' (fun a b hab hb _=>h' a b hab hb)) i l (Nat.le_refl _) hlt hs (fun a b hab hb ha hbi=>h a b hab (by omega) (by omega)) (fun b hb hbi=>by omega)
    refine⟨r,hr,Tells.shift ?_⟩;simp only[r30_Group.l2]
    exact Tells.pos (by omega) ht
  ·refine⟨l,⟨hs.perm,fun a b hab hb=>h a b hab (by omega) hb⟩,Tells.shift ?_⟩;simp only[r30_Group.l2]
   exact Tells.neg (by omega) Tells.now
theorem sort_tells {n:Nat} (hn:n≤64) (l:List (List Int)) (hl:l.length≤4611686018427387904) (hp:∀p∈l,p.length=n) (hnd:l.Nodup):∃r,(∀p,p∈r↔p∈l)∧r.length=l.length∧r.Pairwise (Lx n)∧Tells (fun k=>r30_Group.l2 k l 1) r:=by
 obtain⟨r,⟨h1,h2⟩,ht⟩:=sort_l2 hn hl l.length 1 l (by omega) ⟨List.Perm.refl _,hp⟩ (fun a b hab hb _=>by omega)
 refine⟨r,fun p=>h1.mem_iff,h1.length_eq,?_,ht⟩
 rw[List.pairwise_iff_getElem]
 intro i j hi hj hij
 have hle:=h2 i j hij (by have:=h1.length_eq;omega)
 rw[at1_eq hi,at1_eq hj] at hle
 rcases Lx.total (hp _ (h1.mem_iff.1 (List.getElem_mem hi))) (hp _ (h1.mem_iff.1 (List.getElem_mem hj))) with a|a|a
 ·exact a
 ·have hn':r.Nodup:=h1.nodup_iff.2 hnd
  exact absurd a (List.pairwise_iff_getElem.1 hn' i j hi hj hij)
 ·exact absurd a hle
end Go.Proofs.Ytjjlhbgpdncpcaa.P.M
end
namespace Go.Proofs.Ytjjlhbgpdncpcaa.P
open Go.RowKit Go.Proofs.YtjjlhbgpdncpcaaW.PrintWords Go.Proofs.YtjjlhbgpdncpcaaW.PrintLast Go.Proofs.YtjjlhbgpdncpcaaW.PrintMore
set_option linter.unusedVariables false
set_option linter.unusedSimpArgs false
set_option maxHeartbeats 8000000
set_option maxRecDepth 100000
section
attribute [local go_sem] ZG ZE ZL ZK ZA Zz ZF ZD
end
end Go.Proofs.Ytjjlhbgpdncpcaa.P
section
set_option linter.unusedVariables false
set_option linter.unusedSimpArgs false
namespace Go.Proofs.Ytjjlhbgpdncpcaa.P.M
open Go.RowKit Go.Proofs.YtjjlhbgpdncpcaaW.PrintWords Go.Proofs.YtjjlhbgpdncpcaaW.PrintLast Go.Proofs.YtjjlhbgpdncpcaaW.PrintMore
def run (n:Nat) (p:List Int) (x:Int) (t:Nat):List Int:=(List.range t).map (fun s=>ap (powL n p s) x)
theorem rdb_set {l:List Bool} {i:Int} (v:Bool) (h0:0≤i) (h1:i<(l.length:Int)) {j:Int} (k0:0≤j):rdOf false (l.set i.toNat v) j=if j=i then v else rdOf false l j:=by
 have hi:i.toNat<l.length:=by omega
 by_cases e:j=i
 ·subst e
  rw[if_pos rfl,rdOf,List.getD_eq_getElem?_getD,List.getElem?_set_self hi];rfl
 rw[if_neg e,rdOf,List.getD_eq_getElem?_getD,List.getElem?_set_ne (by omega),←List.getD_eq_getElem?_getD];rfl
theorem count_set:∀ {l:List Bool} {i:Nat},i<l.length→l.getD i false=false→(l.set i true).count true=l.count true+1
 | [],i,h,_=>by simp at h
 | b::l,0,h,e=>by
  have:b=false:=by simpa using e
  subst this;simp[List.count_cons]
 | b::l,i+1,h,e=>by
  have:=count_set (l:=l) (i:=i) (by simpa using h) (by simpa using e);simp only[sC,List.count_cons,this];omega
theorem rdb_lt {l:List Bool} {i:Int} (h0:0≤i) (h1:i<(l.length:Int)) (e:rdOf false l i=false):(l.set i.toNat true).count true=l.count true+1:=count_set (by omega) e
end Go.Proofs.Ytjjlhbgpdncpcaa.P.M
end
section
set_option linter.unusedVariables false
set_option linter.unusedSimpArgs false
namespace Go.Proofs.Ytjjlhbgpdncpcaa.P.M
open Go.RowKit Go.Proofs.YtjjlhbgpdncpcaaW.PrintWords Go.Proofs.YtjjlhbgpdncpcaaW.PrintLast Go.Proofs.YtjjlhbgpdncpcaaW.PrintMore
structure GI (n:Nat) (gens:List (List Int)) (seen:List Bool) (out:List (List Int)):Prop where
 len:seen.length=46656
 el:∀p∈out,Gp n gens p
 one:idL n∈out
 nd:out.Nodup
 mem:∀p,Pm n p→(rdOf false seen (cdF 0 p)=true↔p∈out)
 cnt:out.length=seen.count true
theorem GI.short {n:Nat} {gens:List (List Int)} {seen:List Bool} {out:List (List Int)} (h:GI n gens seen out):out.length≤46656:=by
 have h1:=h.cnt
 have h2:seen.count true≤seen.length:=List.count_le_length
 have:=h.len
 omega
structure Elems (n:Nat) (G:List Int→Prop) (r:List (List Int)):Prop where
 mem:∀p,p∈r↔G p
 asc:r.Pairwise (Lx n)
 short:r.length≤46656
theorem at1_snoc {l:List (List Int)} {i:Nat} (h:i<l.length) (p:List Int):at1 (l++ [p]) i=at1 l i:=by
 simp[at1,List.getD_eq_getElem?_getD,List.getElem?_append_left h]
theorem GI.next {n:Nat} (hn:n≤6) {gens:List (List Int)} (hg:∀p∈gens,Pm n p) {seen:List Bool} {out:List (List Int)} (h:GI n gens seen out) {p:List Int} (hp:Gp n gens p) (hs:rdOf false seen (cdF 0 p)=false):GI n gens (seen.set (cdF 0 p).toNat true) (out++ [p]):=by
 have hpm:=hp.pm hg
 have hc:=cd_small hn hpm
 have hl:=h.len
 refine⟨by rw[List.length_set];exact hl,fun q hq=> ?_,List.mem_append_left _ h.one,?_,fun q hq=> ?_,?_⟩
 ·rw[List.mem_append,List.mem_singleton] at hq
  rcases hq with hq|rfl
  ·exact h.el q hq
  ·exact hp
 ·rw[List.nodup_append]
  refine⟨h.nd,by simp,fun a ha b hb e=> ?_⟩;rw[List.mem_singleton] at hb;subst hb;rw[e] at ha;rw[(h.mem _ hpm).2 ha] at hs;cases hs
 ·have hcq:=cd_small hn hq
  rw[rdb_set true hc.1 (by omega) hcq.1,List.mem_append,List.mem_singleton]
  by_cases e:cdF 0 q=cdF 0 p
  ·rw[if_pos e];simp[cd_inj hn hq hpm e]
  rw[if_neg e,h.mem q hq]
  constructor
  ·exact fun k=> .inl k
  ·rintro (k|rfl)
   ·exact k
   ·exact absurd rfl e
 ·rw[rdb_lt hc.1 (by omega) hs,List.length_append,h.cnt];rfl
theorem grp_l1 {n:Nat} (h1:1≤n) (hn:n≤6) {gens:List (List Int)} (hg:∀p∈gens,Pm n p) (hgl:gens.length≤4611686018427387904) (seen:List Bool) (out:List (List Int)) (i j:Nat)
    (h:GI n gens seen out) (hi:i<out.length) (hj:j≤gens.length) (hpr:∀a:Nat,a<i→∀g∈gens,mulL (at1 out a) g∈out) (hpj:∀c:Nat,c<j→∀hc:c<gens.length,mulL (at1 out i) gens[c]∈out):
    ∃r,Elems n (Gp n gens) r∧Tells (fun k=>r30_Group.l1 k gens seen out (i:Int) (j:Int)) r:=by
 have hsh:=h.short
 by_cases hjl:j<gens.length
 ·have hel:=h.el _ (List.getElem_mem hi)
  have hpm:=hel.pm hg;have hgm:=hg _ (List.getElem_mem hjl);have hpl:=hpm.1;have hgml:=hgm.1;have hG:Gp n gens (mulL out[i] gens[j]):=Cl.mul hel (List.getElem_mem hjl);have hP:=hG.pm hg;have hc:=cd_small hn hP;have hsl:=h.len;have ea:at1 out i=out[i]:=at1_eq hi;have tl:=Then_tells out[i] gens[j] (by omega) (by rw[hgml];exact hpm.rg);have tc:=code_tells hn hP
  by_cases hs:rdOf false seen (cdF 0 (mulL out[i] gens[j]))=true
  ·obtain⟨r,hr,ht⟩:=grp_l1 h1 hn hg hgl seen out i (j+1) h hi (by omega) hpr (fun c hcj hcl=>by
      by_cases e:c=j
      ·subst e;rw[ea];exact(h.mem _ hP).1 hs
      ·exact hpj c (by omega) hcl)
   refine⟨r,hr,Tells.shift ?_⟩;simp only[r30_Group.l1,rd1_at,ea,at1_eq hjl]
   refine Tells.pos (by omega) (Tells.pos (by omega) (Tells.pos (by omega) (Tells.pos (by omega) (Tells.bind tl (Tells.bind tc (Tells.pos hc.1 (Tells.pos (by omega) (Tells.pos hs ?_))))))));rw[w64 (n:=(j:Int)+1) (by omega) (by omega)]
   exact ht
  ·have hs':rdOf false seen (cdF 0 (mulL out[i] gens[j]))=false:=by simpa using hs
   have hnx:=h.next hn hg hG hs'
   have hnl:=hnx.short;rw[List.length_append,List.length_singleton] at hnl
   obtain⟨r,hr,ht⟩:=grp_l1 h1 hn hg hgl _ _ i (j+1) hnx (by rw[List.length_append];omega) (by omega) (fun a ha g hgg=>by
    rw[at1_snoc (by omega)]
    exact List.mem_append_left _ (hpr a ha g hgg)) (fun c hcj hcl=>by
    rw[at1_snoc hi]
    by_cases e:c=j
    ·subst e;rw[ea];exact List.mem_append_right _ (List.mem_singleton.2 rfl)
    ·exact List.mem_append_left _ (hpj c (by omega) hcl))
   refine⟨r,hr,Tells.shift ?_⟩;simp only[r30_Group.l1,rd1_at,ea,at1_eq hjl]
   refine Tells.pos (by omega) (Tells.pos (by omega) (Tells.pos (by omega) (Tells.pos (by omega) (Tells.bind tl (Tells.bind tc (Tells.pos hc.1 (Tells.pos (by omega) (Tells.neg (by rw[hs'];decide) (Tells.bind tc (Tells.pos hc.1 (Tells.pos (by omega) (Tells.pos (by omega) ?_))))))))))));rw[w64 (n:=(j:Int)+1) (by omega) (by omega)]
   exact ht
 ·-- the element's products are done
  have hall:∀a:Nat,a<i+1→∀g∈gens,mulL (at1 out a) g∈out:=by
   intro a ha g hgg
   by_cases e:a=i
   ·subst e;obtain⟨c,hc,rfl⟩:=List.getElem_of_mem hgg
    exact hpj c (by omega) hc
   ·exact hpr a (by omega) g hgg
  by_cases hnx:i+1<out.length
  ·obtain⟨r,hr,ht⟩:=grp_l1 h1 hn hg hgl seen out (i+1) 0 h hnx (by omega) hall (fun c hc=>by omega)
   refine⟨r,hr,Tells.shift ?_⟩;simp only[r30_Group.l1]
   refine Tells.neg (by omega) ?_;rw[w64 (n:=(i:Int)+1) (by omega) (by omega)]
   refine Tells.shift ?_;simp only[r30_Group.l0]
   exact Tells.pos (by omega) ht
  ·have hlen:∀p∈out,p.length=n:=fun p hp=>((h.el p hp).pm hg).1
   obtain⟨r,hr,hrl,hasc,ht⟩:=sort_tells (show n≤64 by omega) out (by omega) hlen h.nd
   refine⟨r,⟨fun p=> ?_,hasc,by omega⟩,Tells.shift ?_⟩
   ·rw[hr p]
    refine⟨h.el p,fun hp=> ?_⟩
    refine Cl.least (H:=fun p=>p∈out) h.one (fun p g hp hgg=> ?_) hp;obtain⟨a,ha,rfl⟩:=List.getElem_of_mem hp;have:=hall a (by omega) g hgg
    rwa [at1_eq ha] at this
   ·simp only[r30_Group.l1]
    refine Tells.neg (by omega) ?_;rw[w64 (n:=(i:Int)+1) (by omega) (by omega)]
    refine Tells.shift ?_;simp only[r30_Group.l0]
    exact Tells.neg (by omega) ht
 termination_by (46656-out.length,out.length-i,gens.length-j)
 decreasing_by
  ·apply Prod.Lex.right;apply Prod.Lex.right;omega
  ·apply Prod.Lex.left;simp only[List.length_append,List.length_singleton] at*;omega
  ·apply Prod.Lex.right;apply Prod.Lex.left;omega
theorem Group_tells {n:Nat} (h1:1≤n) (hn:n≤6) {gens:List (List Int)} (hg:∀p∈gens,Pm n p) (hgl:gens.length≤4611686018427387904):∃r,Elems n (Gp n gens) r∧Tells (fun k=>r30_Group.f k (n:Int) gens) r:=by
 have hc:=cd_small hn (Yi n)
 have hz:∀y:Int,rdOf false (List.replicate 46656 false) y=false:=by
  intro y;simp only[rdOf,List.getD_eq_getElem?_getD,List.getElem?_replicate]
  split<;>rfl
 have h :GI n gens ((List.replicate 46656 false).set (cdF 0 (idL n)).toNat true) [idL n]:=by
  refine⟨by rw[List.length_set,List.length_replicate],fun p hp=> ?_,by simp,by simp,fun p hp=> ?_,?_⟩
  ·rw[List.mem_singleton] at hp;rw[hp];exact .one
  ·have hcp:=cd_small hn hp;rw[rdb_set true hc.1 zz158 hcp.1,List.mem_singleton]
   by_cases e:cdF 0 p=cdF 0 (idL n)
   ·rw[if_pos e];simp[cd_inj hn hp (Yi n) e]
   ·rw[if_neg e,hz]
    constructor
    ·intro k;cases k
    ·rintro rfl;exact absurd rfl e
  ·rw[rdb_lt hc.1 zz158 (hz _),List.count_replicate];rfl
 obtain⟨r,hr,ht⟩:=grp_l1 h1 hn hg hgl _ _ 0 0 h (by simp) (by omega) (fun a ha=>by omega) (fun c hc=>by omega)
 refine⟨r,hr,?_⟩
 unfold r30_Group.f
 refine Tells.pos (by decide) (Tells.bind Tells.now (Tells.bind (Unit_tells n (by omega)) (Tells.bind Tells.now (Tells.pos (by simp) ?_))))
 have e0:Zp [idL n] 0=idL n:=rfl
 rw[e0]
 refine Tells.bind (code_tells hn (Yi n)) (Tells.pos hc.1 (Tells.pos zz158 ?_))
 refine Tells.shift ?_
 simp only[r30_Group.l0]
 exact Tells.pos (by simp) ht
theorem least_found {n:Nat} {G:List Int→Prop} {l:List (List Int)} (he:Elems n G l) {b y:Int} {i:Nat} (hi:i<l.length) (hf:Fx b l[i]) (hv:ap l[i] b=y) (hno:∀a:Nat,a<i→∀ha:a<l.length,¬(Fx b l[a]∧ap l[a] b=y)):LeastAt n G b y l[i]:=by
 refine⟨(he.mem _).1 (List.getElem_mem hi),hf,hv,fun s hs hsf hsv=> ?_⟩
 obtain⟨c,hc,rfl⟩:=List.getElem_of_mem ((he.mem s).2 hs)
 by_cases h:c<i
 ·exact absurd ⟨hsf,hsv⟩ (hno c h hc)
 by_cases e:c=i
 ·subst e;exact .inl rfl
 exact .inr (List.pairwise_iff_getElem.1 he.asc i c hi hc (by omega))
open Classical in
theorem of_l2 {n:Nat} (hn:n≤64) {G:List Int→Prop} (hG:∀p,G p→Pm n p) {l:List (List Int)} (he:Elems n G l) {b y:Nat} (hb:b<n) (hy:y≤n) (d:Int) (lv:List S74) {orb:List Int} {reps:List (List Int)} (ho:orb.length≤y) (hr:reps.length≤y) (v:Int×List S74)
    (cont:Tells (fun k=>r30_Of.l1 k (n:Int) l (b:Int) ((y:Int)+1) d lv (b:Int) (orb++(if∃q,LeastAt n G (b:Int) (y:Int) q then [(y:Int)] else [])) (reps++(if∃q,LeastAt n G (b:Int) (y:Int) q then [leastQ n G (b:Int) (y:Int)] else []))) v):
    ∀(m i:Nat),i+m=l.length→(∀a:Nat,a<i→∀ha:a<l.length,¬(Fx (b:Int) l[a]∧ap l[a] (b:Int)=y))→Tells (fun k=>r30_Of.l2 k (n:Int) l (b:Int) (y:Int) (i:Int) d lv (b:Int) orb reps) v
 | 0, i,hi,hno=>by
  have hsh:=he.short
  refine Tells.shift ?_;simp only[r30_Of.l2]
  refine Tells.neg (by omega) ?_;rw[w64 (n:=(y:Int)+1) (by omega) (by omega)]
  have hne:¬∃q,LeastAt n G (b:Int) (y:Int) q:=by
   rintro ⟨q,hq⟩;obtain⟨c,hc,rfl⟩:=List.getElem_of_mem ((he.mem q).2 hq.1)
   exact hno c (by omega) hc ⟨hq.2.1,hq.2.2.1⟩
  rw[if_neg hne,if_neg hne,List.append_nil,List.append_nil] at cont
  exact cont
 | m + 1,i,hi,hno=>by
  have hsh:=he.short;have hil:i<l.length:=by omega
  have hp:=hG _ ((he.mem _).1 (List.getElem_mem hil));have hpl:=hp.1;have hfx:=fixes_tells (p:=l[i]) (b:=b) (by omega) (by omega)
  refine Tells.shift ?_;simp only[r30_Of.l2,rd1_at,at1_eq hil,Yg]
  refine Tells.pos (by omega) (Tells.pos (by omega) (Tells.bind hfx ?_))
  have next:¬(Fx (b:Int) l[i]∧ap l[i] (b:Int)=y)→Tells (fun k=>r30_Of.l2 k (n:Int) l (b:Int) (y:Int) (wrap64 ((i:Int)+1)) d lv (b:Int) orb reps) v:=by
   intro hnot;rw[w64 (n:=(i:Int)+1) (by omega) (by omega)]
   refine of_l2 hn hG he hb hy d lv ho hr v cont m (i+1) (by omega) (fun a h1 h2=> ?_)
   by_cases e:a=i
   ·subst e;exact hnot
   ·exact hno a (by omega) h2
  by_cases hf:Fx (b:Int) l[i]
  ·refine Tells.pos (dT hf) (Tells.pos (by omega) (Tells.pos (by omega) ?_))
   by_cases hv:ap l[i] (b:Int)=y
   ·refine Tells.pos hv (Tells.pos (by omega) (Tells.pos (by omega) ?_));rw[w64 (n:=(y:Int)+1) (by omega) (by omega)];have hq:=least_found he hil hf hv hno;have hex:∃q,LeastAt n G (b:Int) (y:Int) q:=⟨_,hq⟩;rw[if_pos hex,if_pos hex,leastQ_eq hq] at cont
    exact cont
   ·exact Tells.neg hv (next (fun h=>hv h.2))
  ·exact Tells.neg (by rw[dF hf];decide) (next (fun h=>hf h.1))
theorem orbF_len (n:Nat) (G:List Int→Prop) (b:Int) (x m:Nat):(orbF n G b x m).length≤m:=by
 unfold orbF
 have:=List.length_filter_le (p:=fun y=> @decide (∃q,LeastAt n G b y q) (Classical.propDecidable _)) ((List.range' x m).map (fun(y:Nat)=>(y:Int)))
 rw[List.length_map,List.length_range'] at this
 exact this
open Classical in
theorem of_l1 {n:Nat} (hn:n≤64) {G:List Int→Prop} (hG:∀p,G p→Pm n p) {l:List (List Int)} (he:Elems n G l) {b:Nat} (hb:b<n) (d:Int) (lv:List S74) (hlv:lv.length≤64) (v:Int×List S74):
    ∀(m y:Nat) (orb:List Int) (reps:List (List Int)),y+m=n→orb.length≤y→reps.length≤y→
    Tells (fun k=>r30_Of.l0 k (n:Int) l ((b:Int)+1) d (if 1<(orb++orbF n G (b:Int) y m).length then lv++ [⟨(b:Int),orb++orbF n G (b:Int) y m,reps++(orbF n G (b:Int) y m).map (leastQ n G (b:Int))⟩] else lv)) v→
    Tells (fun k=>r30_Of.l1 k (n:Int) l (b:Int) (y:Int) d lv (b:Int) orb reps) v
 | 0, y,orb,reps,hy,ho,hr,cont=>by
  refine Tells.shift ?_;simp only[r30_Of.l1]
  refine Tells.neg (by omega) ?_;have e:orbF n G (b:Int) y 0= []:=rfl;rw[e,List.append_nil,List.map_nil,List.append_nil] at cont;rw[w64 (n:=(b:Int)+1) (by omega) (by omega)]
  by_cases h:1<orb.length
  ·rw[if_pos h] at cont
   exact Tells.pos (by omega) (Tells.pos (by omega) cont)
  ·rw[if_neg h] at cont
   exact Tells.neg (by omega) cont
 | m + 1,y,orb,reps,hy,ho,hr,cont=>by
  refine Tells.shift ?_;simp only[r30_Of.l1]
  refine Tells.pos (by omega) ?_
  refine of_l2 hn hG he hb (by omega) d lv ho hr v ?_ l.length 0 (by omega) (fun a ha=>by omega);rw[orbF_succ] at cont
  refine of_l1 hn hG he hb d lv hlv v m (y+1) _ _ (by omega) ?_ ?_ ?_
  ·rw[List.length_append];split<;>simp<;>omega
  ·rw[List.length_append];split<;>simp<;>omega
  ·rw [List.append_assoc,List.append_assoc]
   have:∀z,(if∃q,LeastAt n G (b:Int) (y:Int) q then [leastQ n G (b:Int) (y:Int)] else [])++z=((if∃q,LeastAt n G (b:Int) (y:Int) q then [(y:Int)] else []).map (leastQ n G (b:Int)))++z:=by
    intro z
    split<;>rfl
   rw[this,←List.map_append]
   exact cont
theorem orbF_low {n:Nat} {G:List Int→Prop} (hG:∀p,G p→Pm n p) {b:Nat} (hb:b<n):∀(j:Nat),j≤b→orbF n G (b:Int) 0 n=orbF n G (b:Int) j (n-j)
 |0,_=>rfl
 | j+1,hj=>by
  rw[orbF_low hG hb j (by omega),show n-j=(n-(j+1))+1 by omega,orbF_succ,if_neg]
  ·rfl
  ·rintro ⟨q,hq⟩;have:=hq.2.1.ge (hG q hq.1) (by omega) (by omega);rw[hq.2.2.1] at this;omega
theorem of_l0 {n:Nat} (hn:n≤64) {G:List Int→Prop} (hG:∀p,G p→Pm n p) {l:List (List Int)} (he:Elems n G l) (d:Int):∀(m b:Nat) (lv:List S74),b+m=n→lv.length≤b→Tells (fun k=>r30_Of.l0 k (n:Int) l (b:Int) d lv) (d,lv++lvsF n G b m)
 | 0,b,lv,hb,hl=>by
  refine Tells.shift ?_;simp only[r30_Of.l0]
  exact Tells.neg (by omega) (Tells.now' (by simp[lvsF]))
 | m +1,b,lv,hb,hl=>by
  refine Tells.shift ?_;simp only[r30_Of.l0]
  refine Tells.pos (by omega) ?_
  refine of_l1 hn hG he (by omega) d lv (by omega) _ (n-b) b [] [] (by omega) (by simp) (by simp) ?_;rw[List.nil_append,List.nil_append,←orbF_low hG (by omega) b (Nat.le_refl _),lvsF_succ];have ih:=of_l0 hn hG he d m (b+1) (if 1<(orbF n G (b:Int) 0 n).length then lv++ [⟨(b:Int),orbF n G (b:Int) 0 n,(orbF n G (b:Int) 0 n).map (leastQ n G (b:Int))⟩] else lv) (by omega) (by split;(rw[List.length_append];simp;omega);omega)
  have e:∀z,(if 1<(orbF n G (b:Int) 0 n).length then lv++ [lvP n G (b:Int)] else lv)++z=lv++((if 1<(lvP n G (b:Int)).f1.length then [lvP n G (b:Int)] else [])++z):=by
   intro z
   by_cases h:1<(orbF n G (b:Int) 0 n).length
   ·rw[if_pos h,if_pos (show 1<(lvP n G (b:Int)).f1.length from h),List.append_assoc]
   ·rw[if_neg h,if_neg (show¬1<(lvP n G (b:Int)).f1.length from h)];rfl
  rw[←e]
  exact ih
theorem Of_tells {n:Nat} (hn:n≤64) {G:List Int→Prop} (hG:∀p,G p→Pm n p) {l:List (List Int)} (he:Elems n G l):Tells (fun k=>r30_Of.f k (n:Int) l) ((n:Int),chainP n G):=by
 unfold r30_Of.f
 have:=of_l0 hn hG he (n:Int) n 0 [] (by omega) (by simp)
 rw[List.nil_append] at this
 exact this
theorem group_tells (n:Int) (l:List (List Int)) (hl:l.length≤4611686018427387904):Tells (fun k=>r30_group.f k n l) (gensE n l):=by
 unfold r30_group.f gensE
 by_cases h1:n<1
 ·refine Tells.pos h1 (Tells.now' ?_)
  rw[if_pos (.inl h1)]
 refine Tells.neg h1 ?_
 by_cases h2:n>64
 ·refine Tells.pos h2 (Tells.now' ?_)
  rw[if_pos (.inr h2)]
 refine Tells.neg h2 ?_
 rw[if_neg (by omega)]
 exact Tells.bind (all_tells n l hl) Tells.now
theorem RBuild_tells (n:Int) (l:List (List Int)) (hn:n≤6∨64<n) (hl:l.length≤4611686018427387904):Tells (fun k=>r30_Build.f k n l) (ZV n l):=by
 unfold r30_Build.f ZV
 refine Tells.bind (group_tells n l hl) ?_
 by_cases h:gensE n l=0
 ·obtain⟨m,rfl,h1,h64,hg⟩:=gensE_zero h
  rw[if_pos h];obtain⟨r,hr,ht⟩:=Group_tells h1 (by omega) hg hl
  refine Tells.pos h (Tells.bind ht (Tells.bind (Of_tells h64 (fun p hp=>hp.pm hg) hr) Tells.now))
 rw[if_neg h]
 exact Tells.neg h Tells.now
end Go.Proofs.Ytjjlhbgpdncpcaa.P.M
end
section
set_option linter.unusedVariables false
set_option linter.unusedSimpArgs false
namespace Go.Proofs.Ytjjlhbgpdncpcaa.P.M
open Go.RowKit Go.Proofs.YtjjlhbgpdncpcaaW.PrintWords Go.Proofs.YtjjlhbgpdncpcaaW.PrintLast Go.Proofs.YtjjlhbgpdncpcaaW.PrintMore
instance:DecidableEq S74:=fun x y=>
 if h:x.f0=y.f0∧x.f1=y.f1∧x.f2=y.f2 then isTrue (by cases x;cases y;simp at h;simp[h]) else isFalse (fun e=>h (by rw[e];exact⟨rfl,rfl,rfl⟩))
theorem s74_ext {x y:S74} (h0:x.f0=y.f0) (h1:x.f1=y.f1) (h2:x.f2=y.f2):x=y:=by
 cases x;cases y;simp at h0 h1 h2;simp[h0,h1,h2]
theorem rd74_at {l:List S74} {i:Nat} (h:i<l.length):Zd l (i:Int)=l[i]:=by simp[Zd,h]
def Bg:Nat:=4611686018427387904
def Fine (l:List S74):Prop:=l.length≤Bg∧∀x∈l,x.f1.length≤Bg∧x.f2.length≤Bg∧∀r∈x.f2,r.length≤Bg
theorem same_l0 (n1 n2:Int) (x y:List S74) (hxy:x.length=y.length) (hf:Fine x):∀(m i:Nat),i+m=x.length→x.take i=y.take i→Tells (fun k=>r30_Same.l0 k (i:Int) n1 x n2 y) (decide (x=y))
 | 0,i,hi,ht=>by
  refine Tells.shift ?_;simp only[r30_Same.l0]
  refine Tells.neg (by omega) (Tells.now' ?_);rw[List.take_of_length_le (by omega),List.take_of_length_le (by omega)] at ht
  exact(dT ht).symm
 | m + 1, i,hi,ht=>by
  have hx:i<x.length:=by omega
  have hy:i<y.length:=by omega
  have hb:=hf.2 _ (List.getElem_mem hx);have hl:=hf.1;unfold Bg at hb hl;have bad:x[i]≠y[i]→false=decide (x=y):=fun h=>(dF (fun e=>h (by simp only[e]))).symm
  refine Tells.shift ?_;simp only[r30_Same.l0,rd74_at hx,rd74_at hy]
  refine Tells.pos (by omega) (Tells.pos (by omega) (Tells.pos (by omega) ?_))
  have fin:x[i]≠y[i]→Tells (fun k=>r30_Same.j2 k (i:Int) true n1 x n2 y) (decide (x=y)):=by
   intro h
   refine Tells.shift ?_;simp only[r30_Same.j2]
   exact Tells.pos trivial (Tells.now' (bad h))
  by_cases e0:x[i].f0=y[i].f0
  ·refine Tells.pos e0 (Tells.bind (SameInts_tells _ _ hb.1) ?_)
   by_cases e1:x[i].f1=y[i].f1
   ·refine Tells.pos (dT e1) (Tells.bind (SameRows_tells _ _ hb.2.1 hb.2.2) (Tells.shift ?_));simp only[r30_Same.j2]
    by_cases e2:x[i].f2=y[i].f2
    ·rw[dT e2]
     refine Tells.neg (by simp) ?_;rw[w64 (n:=(i:Int)+1) (by omega) (by omega)]
     refine same_l0 n1 n2 x y hxy hf m (i+1) (by omega) ?_;rw[List.take_succ_eq_append_getElem hx,List.take_succ_eq_append_getElem hy,ht,s74_ext e0 e1 e2]
    ·rw[dF e2]
     exact Tells.pos rfl (Tells.now' (bad (fun h=>e2 (by rw[h]))))
   ·exact Tells.neg (by rw[dF e1];decide) (fin (fun h=>e1 (by rw[h])))
  ·exact Tells.neg e0 (fin (fun h=>e0 (by rw[h])))
theorem Same_tells (n1 n2:Int) (x y:List S74) (hf:Fine x):Tells (fun k=>r30_Same.f k n1 x n2 y) (decide (n1=n2∧x=y)):=by
 unfold r30_Same.f
 by_cases h0:n1=n2
 ·refine Tells.pos h0 (Tells.shift ?_)
  simp only[r30_Same.j0]
  by_cases hl:x.length=y.length
  ·refine Tells.neg (by simp[hl]) ?_
   exact(same_l0 n1 n2 x y hl hf x.length 0 (by omega) rfl).eq (by simp[h0])
  refine Tells.pos (by simp;omega) (Tells.now' ?_)
  exact(dF (fun h=>hl (by rw[h.2]))).symm
 refine Tells.neg h0 (Tells.shift ?_)
 simp only[r30_Same.j0]
 refine Tells.pos trivial (Tells.now' ?_)
 exact(dF (fun h=>h0 h.1)).symm
theorem leastQ_len {n:Nat} {G:List Int→Prop} (hG:∀p,G p→Pm n p) (b x:Int):(leastQ n G b x).length≤n:=by
 unfold leastQ
 split
 ·rename_i h
  exact Nat.le_of_eq (hG _ (Classical.choose_spec h).1).1
 ·simp
theorem lvsF_len (n:Nat) (G:List Int→Prop) (b m:Nat):(lvsF n G b m).length≤m:=by
 unfold lvsF
 have:=List.length_filter_le (p:=fun l:S74=>decide (1<l.f1.length)) ((List.range' b m).map (fun(c:Nat)=>lvP n G (c:Int)))
 rw[List.length_map,List.length_range'] at this
 exact this
theorem chainP_mem {n:Nat} {G:List Int→Prop} {x:S74} (h:x∈chainP n G):∃c:Nat,c<n∧x=lvP n G (c:Int)∧1<x.f1.length:=by
 unfold chainP lvsF at h
 rw[List.mem_filter,List.mem_map] at h
 obtain⟨⟨c,hc,rfl⟩,h2⟩:=h
 rw[List.mem_range'] at hc
 obtain⟨i,hi,rfl⟩:=hc
 exact⟨_,by omega,rfl,by simpa using h2⟩
theorem chainP_small {n:Nat} {G:List Int→Prop} (hG:∀p,G p→Pm n p):(chainP n G).length≤n∧∀x∈chainP n G,x.f1.length≤n∧x.f2.length=x.f1.length∧∀r∈x.f2,r.length≤n:=by
 refine⟨lvsF_len n G 0 n,fun x hx=> ?_⟩
 obtain⟨c,hc,rfl,_⟩:=chainP_mem hx
 refine⟨orbF_len n G (c:Int) 0 n,by simp[lvP],fun r hr=> ?_⟩
 simp only[lvP,List.mem_map] at hr
 obtain⟨y,_,rfl⟩:=hr
 exact leastQ_len hG _ _
theorem few_l0 (n:Int) (l:List (List Int)) (hl:l.length≤1000):∀(m i:Nat) (x:Int),i+m=l.length→0≤x→x≤1000→(∀a:Nat,a<i→∀ha:a<l.length,l[a].length≤1000)→∃b,Tells (fun k=>r09_Few.l0 k x (i:Int) n l) b∧(b=true→∀r∈l,r.length≤1000)
 | 0, i,x,hi,h0,h1,ha=>by
  refine⟨true,Tells.shift ?_,fun _ r hr=> ?_⟩
  ·simp only[r09_Few.l0]
   exact Tells.neg (by omega) Tells.now
  ·obtain⟨a,h,rfl⟩:=List.getElem_of_mem hr
   exact ha a (by omega) h
 | m + 1,i,x,hi,h0,h1,ha=>by
  have hil:i<l.length:=by omega
  by_cases h:(l[i].length:Int)>x
  ·refine⟨false,Tells.shift ?_,fun h=>by cases h⟩;simp only[r09_Few.l0,rd1_at,at1_eq hil]
   exact Tells.pos (by omega) (Tells.pos (by omega) (Tells.pos h Tells.now))
  ·obtain⟨b,ht,hb⟩:=few_l0 n l hl m (i+1) (x-l[i].length) (by omega) (by omega) (by omega) (fun a h1 h2=>by
      by_cases e:a=i
      ·subst e;omega
      ·exact ha a (by omega) h2)
   refine⟨b,Tells.shift ?_,hb⟩;simp only[r09_Few.l0,rd1_at,at1_eq hil]
   refine Tells.pos (by omega) (Tells.pos (by omega) (Tells.neg h ?_));rw[w64 (n:=x-(l[i].length:Int)) (by omega) (by omega),w64 (n:=(i:Int)+1) (by omega) (by omega)]
   exact ht
theorem Few_tells (l:List (List Int)) (a:Int) (h0:0≤a) (h1:a≤1000):∃b,Tells (fun k=>r09_Few.f k 0 l a) b∧(b=true→l.length≤1000∧∀r∈l,r.length≤1000):=by
 by_cases h:(l.length:Int)>a
 ·refine⟨false,?_,fun h=>by cases h⟩
  unfold r09_Few.f
  refine Tells.neg (by omega) (Tells.shift ?_);simp only[r09_Few.j0]
  exact Tells.pos (dT h) Tells.now
 obtain⟨b,ht,hb⟩:=few_l0 0 l (by omega) l.length 0 (a-l.length) (by omega) (by omega) (by omega) (fun a h=>by omega)
 refine⟨b,?_,fun hb'=>⟨by omega,hb hb'⟩⟩
 unfold r09_Few.f
 refine Tells.neg (by omega) (Tells.shift ?_)
 simp only[r09_Few.j0]
 refine Tells.neg (by rw[dF h];decide) ?_
 rw[w64 (n:=a-(l.length:Int)) (by omega) (by omega)]
 exact ht
end Go.Proofs.Ytjjlhbgpdncpcaa.P.M
end
section
set_option linter.unusedVariables false
set_option linter.unusedSimpArgs false
namespace Go.Proofs.Ytjjlhbgpdncpcaa.P.M
open Go.RowKit Go.Proofs.YtjjlhbgpdncpcaaW.PrintWords Go.Proofs.YtjjlhbgpdncpcaaW.PrintLast Go.Proofs.YtjjlhbgpdncpcaaW.PrintMore
def ZN (l:List S74):List (List Int):=(l.map (fun x=>x.f2)).flatten
theorem gensOf_take (l:List S74) (i:Nat) (h:i<l.length):ZN (l.take (i+1))=ZN (l.take i)++l[i].f2:=by
 rw[List.take_succ_eq_append_getElem h]
 simp only[ZN,List.map_append,List.flatten_append,List.map_cons,List.map_nil,List.flatten_cons,List.flatten_nil,List.append_nil]
theorem mem_gensOf {l:List S74} {g:List Int} :g∈ZN l↔∃x∈l,g∈x.f2:=by
 simp only[ZN,List.mem_flatten,List.mem_map]
 constructor
 ·rintro ⟨_,⟨x,hx,rfl⟩,hg⟩;exact⟨x,hx,hg⟩
 ·rintro ⟨x,hx,hg⟩;exact⟨_,⟨x,hx,rfl⟩,hg⟩
theorem orbF_mem {n:Nat} {G:List Int→Prop} {b:Int} {y:Int} :y∈orbF n G b 0 n↔0≤y∧y<n∧∃q,LeastAt n G b y q:=by
 unfold orbF
 rw[List.mem_filter,List.mem_map]
 constructor
 ·rintro ⟨⟨x,hx,rfl⟩,h⟩
  rw[List.mem_range'] at hx;obtain⟨i,hi,rfl⟩:=hx
  exact⟨by omega,by omega,by simpa using h⟩
 ·rintro ⟨h0,h1,h⟩
  refine⟨⟨y.toNat,?_,by omega⟩,by simpa using h⟩;rw[List.mem_range']
  exact⟨y.toNat,by omega,by omega⟩
theorem orbF_nodup (n:Nat) (G:List Int→Prop) (b:Int):(orbF n G b 0 n).Nodup:=by
 unfold orbF
 refine List.Pairwise.filter _ ?_
 exact map_nodup List.nodup_range' (fun x _ y _ e=>by omega)
structure IsG (n:Nat) (G:List Int→Prop):Prop where
 n1:1≤n
 n64:n≤64
 ex:∃l:List (List Int),(∀p∈l,Pm n p)∧G=Gp n l
theorem IsG.pm {n:Nat} {G:List Int→Prop} (h:IsG n G) {p:List Int} (hp:G p):Pm n p:=by
 obtain⟨l,hl,rfl⟩:=h.ex;exact hp.pm hl
theorem IsG.one {n:Nat} {G:List Int→Prop} (h:IsG n G):G (idL n):=by
 obtain⟨l,hl,rfl⟩:=h.ex;exact .one
theorem IsG.mul {n:Nat} {G:List Int→Prop} (h:IsG n G) {p q:List Int} (hp:G p) (hq:G q):G (mulL p q):=by
 obtain⟨l,hl,rfl⟩:=h.ex;exact Cl.mul' hl hp hq
theorem IsG.inv {n:Nat} {G:List Int→Prop} (h:IsG n G) {p:List Int} (hp:G p):G (invL p):=by
 obtain⟨l,hl,rfl⟩:=h.ex;exact Cl.inv hl hp
theorem gens_pm {n:Nat} {G:List Int→Prop} (h:IsG n G):∀g∈ZN (chainP n G),G g:=by
 intro g hg
 obtain⟨x,hx,hgx⟩:=mem_gensOf.1 hg
 obtain⟨c,hc,rfl,_⟩:=chainP_mem hx
 simp only[lvP,List.mem_map] at hgx
 obtain⟨y,hy,rfl⟩:=hgx
 obtain⟨_,_,q,hq⟩:=orbF_mem.1 hy
 rw[leastQ_eq hq];exact hq.1
theorem IsG.of {n:Nat} (h1:1≤n) (h64:n≤64) {l:List (List Int)} (hl:∀p∈l,Pm n p):IsG n (Gp n l):=⟨h1,h64,l,hl,rfl⟩
theorem gensE_ok {n:Nat} (h1:1≤n) (h64:n≤64) {l:List (List Int)} (hl:∀p∈l,Pm n p):gensE (n:Int) l=0:=by
 unfold gensE
 rw[if_neg (by omega)]
 exact allL_zero.2 (fun p hp=>⟨checkL_zero.2 ⟨by rw[(hl p hp).1];exact hl p hp,by have:=(hl p hp).1;omega,by have:=(hl p hp).1;omega⟩,by rw[(hl p hp).1]⟩)
theorem buildL_ok {n:Nat} (h1:1≤n) (h64:n≤64) {l:List (List Int)} (hl:∀p∈l,Pm n p):ZV (n:Int) l=((n:Int),chainP n (Gp n l),0):=by
 unfold ZV
 rw[if_pos (gensE_ok h1 h64 hl)];rfl
noncomputable def ccL (n:Int) (l:List S74):Int:=if n<1∨64<n then 4 else if(ZV n (ZN l)).2.2=0∧n=(ZV n (ZN l)).1∧l=(ZV n (ZN l)).2.1 then 0 else 5
theorem ccL_zero {n:Int} {l:List S74} (h:ccL n l=0):∃(m:Nat) (G:List Int→Prop),n=m∧IsG m G∧l=chainP m G:=by
 unfold ccL at h
 split at h
 ·cases h
 ·split at h
  ·rename_i h2
   obtain⟨h3,h4,h5⟩:=h2
   have he:gensE n (ZN l)=0:=by
    apply Classical.byContradiction;intro hc;unfold ZV at h3;rw[if_neg hc] at h3
    exact hc h3
   obtain⟨m,rfl,h1,h64,hg⟩:=gensE_zero he
   refine⟨m,Gp m (ZN l),rfl,IsG.of h1 h64 hg,?_⟩;rw[buildL_ok h1 h64 hg] at h5
   exact h5
  ·cases h
theorem ccL_form {n:Int} {l:List S74} (h1:¬(n<1∨64<n)) (h:(n<l.length)∨∃x∈l,n<x.f1.length∨x.f2.length≠x.f1.length):ccL n l=5:=by
 have hne:ccL n l≠0:=by
  intro hz;obtain⟨m,G,rfl,hG,rfl⟩:=ccL_zero hz;have hs:=chainP_small (n:=m) (G:=G) (fun p hp=>hG.pm hp)
  rcases h with h|⟨x,hx,h⟩
  ·have:=hs.1;omega
  ·have:=hs.2 x hx
   rcases h with h|h
   ·omega
   ·exact h this.2.1
 unfold ccL at hne⊢
 rw[if_neg h1] at hne⊢
 split
 ·rename_i h2
  rw[if_pos h2] at hne;exact absurd rfl hne
 ·rfl
def SmallC (l:List S74):Prop:=l.length≤70∧∀x∈l,x.f1.length≤100∧x.f2.length≤1000∧∀r∈x.f2,r.length≤1000
theorem SmallC.fine {l:List S74} (h:SmallC l):Fine l:=⟨by have:=h.1;unfold Bg;omega,fun x hx=>by
 have:=h.2 x hx
 exact⟨by unfold Bg;omega,by unfold Bg;omega,fun r hr=>by have:=this.2.2 r hr;unfold Bg;omega⟩⟩
theorem SmallC.gens {l:List S74} (h:SmallC l):∀i:Nat,i≤l.length→(ZN (l.take i)).length≤1000*i
 |0,_=>by simp[ZN]
 | i+1,hi=>by
  rw[gensOf_take l i (by omega),List.length_append];have:=SmallC.gens h i (by omega);have:=(h.2 _ (List.getElem_mem (show i<l.length by omega))).2.1;omega
theorem Gens_loop (n:Int) {l:List S74} (h:SmallC l):∀(m i:Nat),i+m=l.length→Tells (fun k=>r30_Gens.l0 k (ZN (l.take i)) (i:Int) n l) (ZN l)
 | 0,i,hi=>by
  refine Tells.shift ?_;simp only[r30_Gens.l0]
  refine Tells.neg (by omega) (Tells.now' ?_);rw[List.take_of_length_le (by omega)]
 | m+1,i,hi=>by
  have hil:i<l.length:=by omega
  have h1:=h.gens i (by omega);have h2:=(h.2 _ (List.getElem_mem hil)).2.1;have h3:=h.1
  refine Tells.shift ?_;simp only[r30_Gens.l0,rd74_at hil]
  refine Tells.pos (by omega) (Tells.pos (by omega) (Tells.pos (by omega) ?_));rw[w64 (n:=(i:Int)+1) (by omega) (by omega),←gensOf_take l i hil]
  exact Gens_loop n h m (i+1) (by omega)
theorem Gens_tells (n:Int) {l:List S74} (h:SmallC l):Tells (fun k=>r30_Gens.f k n l) (ZN l):=by
 unfold r30_Gens.f
 exact Gens_loop n h l.length 0 (by omega)
theorem SmallC.total {l:List S74} (h:SmallC l):(ZN l).length≤70000:=by
 have:=h.gens l.length (Nat.le_refl _)
 rw[List.take_of_length_le (Nat.le_refl _)] at this
 have:=h.1
 omega
theorem RCheck_tells (n:Int) {l:List S74} (h:SmallC l) (hn:n≤6∨64<n):Tells (fun k=>r30_CheckChain.f k n l) (ccL n l):=by
 have bad:(n<1∨64<n)→Tells (fun k=>r30_CheckChain.j0 k true n l) (ccL n l):=by
  intro hb
  refine Tells.shift ?_;simp only[r30_CheckChain.j0]
  refine Tells.pos trivial (Tells.now' ?_);unfold ccL;rw[if_pos hb]
 unfold r30_CheckChain.f
 by_cases h1:n<1
 ·exact Tells.pos h1 (bad (.inl h1))
 refine Tells.neg h1 ?_
 by_cases h2:n>64
 ·rw[dT h2];exact bad (.inr h2)
 rw[dF h2]
 refine Tells.shift ?_
 simp only[r30_CheckChain.j0]
 have ht:=h.total
 refine Tells.neg (by simp) (Tells.bind (Gens_tells n h) (Tells.bind (RBuild_tells n _ hn (by omega)) ?_))
 have hcc:ccL n l=if(ZV n (ZN l)).2.2=0∧n=(ZV n (ZN l)).1∧l=(ZV n (ZN l)).2.1 then 0 else 5:=by
  unfold ccL;rw[if_neg (by omega)]
 rw[hcc]
 by_cases he:(ZV n (ZN l)).2.2=0
 ·refine Tells.pos he (Tells.bind (Same_tells _ _ _ _ h.fine) ?_)
  by_cases hs:n=(ZV n (ZN l)).1∧l=(ZV n (ZN l)).2.1
  ·refine Tells.pos (dT hs) (Tells.now' ?_);rw[if_pos ⟨he,hs⟩]
  refine Tells.neg (by rw[dF hs];decide) (Tells.now' ?_);rw[if_neg (fun k=>hs k.2)]
 refine Tells.neg he (Tells.now' ?_)
 rw[if_neg (fun k=>he k.1)]
theorem Equal_tells (x y:List Int) (hb:x.length≤9223372036854775807):Tells (fun k=>slEq.f k x y) (decide (x=y)):=by
 obtain⟨k,hk⟩:=Equal_is x y hb
 exact Tells.mono (fun k=>slEq.mono x y k) hk
theorem pcc_l1 (n:Int) (x y:List S74) (hxy:x.length=y.length) (hf:Fine x):∀(m i:Nat),i+m=x.length→x.take i=y.take i→Tells (fun k=>perm_CheckChain.l1 k x (x.length:Int) (i:Int) n y) (if x=y then 0 else 5)
 | 0,i,hi,ht=>by
  refine Tells.shift ?_;simp only[perm_CheckChain.l1]
  refine Tells.neg (by omega) (Tells.now' ?_);rw[List.take_of_length_le (by omega),List.take_of_length_le (by omega)] at ht;rw[if_pos ht]
 | m + 1, i,hi,ht=>by
  have hx:i<x.length:=by omega
  have hy:i<y.length:=by omega
  have hb:=hf.2 _ (List.getElem_mem hx);have hl:=hf.1;unfold Bg at hb hl;have bad:x[i]≠y[i]→(5:Int)=if x=y then 0 else 5:=fun h=>by rw[if_neg (fun e=>h (by simp only[e]))]
  refine Tells.shift ?_;simp only[perm_CheckChain.l1,rd74_at hx,rd74_at hy]
  refine Tells.pos (by omega) (Tells.pos (by omega) (Tells.pos (by omega) (Tells.pos (by omega) ?_)))
  by_cases e0:x[i].f0=y[i].f0
  ·refine Tells.pos e0 (Tells.bind (Equal_tells _ _ (by omega)) ?_)
   by_cases e1:x[i].f1=y[i].f1
   ·refine Tells.pos (dT e1) (Tells.bind (a:=decide (x[i].f2=y[i].f2)) Tells.now ?_)
    by_cases e2:x[i].f2=y[i].f2
    ·refine Tells.pos (dT e2) ?_;rw[w64 (n:=(i:Int)+1) (by omega) (by omega)]
     refine pcc_l1 n x y hxy hf m (i+1) (by omega) ?_;rw[List.take_succ_eq_append_getElem hx,List.take_succ_eq_append_getElem hy,ht,s74_ext e0 e1 e2]
    ·exact Tells.neg (by rw[dF e2];decide) (Tells.now' (bad (fun h=>e2 (by rw[h]))))
   ·exact Tells.neg (by rw[dF e1];decide) (Tells.now' (bad (fun h=>e1 (by rw[h]))))
  ·exact Tells.neg e0 (Tells.now' (bad (fun h=>e0 (by rw[h]))))
theorem pcc_l0 (n:Int) {l:List S74} (h:SmallC l) (h1:1≤n) (h64:n≤64):∀(m i:Nat),i+m=l.length→Tells (fun k=>perm_CheckChain.l0 k (ZN (l.take i)) l (l.length:Int) (i:Int) n l) (ccL n l)
 | 0, i,hi=>by
  refine Tells.shift ?_;simp only[perm_CheckChain.l0];rw[List.take_of_length_le (by omega)]
  refine Tells.neg (by omega) (Tells.bind (PBuild_tells n (ZN l)) ?_)
  have hcc:ccL n l=if(ZV n (ZN l)).2.2=0∧n=(ZV n (ZN l)).1∧l=(ZV n (ZN l)).2.1 then 0 else 5:=by
   unfold ccL;rw[if_neg (by omega)]
  rw[hcc]
  have bad:¬((ZV n (ZN l)).2.2=0∧n=(ZV n (ZN l)).1∧l=(ZV n (ZN l)).2.1)→Tells (fun k=>perm_CheckChain.j1 k true n l (ZV n (ZN l)).1 (ZV n (ZN l)).2.1) (if(ZV n (ZN l)).2.2=0∧n=(ZV n (ZN l)).1∧l=(ZV n (ZN l)).2.1 then 0 else 5):=by
   intro hb
   refine Tells.shift ?_;simp only[perm_CheckChain.j1]
   refine Tells.pos trivial (Tells.now' ?_);rw[if_neg hb]
  by_cases he:(ZV n (ZN l)).2.2=0
  ·refine Tells.pos he ?_
   have hdeg:(ZV n (ZN l)).1=n:=by
    unfold ZV at he⊢
    split
    ·rfl
    ·rename_i hc;rw[if_neg hc] at he;exact absurd he hc
   by_cases hl:(ZV n (ZN l)).2.1.length=l.length
   ·rw[show(((ZV n (ZN l)).2.1.length:Int) !=(l.length:Int))=false by simp[hl]]
    refine Tells.shift ?_;simp only[perm_CheckChain.j1]
    refine Tells.neg (by simp) ?_
    refine(pcc_l1 _ l _ hl.symm h.fine l.length 0 (by omega) rfl).eq ?_
    by_cases hs:l=(ZV n (ZN l)).2.1
    ·rw[if_pos hs,if_pos ⟨he,hdeg.symm,hs⟩]
    ·rw[if_neg hs,if_neg (fun k=>hs k.2.2)]
   ·rw[show(((ZV n (ZN l)).2.1.length:Int) !=(l.length:Int))=true by simp;omega]
    exact bad (fun k=>hl (congrArg List.length k.2.2).symm)
  ·exact Tells.neg he (bad (fun k=>he k.1))
 | m + 1,i,hi=>by
  have hil:i<l.length:=by omega
  have hg1:=h.gens i (by omega);have hg2:=(h.2 _ (List.getElem_mem hil)).2.1;have hg3:=h.1
  refine Tells.shift ?_;simp only[perm_CheckChain.l0,rd74_at hil]
  refine Tells.pos (by omega) (Tells.pos (by omega) (Tells.pos (by omega) ?_))
  by_cases e1:(l[i].f1.length:Int)>n
  ·exact Tells.pos e1 (Tells.now' (ccL_form (by omega) (.inr ⟨_,List.getElem_mem hil,.inl e1⟩)).symm)
  ·refine Tells.neg e1 ?_
   by_cases e2:(l[i].f2.length:Int)=(l[i].f1.length:Int)
   ·refine Tells.pos e2 (Tells.pos (by omega) ?_);rw[w64 (n:=(i:Int)+1) (by omega) (by omega),←gensOf_take l i hil]
    exact pcc_l0 n h h1 h64 m (i+1) (by omega)
   ·exact Tells.neg e2 (Tells.now' (ccL_form (by omega) (.inr ⟨_,List.getElem_mem hil,.inr (by omega)⟩)).symm)
theorem PCheck_tells (n:Int) {l:List S74} (h:SmallC l):Tells (fun k=>perm_CheckChain.f k n l) (ccL n l):=by
 unfold perm_CheckChain.f
 by_cases hn:n<1∨64<n
 ·rw[degree_bad n hn]
  refine Tells.bind (a:=4) Tells.now (Tells.neg (by decide) (Tells.now' ?_));unfold ccL;rw[if_pos hn]
 rw[degree_ok n (by omega) (by omega)]
 refine Tells.bind (a:=0) Tells.now (Tells.pos rfl ?_)
 by_cases hl:(l.length:Int)>n
 ·exact Tells.pos hl (Tells.now' (ccL_form hn (.inl hl)).symm)
 exact Tells.neg hl (pcc_l0 n h (by omega) (by omega) l.length 0 (by omega))
theorem rfew_l0 (n:Int) (l:List S74) (h70:l.length≤70):∀(m i:Nat) (x:Int),i+m=l.length→0≤x→x≤1000*i→(∀a:Nat,a<i→∀ha:a<l.length,l[a].f1.length≤100∧l[a].f2.length≤1000∧∀r∈l[a].f2,r.length≤1000)→∃b,Tells (fun k=>r30_Few.l0 k x (i:Int) n l) b∧(b=true→SmallC l)
 | 0, i,x,hi,h0,h1,ha=>by
  refine⟨decide (x≤200),Tells.shift ?_,fun _=>⟨h70,fun y hy=> ?_⟩⟩
  ·simp only[r30_Few.l0]
   exact Tells.neg (by omega) Tells.now
  ·obtain⟨a,h,rfl⟩:=List.getElem_of_mem hy
   exact ha a (by omega) h
 | m + 1, i,x,hi,h0,h1,ha=>by
  have hil:i<l.length:=by omega
  by_cases e1:(l[i].f1.length:Int)>100
  ·refine⟨false,Tells.shift ?_,fun h=>by cases h⟩;simp only[r30_Few.l0,rd74_at hil]
   exact Tells.pos (by omega) (Tells.pos (by omega) (Tells.pos e1 Tells.now))
  ·obtain⟨b,htb,hb⟩:=Few_tells l[i].f2 1000 (by omega) (by omega)
   cases b with
   | false=>
    refine⟨false,Tells.shift ?_,fun h=>by cases h⟩;simp only[r30_Few.l0,rd74_at hil]
    exact Tells.pos (by omega) (Tells.pos (by omega) (Tells.neg e1 (Tells.bind htb (Tells.neg (by decide) Tells.now))))
   | true=>
    have hb':=hb rfl
    obtain⟨c,htc,hc⟩:=rfew_l0 n l h70 m (i+1) (x+l[i].f2.length) (by omega) (by omega) (by omega) (fun a h1 h2=>by
     by_cases e:a=i
     ·subst e;exact⟨by omega,hb'⟩
     ·exact ha a (by omega) h2)
    refine⟨c,Tells.shift ?_,hc⟩;simp only[r30_Few.l0,rd74_at hil]
    refine Tells.pos (by omega) (Tells.pos (by omega) (Tells.neg e1 (Tells.bind htb (Tells.pos rfl ?_))));rw[w64 (n:=x+(l[i].f2.length:Int)) (by omega) (by omega),w64 (n:=(i:Int)+1) (by omega) (by omega)]
    exact htc
theorem RFew_tells (n:Int) (l:List S74):∃b,Tells (fun k=>r30_Few.f k n l 6) b∧(b=true→SmallC l∧(n≤6∨64<n)):=by
 have bad:Tells (fun k=>r30_Few.j0 k true n l) false:=by
  refine Tells.shift ?_;simp only[r30_Few.j0]
  exact Tells.pos trivial Tells.now
 have main:(n≤6∨64<n)→∃b,Tells (fun k=>r30_Few.j0 k (decide ((l.length:Int)>70)) n l) b∧(b=true→SmallC l∧(n≤6∨64<n)):=by
  intro hn
  by_cases h:(l.length:Int)>70
  ·rw[dT h];exact⟨false,bad,fun h=>by cases h⟩
  ·rw[dF h];obtain⟨b,ht,hb⟩:=rfew_l0 n l (by omega) l.length 0 0 (by omega) (by omega) (by omega) (fun a h=>by omega)
   refine⟨b,Tells.shift ?_,fun h=>⟨hb h,hn⟩⟩;simp only[r30_Few.j0]
   exact Tells.neg (by simp) ht
 by_cases h6:n>6
 ·by_cases h64:n≤64
  ·refine⟨false,?_,fun h=>by cases h⟩;unfold r30_Few.f
   exact Tells.pos h6 (Tells.pos h64 bad)
  obtain⟨b,ht,hb⟩:=main (by omega)
  refine⟨b,?_,hb⟩;unfold r30_Few.f
  exact Tells.pos h6 (Tells.neg h64 ht)
 obtain⟨b,ht,hb⟩:=main (by omega)
 refine⟨b,?_,hb⟩
 unfold r30_Few.f
 exact Tells.neg h6 ht
end Go.Proofs.Ytjjlhbgpdncpcaa.P.M
end
section
set_option linter.unusedVariables false
set_option linter.unusedSimpArgs false
namespace Go.Proofs.Ytjjlhbgpdncpcaa.P.M
open Go.RowKit Go.Proofs.YtjjlhbgpdncpcaaW.PrintWords Go.Proofs.YtjjlhbgpdncpcaaW.PrintLast Go.Proofs.YtjjlhbgpdncpcaaW.PrintMore
def Yf:List S74→Int→List Int→List Int×Int
 | [],i,p=>(p,i)
 |x::xs,i,p=>if ap p x.f0∈x.f1 then Yf xs (i+1) (mulL p (invL (x.f2.getD (x.f1.idxOf (ap p x.f0)) []))) else(p,i)
structure GoodL (n:Nat) (x:S74):Prop where
 p0:0≤x.f0
 p1:x.f0<n
 nd:x.f1.Nodup
 len:x.f2.length=x.f1.length
 short:x.f1.length≤64
 pm:∀r∈x.f2,Pm n r
theorem GoodL.of {n:Nat} {G:List Int→Prop} (h:IsG n G) {x:S74} (hx:x∈chainP n G):GoodL n x:=by
 have hs:=(chainP_small (n:=n) (G:=G) (fun p hp=>h.pm hp)).2 x hx
 have h64:=h.n64
 have hg:=gens_pm h
 have hin:∀r∈x.f2,Pm n r:=fun r hr=>h.pm (hg r (mem_gensOf.2 ⟨x,hx,hr⟩))
 obtain⟨c,hc,rfl,_⟩:=chainP_mem hx
 exact⟨by show(0:Int)≤(c:Int);omega,by show(c:Int)<n;omega,orbF_nodup n G (c:Int),hs.2.1,by omega,hin⟩
theorem getD_mem' {l:List (List Int)} {i:Nat} (h:i<l.length):l.getD i []∈l:=by
 rw[List.getD_eq_getElem?_getD,List.getElem?_eq_getElem h];exact List.getElem_mem h
theorem index_loop (l:List Int) (v:Int) (hl:l.length≤64):∀(m i:Nat),i+m=l.length→(∀a:Nat,a<i→∀h:a<l.length,l[a]≠v)→Tells (fun k=>slIx.l0 k l v (l.length:Int) (i:Int)) (if v∈l then((l.idxOf v:Nat):Int) else-1)
 | 0,i,hi,ha=>by
  refine Tells.shift ?_;simp only[slIx.l0]
  refine Tells.neg (by omega) (Tells.now' ?_);rw[if_neg];intro hv;obtain⟨a,h,e⟩:=List.getElem_of_mem hv
  exact ha a (by omega) h e
 | m + 1,i,hi,ha=>by
  have hil:i<l.length:=by omega
  have e0:ap l (i:Int)=l[i]:=by rw[ap_nat,List.getD_eq_getElem?_getD,List.getElem?_eq_getElem hil];rfl
  refine Tells.shift ?_;simp only[slIx.l0,Yg,e0]
  refine Tells.pos (by omega) (Tells.pos (by omega) (Tells.pos (by omega) ?_))
  by_cases e:v=l[i]
  ·refine Tells.pos e (Tells.now' ?_);have hv:v∈l:=by rw[e];exact List.getElem_mem hil
   rw[if_pos hv];have hidx:=List.idxOf_lt_length_of_mem hv;have h2:l[l.idxOf v]=v:=List.getElem_idxOf hidx
   have:l.idxOf v=i:=by
    rcases Nat.lt_trichotomy (l.idxOf v) i with k|k|k
    ·exact absurd h2 (ha _ k hidx)
    ·exact k
    ·have:=List.not_of_lt_findIdx (p:=(· ==v)) (xs:=l) (i:=i) k;simp[e] at this
   rw[this]
  ·refine Tells.neg e ?_;rw[w64 (n:=(i:Int)+1) (by omega) (by omega)]
   refine index_loop l v hl m (i+1) (by omega) (fun a h1 h2=> ?_)
   by_cases e2:a=i
   ·subst e2;exact fun k=>e k.symm
   ·exact ha a (by omega) h2
theorem Index_tells (l:List Int) (v:Int) (hl:l.length≤64):Tells (fun k=>slIx.f k l v) (if v∈l then((l.idxOf v:Nat):Int) else-1):=by
 unfold slIx.f
 exact index_loop l v hl l.length 0 (by omega) (fun a h=>by omega)
theorem rep_at {n:Nat} {x:S74} (h:GoodL n x) {v:Int} (hv:v∈x.f1):x.f1.idxOf v<x.f2.length∧Pm n (x.f2.getD (x.f1.idxOf v) []):=by
 have h1:x.f1.idxOf v<x.f2.length:=by rw[h.len];exact List.idxOf_lt_length_of_mem hv
 exact⟨h1,h.pm _ (getD_mem' h1)⟩
theorem PSift_loop {n:Nat} (hn:n≤64) (d:Int) {l:List S74} (hl:l.length≤64) (h:∀x∈l,GoodL n x):∀(m i:Nat) (p:List Int),i+m=l.length→Pm n p→Tells (fun k=>perm_Sift.l0 k p l (l.length:Int) (i:Int) d l) ((Yf (l.drop i) (i:Int) p).1,(Yf (l.drop i) (i:Int) p).2,0)
 | 0,i,p,hi,hp=>by
  refine Tells.shift ?_;simp only[perm_Sift.l0]
  refine Tells.neg (by omega) (Tells.now' ?_);rw[List.drop_of_length_le (by omega)];simp only[Yf];rw[show(l.length:Int)=(i:Int) by omega]
 | m +1,i,p,hi,hp=>by
  have hil:i<l.length:=by omega
  have hg:=h _ (List.getElem_mem hil);have hpl:=hp.1;have h0:=hg.p0;have h1:=hg.p1
  refine Tells.shift ?_;simp only[perm_Sift.l0,rd74_at hil,Yg];rw[List.drop_eq_getElem_cons hil];simp only[Yf]
  refine Tells.pos (by omega) (Tells.pos (by omega) (Tells.pos (by omega) (Tells.pos h0 (Tells.pos (by omega) (Tells.bind (Index_tells _ _ hg.short) ?_)))))
  by_cases hv:ap p l[i].f0∈l[i].f1
  ·have hr:=rep_at hg hv;rw[if_pos hv,if_pos hv,rd1_at];have e1:at1 l[i].f2 (l[i].f1.idxOf (ap p l[i].f0))=l[i].f2.getD (l[i].f1.idxOf (ap p l[i].f0)) []:=rfl;rw[e1];have hil2:=hr.2.inv.1
   refine Tells.neg (by omega) (Tells.pos (by omega) (Tells.pos (by omega) (Tells.bind (inverse_tells hr.2 (by omega)) (Tells.bind (then_tells _ _ (by omega) (by rw[hil2];exact hp.rg)) ?_))));rw[w64 (n:=(i:Int)+1) (by omega) (by omega)]
   exact PSift_loop hn d hl h m (i+1) _ (by omega) (hp.mul hr.2.inv)
  ·rw[if_neg hv,if_neg hv]
   exact Tells.pos (by omega) Tells.now
theorem idxOf_nd {l:List Int} (hnd:l.Nodup) {i:Nat} (hi:i<l.length):l.idxOf l[i]=i:=by
 have h1:=List.idxOf_lt_length_of_mem (List.getElem_mem hi)
 have h2:l[l.idxOf l[i]]=l[i]:=List.getElem_idxOf h1
 exact(List.getElem_inj hnd).1 h2
theorem rsift_l1 {n:Nat} (hn:n≤64) (d:Int) (l:List S74) (i:Nat) {x:S74} (h:GoodL n x) {p:List Int} (hp:Pm n p) (u:List Int×Int)
    (cont:ap p x.f0∈x.f1→Tells (fun k=>r30_Sift.l0 k (mulL p (invL (x.f2.getD (x.f1.idxOf (ap p x.f0)) []))) (wrap64 ((i:Int)+1)) d l) u) (no:ap p x.f0∉x.f1→u=(p,(i:Int))):
    ∀(m j:Nat),j+m=x.f1.length→Tells (fun k=>r30_Sift.l1 k p (i:Int) (if ap p x.f0∈x.f1.take j then((x.f1.idxOf (ap p x.f0):Nat):Int) else-1) (j:Int) d l x.f0 x.f1 x.f2) u
 | 0, j,hj=>by
  have hpl:=hp.1
  refine Tells.shift ?_;simp only[r30_Sift.l1];rw[List.take_of_length_le (by omega)]
  refine Tells.neg (by omega) ?_
  by_cases hv:ap p x.f0∈x.f1
  ·have hr:=rep_at h hv;rw[if_pos hv,rd1_at];have e1:at1 x.f2 (x.f1.idxOf (ap p x.f0))=x.f2.getD (x.f1.idxOf (ap p x.f0)) []:=rfl;rw[e1];have hil2:=hr.2.inv.1
   exact Tells.neg (by omega) (Tells.pos (by omega) (Tells.pos (by omega) (Tells.bind (Back_tells hr.2 (by omega)) (Tells.bind (Then_tells _ _ (by omega) (by rw[hil2];exact hp.rg)) (cont hv)))))
  ·rw[if_neg hv]
   exact Tells.pos (by omega) (Tells.now' (no hv).symm)
 | m + 1, j,hj=>by
  have hpl:=hp.1;have h0:=h.p0;have h1:=h.p1;have hs:=h.short;have hjl:j<x.f1.length:=by omega
  have e0:ap x.f1 (j:Int)=x.f1[j]:=by rw[ap_nat,List.getD_eq_getElem?_getD,List.getElem?_eq_getElem hjl];rfl
  refine Tells.shift ?_;simp only[r30_Sift.l1,Yg,e0]
  refine Tells.pos (by omega) (Tells.pos (by omega) (Tells.pos h0 (Tells.pos (by omega) ?_)));have ih:=rsift_l1 hn d l i h hp u cont no m (j+1) (by omega);have hw:wrap64 ((j:Int)+1)=((j+1:Nat):Int):=w64 (by omega) (by omega)
  by_cases e:x.f1[j]=ap p x.f0
  ·refine Tells.pos e ?_;have hm:ap p x.f0∈x.f1.take (j+1):=by rw[List.take_succ_eq_append_getElem hjl,e];simp
   have hi2:x.f1.idxOf (ap p x.f0)=j:=by rw[←e];exact idxOf_nd h.nd hjl
   rw[if_pos hm,hi2] at ih;rw[hw]
   exact ih
  ·refine Tells.neg e ?_;rw[hw]
   have hm:ap p x.f0∈x.f1.take (j+1)↔ap p x.f0∈x.f1.take j:=by
    rw[List.take_succ_eq_append_getElem hjl,List.mem_append,List.mem_singleton]
    constructor
    ·rintro (k|k)
     ·exact k
     ·exact absurd k.symm e
    ·exact fun k=> .inl k
   by_cases hm2:ap p x.f0∈x.f1.take j
   ·rw[if_pos hm2];rw[if_pos (hm.2 hm2)] at ih;exact ih
   ·rw[if_neg hm2];rw[if_neg (fun k=>hm2 (hm.1 k))] at ih;exact ih
theorem RSift_loop {n:Nat} (hn:n≤64) (d:Int) {l:List S74} (hl:l.length≤64) (h:∀x∈l,GoodL n x):∀(m i:Nat) (p:List Int),i+m=l.length→Pm n p→Tells (fun k=>r30_Sift.l0 k p (i:Int) d l) (Yf (l.drop i) (i:Int) p)
 | 0,i,p,hi,hp=>by
  refine Tells.shift ?_;simp only[r30_Sift.l0]
  refine Tells.neg (by omega) (Tells.now' ?_);rw[List.drop_of_length_le (by omega)];simp only[Yf];rw[show(l.length:Int)=(i:Int) by omega]
 | m +1,i,p,hi,hp=>by
  have hil:i<l.length:=by omega
  have hg:=h _ (List.getElem_mem hil)
  refine Tells.shift ?_;simp only[r30_Sift.l0,rd74_at hil];rw[List.drop_eq_getElem_cons hil];simp only[Yf]
  refine Tells.pos (by omega) (Tells.pos (by omega) ?_)
  have:=rsift_l1 hn d l i hg hp (if ap p l[i].f0∈l[i].f1 then Yf (l.drop (i+1)) ((i:Int)+1) (mulL p (invL (l[i].f2.getD (l[i].f1.idxOf (ap p l[i].f0)) []))) else(p,(i:Int))) (fun hv=>by
   rw[if_pos hv,w64 (n:=(i:Int)+1) (by omega) (by omega)]
   exact RSift_loop hn d hl h m (i+1) _ (by omega) (hp.mul (rep_at hg hv).2.inv)) (fun hv=>by rw[if_neg hv]) l[i].f1.length 0 (by omega)
  rw[List.take_zero,if_neg (by simp)] at this
  exact this
theorem sift_pm {n:Nat} :∀ {l:List S74} (h:∀x∈l,GoodL n x) (i:Int) {p:List Int},Pm n p→Pm n (Yf l i p).1
 | [],_,i,p,hp=>hp
 | x ::xs,h,i,p,hp=>by
  simp only[Yf]
  split
  ·rename_i hv
   exact sift_pm (fun y hy=>h y (by simp[hy])) _ (hp.mul (rep_at (h x (by simp)) hv).2.inv)
  ·exact hp
noncomputable def Z5 (n:Int) (l:List S74) (p:List Int):Int:=if ccL n l=0 then(if ZR p=0 then(if(p.length:Int)=n then 0 else 10) else ZR p) else ccL n l
noncomputable def siftR (n:Int) (l:List S74) (p:List Int):List Int×Int×Int:=if Z5 n l p=0 then((Yf l 0 p).1,(Yf l 0 p).2,0) else([],0,Z5 n l p)
theorem siftE_zero {n:Int} {l:List S74} {p:List Int} (h:Z5 n l p=0):∃(m:Nat) (G:List Int→Prop),n=m∧IsG m G∧l=chainP m G∧Pm m p:=by
 unfold Z5 at h
 split at h
 ·rename_i h1
  split at h
  ·rename_i h2
   split at h
   ·rename_i h3
    obtain⟨m,G,rfl,hG,rfl⟩:=ccL_zero h1;have:=checkL_zero.1 h2;have e:p.length=m:=by omega
    exact⟨m,G,rfl,hG,rfl,by rw[←e];exact this.1⟩
   ·cases h
  ·rename_i h2;exact absurd h h2
 ·rename_i h1;exact absurd h h1
theorem PSift_tells (n:Int) {l:List S74} (hs:SmallC l) (p:List Int):Tells (fun k=>perm_Sift.f k n l p) (siftR n l p):=by
 have j2:∀e:Int,e=Z5 n l p→Tells (fun k=>perm_Sift.j2 k p e n l) (siftR n l p):=by
  intro e he
  refine Tells.shift ?_;simp only[perm_Sift.j2];unfold siftR
  by_cases hz:e=0
  ·rw [if_pos (by rw[←he];exact hz)];obtain⟨m,G,rfl,hG,hl,hp⟩:=siftE_zero (he.symm.trans hz);have hpl:=hp.1;have h64:=hG.n64;have hc:=(chainP_small (n:=m) (G:=G) (fun p hp=>hG.pm hp)).1;have hcl:slCl.f p=some p:=by unfold slCl.f;rw[if_pos (by omega)]
   refine Tells.pos hz (Tells.bind (a:=p) ⟨0,fun _ _=>hcl⟩ ?_)
   ·have:=PSift_loop h64 (m:Int) (l:=l) (by rw[hl];omega) (fun x hx=>GoodL.of hG (by rw[←hl];exact hx)) l.length 0 p (by omega) hp
    exact this
  ·rw[if_neg (by rw[←he];exact hz),←he]
   exact Tells.neg hz Tells.now
 unfold perm_Sift.f
 refine Tells.bind (PCheck_tells n hs) ?_
 by_cases hc:ccL n l=0
 ·refine Tells.pos hc (Tells.bind (a:=ZR p) Tells.now (Tells.shift ?_))
  simp only[perm_Sift.j0]
  by_cases h2:ZR p=0
  ·refine Tells.pos h2 (Tells.shift ?_);simp only[perm_Sift.j1]
   by_cases h3:(p.length:Int)=n
   ·refine Tells.neg (by simp[h3]) (j2 _ ?_);unfold Z5;rw[if_pos hc,if_pos h2,if_pos h3,h2]
   refine Tells.pos (by simpa using h3) (j2 _ ?_);unfold Z5;rw[if_pos hc,if_pos h2,if_neg h3]
  refine Tells.neg h2 (Tells.shift ?_);simp only[perm_Sift.j1]
  refine Tells.neg (by simp) (j2 _ ?_);unfold Z5;rw[if_pos hc,if_neg h2]
 refine Tells.neg hc (Tells.shift ?_)
 simp only[perm_Sift.j0]
 refine Tells.neg hc (Tells.shift ?_)
 simp only[perm_Sift.j1]
 refine Tells.neg (by simp) (j2 _ ?_)
 unfold Z5;rw[if_neg hc]
def hasS (l:List S74) (p:List Int):Bool:=decide ((Yf l 0 p).2=(l.length:Int))&&decide ((Yf l 0 p).1=idL p.length)
theorem PHas_tells (n:Int) {l:List S74} (hs:SmallC l) (p:List Int):Tells (fun k=>perm_Has.f k n l p) (if Z5 n l p=0 then(hasS l p,0) else(false,Z5 n l p)):=by
 unfold perm_Has.f
 refine Tells.bind (PSift_tells n hs p) ?_
 unfold siftR
 by_cases hz:Z5 n l p=0
 ·rw [if_pos hz,if_pos hz]
  obtain⟨m,G,rfl,hG,hl,hp⟩:=siftE_zero hz;have h64:=hG.n64;have hq:=sift_pm (n:=m) (l:=l) (fun x hx=>GoodL.of hG (by rw[←hl];exact hx)) 0 hp;have hql:=hq.1;have hpl:=hp.1
  refine Tells.pos rfl ?_;unfold hasS
  by_cases hd:(Yf l 0 p).2=(l.length:Int)
  ·refine Tells.pos hd ?_;rw[hql,hpl]
   refine Tells.bind (identity_tells m (by omega)) (Tells.bind (Equal_tells _ _ (by show(Yf l 0 p).1.length≤_;omega)) (Tells.now' ?_));simp[hd]
  refine Tells.neg hd (Tells.now' ?_);simp[hd]
 rw[if_neg hz,if_neg hz]
 exact Tells.neg hz Tells.now
end Go.Proofs.Ytjjlhbgpdncpcaa.P.M
end
section
set_option linter.unusedVariables false
namespace Go.Proofs.Ytjjlhbgpdncpcaa.P.M
open Go.RowKit Go.Proofs.YtjjlhbgpdncpcaaW.PrintWords Go.Proofs.YtjjlhbgpdncpcaaW.PrintLast Go.Proofs.YtjjlhbgpdncpcaaW.PrintMore
theorem awt:Tells (fun _:Nat=>l30_awake.f) true:=Tells.now
theorem sifts_true (n:Int) (l:List S74) (p:List Int) (w:∀x∈p,(Lit.int .i64 x).wf=true):∃k,l30_PermSifts.f k n l p=some true:=by
 apply Tells.some
 unfold l30_PermSifts.f
 refine Tells.bind awt (Tells.pos rfl ?_)
 have big:Tells (fun k=>l30_PermSifts.j0 k p true n l) true:=by
  refine Tells.shift ?_;simp only[l30_PermSifts.j0]
  exact Tells.pos trivial (Tells.bind awt Tells.now)
 obtain⟨b,hb,hbs⟩:=RFew_tells n l
 refine Tells.bind hb ?_
 cases b with
 |false=>exact Tells.neg (by decide) big
 | true =>
  obtain⟨hs,hn⟩:=hbs rfl
  refine Tells.pos rfl ?_
  by_cases hl:(p.length:Int)>100
  ·rw[dT hl];exact big
  rw[dF hl]
  have j4 :Tells (fun k=>l30_PermSifts.j4 k p (siftR n l p).1 (siftR n l p).2.1 (siftR n l p).2.2 (if Z5 n l p=0 then(hasS l p,(0:Int)) else(false,Z5 n l p)).1 false n l) true:=by
   refine Tells.shift ?_;simp only[l30_PermSifts.j4]
   refine Tells.neg (by simp) ?_;unfold siftR
   by_cases hz:Z5 n l p=0
   ·rw [if_pos hz,if_pos hz];obtain⟨m,G,rfl,hG,hlc,hp⟩:=siftE_zero hz;have h64:=hG.n64;have hpl:=hp.1;have hc:=(chainP_small (n:=m) (G:=G) (fun p hp=>hG.pm hp)).1;have good:∀x∈l,GoodL m x:=fun x hx=>GoodL.of hG (by rw[←hlc];exact hx)
    have hq:=sift_pm (l:=l) good 0 hp;have hql:=hq.1;have hrs:Tells (fun k=>r30_Sift.f k (m:Int) l p) (Yf l 0 p):=RSift_loop h64 (m:Int) (l:=l) (by rw[hlc];omega) good l.length 0 p (by omega) hp
    have hrh:Tells (fun k=>r30_Has.f k (m:Int) l p) (hasS l p):=by
     unfold r30_Has.f
     refine Tells.bind hrs ?_;unfold hasS
     by_cases hd:(Yf l 0 p).2=(l.length:Int)
     ·refine Tells.pos hd ?_;rw[hpl]
      refine Tells.bind (Unit_tells m (by omega)) (Tells.bind (SameInts_tells _ _ (by omega)) (Tells.now' ?_));simp[hd]
     ·exact Tells.neg hd (Tells.now' (by simp[hd]))
    refine Tells.pos rfl (Tells.bind hrs (Tells.bind (SameInts_tells _ _ (by show(Yf l 0 p).1.length≤_;omega)) (Tells.pos (by simp) (Tells.pos rfl (Tells.bind hrh (Tells.now' (by simp)))))))
   ·rw[if_neg hz,if_neg hz]
    exact Tells.neg hz (Tells.pos rfl (Tells.pos rfl (Tells.now' rfl)))
  have j3:Tells (fun k=>l30_PermSifts.j3 k p (Z5 n l p) n l) true:=by
   refine Tells.shift ?_;simp only[l30_PermSifts.j3]
   refine Tells.bind (PSift_tells n hs p) (Tells.bind (PHas_tells n hs p) ?_)
   have e1:(siftR n l p).2.2=Z5 n l p:=by
    unfold siftR;split
    ·rename_i h;rw[h]
    ·rfl
   have e2:((if Z5 n l p=0 then(hasS l p,(0:Int)) else(false,Z5 n l p)).2 !=Z5 n l p)=false:=by
    split
    ·rename_i h;simp[h]
    ·simp
   rw[e2]
   exact Tells.pos e1 j4
  refine Tells.shift ?_;simp only[l30_PermSifts.j0]
  refine Tells.neg (by simp) (Tells.bind (RCheck_tells n hs hn) ?_)
  by_cases hc:ccL n l=0
  ·refine Tells.pos hc (Tells.bind (Check_tells p) (Tells.shift ?_));simp only[l30_PermSifts.j1]
   by_cases h2:ZR p=0
   ·refine Tells.pos h2 (Tells.shift ?_);simp only[l30_PermSifts.j2]
    by_cases h3:(p.length:Int)=n
    ·refine Tells.neg (by simp[h3]) ?_;have:Z5 n l p=ZR p:=by unfold Z5;rw[if_pos hc,if_pos h2,if_pos h3,h2]
     rw[←this];exact j3
    refine Tells.pos (by simpa using h3) ?_;have:Z5 n l p=10:=by unfold Z5;rw[if_pos hc,if_pos h2,if_neg h3]
    rw[←this];exact j3
   refine Tells.neg h2 (Tells.shift ?_);simp only[l30_PermSifts.j2]
   refine Tells.neg (by simp) ?_;have:Z5 n l p=ZR p:=by unfold Z5;rw[if_pos hc,if_neg h2]
   rw[←this];exact j3
  refine Tells.neg hc (Tells.shift ?_);simp only[l30_PermSifts.j1]
  refine Tells.neg hc (Tells.shift ?_);simp only[l30_PermSifts.j2]
  refine Tells.neg (by simp) ?_;have:Z5 n l p=ccL n l:=by unfold Z5;rw[if_neg hc]
  rw[←this];exact j3
end Go.Proofs.Ytjjlhbgpdncpcaa.P.M
end
section
namespace Go.Proofs.Ytjjlhbgpdncpcaa.P
open Go.ChangeShapes Go.WideShapes Go.ChangeAt Go.RowKit Go.Proofs.YtjjlhbgpdncpcaaW.PrintWords Go.Proofs.YtjjlhbgpdncpcaaW.PrintLast Go.Proofs.YtjjlhbgpdncpcaaW.PrintMore
set_option linter.unusedVariables false
section
variable {H:Type} {enc:TypeId×Value→H} {W:World} {v:Value} {d:DataW H} {ps:List MemPlace} {held:Bool}
set_option maxRecDepth 100000 in
theorem open_list {base:Nat} (hv:Value.okWide Try.prog W .any base 22 v) (h:DataW.Trod enc Try.prog W 0 (fun _=>true) held 22 v d ps):
    ∃(a:Option Addr) (c:Nat) (l:List Int),v= .slice a l.length c∧(Kd.int .i64).C W a l.length l∧l.length≤c∧∀x∈l,(Lit.int .i64 x).wf=true:=by
 obtain⟨a,len,cap,rfl⟩:=okWide_slice Try.underlying22 hv
 obtain⟨fuel,hf⟩:=h
 have key:∃zs:List Int,(a=none∧len=0∧cap=0∧zs= [])∨∃x,a=some x∧len≤cap∧cap≤maxLen∧zs.length=cap∧(∀i,i<zs.length→W.cell? (x.add i)=some (.int .i64 (zs.getD i 0)))∧∀n∈zs,(Lit.int .i64 n).wf=true:=by
  rcases open_ints Try.underlying22 Try.underlying3 (by kernel_rfl) hf with⟨hcs,_⟩|⟨x,l,c,zs,hcs,_,hl,hm,hz,_,hcell,hwz⟩
  ·simp[Value.cells] at hcs;obtain⟨rfl,rfl,rfl⟩:=hcs
   exact⟨[],.inl ⟨rfl,rfl,rfl,rfl⟩⟩
  ·simp[Value.cells] at hcs;obtain⟨rfl,rfl,rfl⟩:=hcs
   exact⟨zs,.inr ⟨_,rfl,hl,hm,by simpa using hz,hcell,hwz⟩⟩
 obtain⟨zs,hz⟩:=key
 obtain⟨l,rfl,hr,hm,hw,hc⟩:=ReadsInt.ofRowC hz
 exact⟨a,cap,l,rfl,Kd.C_of_reads (d:=(0:Int)) (h1:=fun _=>rfl) hr,hc,hw⟩
theorem list_of_cells {A:Option Addr} {L C:Nat} {Z:List Int} (hl:L≤C) (hm:C≤maxLen) (hz:Z.length=C) (hn:A=none→C=0) (hc:∀a',A=some a'→∀c,c<C→W.cell? (a'.add c)=some (.int .i64 (Z.getD c 0))) (hw:∀n∈Z,(Lit.int .i64 n).wf=true):
    (Kd.slice 3 (Kd.int .i64)).K W (Z.take L) [.slice A L C]:=by
 have key:(A=none∧L=0∧C=0∧Z= [])∨∃x,A=some x∧L≤C∧C≤maxLen∧Z.length=C∧(∀i,i<Z.length→W.cell? (x.add i)=some (.int .i64 (Z.getD i 0)))∧∀n∈Z,(Lit.int .i64 n).wf=true:=by
  cases A with
  | none=>
   have h0:=hn rfl;subst h0
   exact .inl ⟨rfl,by omega,rfl,List.eq_nil_of_length_eq_zero hz⟩
  |some x=>exact .inr ⟨x,rfl,hl,hm,hz,fun i hi=>hc x rfl i (by omega),hw⟩
 have hlen:(Z.take L).length=L:=by rw[List.length_take];omega
 refine⟨A,C,by rw[hlen],by omega,?_⟩
 rw[hlen]
 refine⟨hlen,Nat.le_trans (Nat.le_trans hl hm) (by decide),fun h0=> ?_⟩
 rcases key with⟨_,h2,_⟩|⟨x,rfl,_⟩
 ·omega
 ·refine⟨x,rfl,fun j p hj=>⟨[.int .i64 p],rfl,rfl,fun i u hu=> ?_⟩⟩
  have hi:i=0∧u= .int .i64 p:=by
   cases i with
   |zero=>simp at hu;exact⟨rfl,hu.symm⟩
   |succ i=>simp at hu
  obtain⟨rfl,rfl⟩:=hi
  have hj':j<L:=by
   have:=(List.getElem?_eq_some_iff.1 hj).1;omega
  have hg:Z.getD j 0=p:=by
   rw[List.getElem?_take_of_lt hj'] at hj;rw[List.getD_eq_getElem?_getD,hj];rfl
  have:=hc x rfl j (by omega);rw[hg] at this
  show W.cell? (x.add (j*1+0))=_
  rw[Nat.mul_one,Nat.add_zero]
  exact this
end
end Go.Proofs.Ytjjlhbgpdncpcaa.P
end
section
namespace Go.Proofs.Ytjjlhbgpdncpcaa.P
open Go.ChangeShapes Go.WideShapes Go.ChangeAt Go.RowKit Go.Deep Go.Proofs.YtjjlhbgpdncpcaaW.PrintWords Go.Proofs.YtjjlhbgpdncpcaaW.PrintLast Go.Proofs.YtjjlhbgpdncpcaaW.PrintMore
set_option linter.unusedVariables false
section
variable {H:Type} {enc:TypeId×Value→H} {W:World} {held:Bool}
set_option maxRecDepth 100000 in
theorem slice_of_cells {fuel:Nat} {u:Value} {y:DataW H×List MemPlace} {t e:TypeId} (ht:Try.prog.underlying t=some (.slice e)) (h:DataW.trod enc Try.prog W 0 (fun _=>true) held fuel t [u]=some y):∃a n c,u= .slice a n c:=by
 rcases open_slice ht h with⟨hcs,_⟩|⟨x,l,c,_,_,_,_,hcs,_⟩
 ·simp at hcs;exact⟨_,_,_,hcs⟩
 ·simp at hcs;exact⟨_,_,_,hcs⟩
set_option maxRecDepth 100000 in
theorem list_at {fuel:Nat} {u:Value} {y:DataW H×List MemPlace} (h:DataW.trod enc Try.prog W 0 (fun _=>true) held fuel 22 [u]=some y):∃(a:Option Addr) (c:Nat) (l:List Int),u= .slice a l.length c∧(Kd.int .i64).C W a l.length l∧l.length≤c:=by
 obtain⟨a,len,cap,rfl⟩:=slice_of_cells Try.underlying22 h
 have key:∃zs:List Int,(a=none∧len=0∧cap=0∧zs= [])∨∃x,a=some x∧len≤cap∧cap≤maxLen∧zs.length=cap∧(∀i,i<zs.length→W.cell? (x.add i)=some (.int .i64 (zs.getD i 0)))∧∀n∈zs,(Lit.int .i64 n).wf=true:=by
  rcases open_ints Try.underlying22 Try.underlying3 (by kernel_rfl) h with⟨hcs,_⟩|⟨x,l,c,zs,hcs,_,hl,hm,hz,_,hcell,hwz⟩
  ·simp at hcs;obtain⟨rfl,rfl,rfl⟩:=hcs
   exact⟨[],.inl ⟨rfl,rfl,rfl,rfl⟩⟩
  ·simp at hcs;obtain⟨rfl,rfl,rfl⟩:=hcs
   exact⟨zs,.inr ⟨_,rfl,hl,hm,by simpa using hz,hcell,hwz⟩⟩
 obtain⟨zs,hz⟩:=key
 obtain⟨l,rfl,hr,hm,hw,hc⟩:=ReadsInt.ofRowC hz
 exact⟨a,cap,l,rfl,Kd.C_of_reads (d:=(0:Int)) (h1:=fun _=>rfl) hr,hc⟩
set_option maxRecDepth 100000 in
theorem rows_at {fuel:Nat} {u:Value} {y:DataW H×List MemPlace} (h:DataW.trod enc Try.prog W 0 (fun _=>true) held fuel 28 [u]=some y):∃(a:Option Addr) (c:Nat) (l:List (List Int)),u= .slice a l.length c∧(Kd.slice 3 (Kd.int .i64)).C W a l.length l∧l.length≤c:=by
 obtain⟨a,len,cap,rfl⟩:=slice_of_cells Try.underlying28 h
 rcases Go.Deep.open_int_rows Try.underlying28 Try.underlying22 Try.underlying3 (by kernel_rfl) (by kernel_rfl) h with⟨hcs,_⟩|⟨x,l,c,A,L,C,Z,hcs,_,hl,hm,_,hr⟩
 ·simp at hcs
  obtain⟨rfl,rfl,rfl⟩:=hcs
  exact⟨none,0,[],rfl,Kd.C_nil _ _,Nat.le_refl _⟩
 ·simp at hcs
  obtain⟨rfl,rfl,rfl⟩:=hcs
  refine⟨some x,cap,(List.range len).map (fun r=>(Z r).take (L r)),by simp,?_,by simp;exact hl⟩;rw[List.length_map,List.length_range]
  refine⟨by simp,Nat.le_trans (Nat.le_trans hl hm) (by decide),fun h0=>⟨x,rfl,fun j p hj=> ?_⟩⟩
  have hj':j<len:=by
   have:=(List.getElem?_eq_some_iff.1 hj).1
   simpa using this
  have hp:p=(Z j).take (L j):=by
   have:=(List.getElem?_eq_some_iff.1 hj).2
   simpa using this.symm
  subst hp;obtain⟨h1,h2,h3,h4,h5,h6,h7⟩:=hr j (by omega)
  refine⟨_,rfl,list_of_cells h2 h3 h4 h6 (fun a' e c hc=>(h7 a' e).2 c hc) h5,fun i u hu=> ?_⟩
  have hi:i=0∧u= .slice (A j) (L j) (C j):=by
   cases i with
   |zero=>simp at hu;exact⟨rfl,hu.symm⟩
   |succ i=>simp at hu
  obtain⟨rfl,rfl⟩:=hi
  show W.cell? (x.add (j*1+0))=_
  rw[Nat.mul_one,Nat.add_zero]
  exact h1
set_option maxRecDepth 100000 in
theorem level_at {fuel:Nat} {cs:List Value} {y:DataW H×List MemPlace} (h:DataW.trod enc Try.prog W 0 (fun _=>true) held fuel 74 cs=some y):∃x:S74,k74.K W x cs:=by
 obtain⟨y0,y1,y2,n,_,hl,h0,h1,h2⟩:=trod_struct3 Try.underlying74 h
 have hc:Try.prog.cellsOf 74=3:=by kernel_rfl
 have c3:Try.prog.cellsOf 3=1:=by kernel_rfl
 have c22:Try.prog.cellsOf 22=1:=by kernel_rfl
 have c28:Try.prog.cellsOf 28=1:=by kernel_rfl
 rw[hc] at hl
 match cs,hl with
 | [u0,u1,u2],_=>
  have h0':DataW.trod enc Try.prog W 0 (fun _=>true) held n 3 ((List.drop 0 [u0,u1,u2]).take (Try.prog.cellsOf 3))=some y0:=h0;have h1':DataW.trod enc Try.prog W 0 (fun _=>true) held n 22 ((List.drop 1 [u0,u1,u2]).take (Try.prog.cellsOf 22))=some y1:=h1;have h2':DataW.trod enc Try.prog W 0 (fun _=>true) held n 28 ((List.drop 2 [u0,u1,u2]).take (Try.prog.cellsOf 28))=some y2:=h2;rw[c3] at h0';rw[c22] at h1';rw[c28] at h2';obtain⟨m,e0,_,_⟩:=DataW.trod_int Try.underlying3 h0';have e0':u0= .int .i64 m:=by simpa using e0
  obtain⟨A1,c1,l1,rfl,g1,k1⟩:=list_at (u:=u1) h1';obtain⟨A2,c2,l2,rfl,g2,k2⟩:=rows_at (u:=u2) h2';subst e0'
  exact⟨⟨m,l1,l2⟩,k74_mk W ⟨m,l1,l2⟩ k1 g1 k2 g2⟩
set_option maxRecDepth 100000 in
theorem open_chain {base:Nat} {v:Value} {d:DataW H} {ps:List MemPlace} (hv:Value.okWide Try.prog W .any base 46 v) (h:DataW.Trod enc Try.prog W 0 (fun _=>true) held 46 v d ps):
    ∃(n:Int) (a:Option Addr) (c:Nat) (l:List S74),v= .agg #[.int .i64 n,.slice a l.length c]∧k74.C W a l.length l∧l.length≤c∧(Lit.int .i64 n).wf=true:=by
 obtain⟨cs,rfl,hsz⟩:=okWide_struct Try.underlying46 hv
 obtain⟨fuel,hf⟩:=h
 obtain⟨y0,y1,n,_,hl,h0,h1⟩:=trod_struct2 Try.underlying46 hf
 have hc:Try.prog.cellsOf 46=2:=by kernel_rfl
 have c3:Try.prog.cellsOf 3=1:=by kernel_rfl
 have c44:Try.prog.cellsOf 44=1:=by kernel_rfl
 have c74:Try.prog.cellsOf 74=3:=by kernel_rfl
 rw[hc] at hl hsz
 obtain⟨L⟩:=cs
 match L,hsz with
 | [u0, u1],_=>
  have h0':DataW.trod enc Try.prog W 0 (fun _=>true) held n 3 ((List.drop 0 [u0,u1]).take (Try.prog.cellsOf 3))=some y0:=h0;have h1':DataW.trod enc Try.prog W 0 (fun _=>true) held n 44 ((List.drop 1 [u0,u1]).take (Try.prog.cellsOf 44))=some y1:=h1;rw[c3] at h0';rw[c44] at h1';obtain⟨m,e0,_,hw⟩:=DataW.trod_int Try.underlying3 h0';have e0':u0= .int .i64 m:=by simpa using e0
  subst e0'
  rcases open_slice Try.underlying44 (show DataW.trod enc Try.prog W 0 (fun _=>true) held n 44 [u1]=some y1 from h1') with⟨hcs,_⟩|⟨x,len,cap,mm,n',D,Pl,hcs,_,hl,hm,hmm,_,hx⟩
  ·simp at hcs;subst hcs
   exact⟨m,none,0,[],rfl,Kd.C_nil _ _,Nat.le_refl _,hw⟩
  ·simp at hcs;subst hcs;simp only[if_true] at hmm;subst hmm;rw[c74] at hx
   have ex:∀i,i<len→∃p:S74×List Value,k74.K W p.1 p.2∧p.2.length=3∧∀j,j<3→W.cell? ((x.add (i*3)).add j)=p.2[j]? :=by
    intro i hi;obtain⟨cs',g1,g2⟩:=hx i (by omega);obtain⟨_,g3,g4⟩:=World.cells?_some g1;obtain⟨p,hp⟩:=level_at g2
    exact⟨(p,cs'),hp,g3,g4⟩
   haveI:Inhabited S74:=⟨⟨0,[],[]⟩⟩
   obtain⟨F,hF⟩:=choose_lt ex
   refine⟨m,some x,mm,(List.range len).map (fun i=>(F i).1),by simp,?_,by simp;omega,hw⟩;rw[List.length_map,List.length_range]
   refine⟨by simp,Nat.le_trans (Nat.le_trans (by assumption) hm) (by decide),fun h0=>⟨x,rfl,fun j p hj=> ?_⟩⟩
   have hj':j<len:=by
    have:=(List.getElem?_eq_some_iff.1 hj).1
    simpa using this
   have hp:p=(F j).1:=by
    have:=(List.getElem?_eq_some_iff.1 hj).2
    simpa using this.symm
   subst hp;obtain⟨g1,g2,g3⟩:=hF j hj'
   refine⟨(F j).2,g2,g1,fun i u hu=> ?_⟩
   have hi:i<3:=by
    have:=(List.getElem?_eq_some_iff.1 hu).1;omega
   have:=g3 i hi;rw[hu,Deep.add_add] at this
   exact this
end
end Go.Proofs.Ytjjlhbgpdncpcaa.P
end
section
namespace Go.Proofs.Ytjjlhbgpdncpcaa.permSifts
open Go.ChangeShapes Go.WideShapes Go.ChangeAt Go.RowKit Go.Proofs.YtjjlhbgpdncpcaaW.PrintWords Go.Proofs.YtjjlhbgpdncpcaaW.PrintLast Go.Proofs.YtjjlhbgpdncpcaaW.PrintMore
open Go.ChangeMaps (open_string shut_string)
set_option linter.unusedVariables false
theorem own:ownKnob Try.prog.godebug=none:=by kernel_rfl
theorem laidOut:laidOutB Try.prog=true:=by kernel_rfl
set_option maxRecDepth 100000 in
theorem lifted (os:Os) (started:os.Started) (H:Type) (enc:TypeId×Value→H):
    ReturnsInHanded {} Try.checked os 8 .any (Rows.permSiftsSpec.pre6 enc Try.prog Try.f8 Rows.permSiftsRow.domain false) (Rows.permSiftsSpec.post enc Try.prog Try.f8 false true false false):=by
 refine returnsInHanded_of_change_sized (C:=Try.checked) own started (by kernel_rfl) Try.func8
  (ChangeSpec.witness6 (enc:=enc) (C:=Try.checked) false ⟨#[], #[.agg #[.int .i64 0,.slice none 0 0],.slice none 0 0],[]⟩ 8 (by kernel_rfl) (by kernel_rfl) (by kernel_rfl) (by kernel_rfl)) ?_
 intro W base args ds gs before hval0 hW hcnd hsz0 _
 have hval:∀(j:Nat) t v,Try.f8.params[j]? =some t→args[j]? =some v→Value.okWide Try.prog W .any base t v:=hval0
 have hW':=hW
 obtain⟨p,q,hA0,hV,rfl,hfz,hnd⟩:=hW
 have hA:DataW.TrodAll enc Try.prog W 0 (fun _=>true) true Try.f8.params.toList args.toList ds p:=hA0
 rw[Try.params8] at hA hval
 obtain⟨v0,vs0,d0,ds0,p0,q0,hargs,rfl,rfl,h0,r0⟩:=trodAll_cons hA
 obtain⟨v1,vs1,d1,ds1,p1,q1,rfl,rfl,rfl,h1,r1⟩:=trodAll_cons r0
 obtain⟨rfl,rfl,rfl⟩:=trodAll_nil r1
 obtain rfl:args= #[v0,v1]:=by cases args;simp_all
 obtain⟨rfl,rfl⟩:=trodVars_none hV
 have k0:=h0
 have lt0:∀x∈p0,x.block<W.heap.size:=by obtain⟨m,hm⟩:=k0;exact DataW.trod_lt m _ _ _ hm
 obtain⟨n0,a0,c0,l0,rfl,hr0,hm0,hw0⟩:=P.open_chain (hval 0 46 v0 rfl rfl) h0
 have k1:=h1
 have lt1:∀x∈p1,x.block<W.heap.size:=by obtain⟨m,hm⟩:=k1;exact DataW.trod_lt m _ _ _ hm
 obtain⟨a1,c1,l1,rfl,hr1,hm1,hw1⟩:=P.open_list (hval 1 22 v1 rfl rfl) h1
 clear hA0 hval0 hsz0
 obtain⟨k,hk⟩:=P.M.sifts_true n0 l0 l1 hw1
 refine(P.l30_PermSifts.calls k n0 _ _ l0 _ _ l1 true W hr0 hm0 hr1 hm1 hk).mono fun e W' ⟨he,bel⟩=> ?_
 subst he
 exact⟨_,rfl,_,_,_,[],_,[],hW',trodAll_mk1 (shut_bool Try.underlying4 _),(trodAll_cons_mk (Below.trod laidOut (by kernel_rfl) (of_decide_eq_true (by kernel_rfl)) k0 bel lt0) (trodAll_cons_mk (Below.trod laidOut (by kernel_rfl) (of_decide_eq_true (by kernel_rfl)) k1 bel lt1) trodAll_mk0)),rfl,bel.frame _,fun h=>by cases h⟩
theorem over:Rows.permSiftsRow.holds Try.pinned (OpenSpec.ofChange Rows.permSiftsSpec):=
 OpenClaim.holds_of_wide 8 Try.f8 rfl rfl rfl rfl rfl rfl rfl ⟨rfl,rfl,rfl,rfl,rfl⟩ rfl rfl rfl rfl rfl (by kernel_rfl) Try.func8 (by kernel_rfl)
  (of_decide_eq_true (by kernel_rfl)) (by unfold Func.isWrapper;first|(rw[if_pos (by decide+kernel)];kernel_rfl)|(rw[if_neg (by decide+kernel)];exact⟨rfl,rfl⟩))
  (fun os started H enc _=>lifted os started H enc)
end Go.Proofs.Ytjjlhbgpdncpcaa.permSifts
namespace Go.Proofs.Ytjjlhbgpdncpcaa
theorem permSifts_holds:Rows.PermSiftsSaid:=permSifts.over
end Go.Proofs.Ytjjlhbgpdncpcaa
end