/- Walks of the search and of what it calls, part 18. -/
import Derived.Test.YtbhbainhmfjpdaaGreatDoorMq
set_option linter.unusedVariables false
set_option linter.unusedSimpArgs false
set_option maxRecDepth 100000
set_option maxHeartbeats 8000000
namespace Go.Proofs.YtbhbainhmfjpdaaGreatDoor
open Go.RowKit
set_option maxHeartbeats 8000000 in
theorem r_growST {k:Nat} {s:Sc} (hp9:s.path.length≤100) (hk9:k≤1000) (ihA:PCalls Tryz.prog TF 25 [scP (s.dec 1 k),iP (k:Int),bP false] (.tup [ndP (growR k (s.dec 1 k) false).1,ratP (growR k (s.dec 1 k) false).2])) (ihB:PCalls Tryz.prog TF 25 [scP (s.dec 2 k),iP (k:Int),bP false] (.tup [ndP (growR k (s.dec 2 k) false).1,ratP (growR k (s.dec 2 k) false).2])) (hA:(growR k (s.dec 1 k) false).2.S 1000) (hB:(growR k (s.dec 2 k) false).2.S 1000):PCalls Tryz.prog TF 25 [scP s,iP ((k+1:Nat):Int),bP true] (.tup [ndP (growR (k+1) s true).1,ratP (growR (k+1) s true).2]):=by
 simp only[growR];unfold Sc.dec at*;rw[← scR_eq] at ihA ihB;generalize growR k ⟨s.q,s.path++[⟨1,(k:Int),Q.zero⟩],s.lems⟩ false=A at*;generalize growR k ⟨s.q,s.path++[⟨2,(k:Int),Q.zero⟩],s.lems⟩ false=B at*;obtain⟨⟨l1,d1,k1,e1,p1⟩,v1⟩:=A;obtain⟨⟨l2,d2,k2,e2,p2⟩,v2⟩:=B;simp only at hA hB;refine pcA [85,46,35,42] Tryz.func25 (fun D=>?_);refine akF (c:=by exact (show _=false from beq_eq_false_iff_ne.2 (by omega))) ?_;refine aa (c:=ari_back (by omega)) ?_;refine aa (c:=ari_back (by omega)) ?_;refine au ?_;refine rp0 el_Decision (by simp;omega) Y Y Y Y Y Y Y Y ?_;refine au ?_;refine rp0 el_Decision (by simp;omega) Y Y Y Y Y Y Y Y ?_;refine aa (c:=ari_back (by omega)) ?_;refine ac (c:=ihA) ?_;refine au ?_;refine rp0 el_Decision (by simp;omega) Y Y Y Y Y Y Y Y ?_;refine au ?_;refine rp0 el_Decision (by simp;omega) Y Y Y Y Y Y Y Y ?_;refine aa (c:=ari_back (by omega)) ?_;refine ac (c:=ihB) ?_;refine ac (c:=r_min (hA.sm (by decide)) (hB.sm (by decide)) hA.ok hB.neg.ok ((hA.add hB.neg).sm (by decide))) ?_;exact ar (c:=rfl)
set_option maxHeartbeats 8000000 in
theorem r_growSF {k:Nat} {s:Sc} (hp9:s.path.length≤100) (hk9:k≤1000) (ihA:PCalls Tryz.prog TF 25 [scP (s.dec 1 k),iP (k:Int),bP false] (.tup [ndP (growR k (s.dec 1 k) false).1,ratP (growR k (s.dec 1 k) false).2])) (ihB:PCalls Tryz.prog TF 25 [scP (s.dec 2 k),iP (k:Int),bP false] (.tup [ndP (growR k (s.dec 2 k) false).1,ratP (growR k (s.dec 2 k) false).2])) (hA:(growR k (s.dec 1 k) false).2.S 1000) (hB:(growR k (s.dec 2 k) false).2.S 1000):PCalls Tryz.prog TF 25 [scP s,iP ((k+1:Nat):Int),bP false] (.tup [ndP (growR (k+1) s false).1,ratP (growR (k+1) s false).2]):=by
 simp only[growR];unfold Sc.dec at*;rw[← scR_eq] at ihA ihB;generalize growR k ⟨s.q,s.path++[⟨1,(k:Int),Q.zero⟩],s.lems⟩ false=A at*;generalize growR k ⟨s.q,s.path++[⟨2,(k:Int),Q.zero⟩],s.lems⟩ false=B at*;obtain⟨⟨l1,d1,k1,e1,p1⟩,v1⟩:=A;obtain⟨⟨l2,d2,k2,e2,p2⟩,v2⟩:=B;simp only at hA hB;refine pcA [85,46,35,42] Tryz.func25 (fun D=>?_);refine akF (c:=by exact (show _=false from beq_eq_false_iff_ne.2 (by omega))) ?_;refine aa (c:=ari_back (by omega)) ?_;refine aa (c:=ari_back (by omega)) ?_;refine au ?_;refine rp0 el_Decision (by simp;omega) Y Y Y Y Y Y Y Y ?_;refine au ?_;refine rp0 el_Decision (by simp;omega) Y Y Y Y Y Y Y Y ?_;refine aa (c:=ari_back (by omega)) ?_;refine ac (c:=ihA) ?_;refine au ?_;refine rp0 el_Decision (by simp;omega) Y Y Y Y Y Y Y Y ?_;refine au ?_;refine rp0 el_Decision (by simp;omega) Y Y Y Y Y Y Y Y ?_;refine aa (c:=ari_back (by omega)) ?_;refine ac (c:=ihB) ?_;refine ac (c:=r_min (hA.sm (by decide)) (hB.sm (by decide)) hA.ok hB.neg.ok ((hA.add hB.neg).sm (by decide))) ?_;exact ar (c:=rfl)
theorem r_growF:∀(k:Nat) {s:Sc} {a b:Nat},k≤1000→GrowOk a b k s→(∀p∈s.q.g.units,∀t∈p.terms,0≤t.1∧t.1≤1000)→s.q.goal.S 3 8→(∀t∈s.q.goal.terms,0≤t.1∧t.1≤1000)→PCalls Tryz.prog TF 25 [scP s,iP (k:Int),bP false] (.tup [ndP (growR k s false).1,ratP (growR k s false).2])
 | 0,s,a,b,hk,h,hv,hg,hgv=>r_grow0F h hv hg hgv
 | k+1,s,a,b,hk,h,hv,hg,hgv=>r_growSF h.2.2.2.2 (by omega) (r_growF k (by omega) h.1 hv hg hgv) (r_growF k (by omega) h.2.1 hv hg hgv) h.2.2.1 h.2.2.2.1
theorem r_growT {k:Nat} {s:Sc} {a b:Nat} (hk:k≤1000) (h:GrowOk a b k s) (hv:∀p∈s.q.g.units,∀t∈p.terms,0≤t.1∧t.1≤1000) (hg:s.q.goal.S 3 8) (hgv:∀t∈s.q.goal.terms,0≤t.1∧t.1≤1000):PCalls Tryz.prog TF 25 [scP s,iP (k:Int),bP true] (.tup [ndP (growR k s true).1,ratP (growR k s true).2]):=by
 cases k with
 | zero=>exact r_grow0T h hv hg hgv
 | succ k=>exact r_growST h.2.2.2.2 (by omega) (r_growF k (by omega) h.1 hv hg hgv) (r_growF k (by omega) h.2.1 hv hg hgv) h.2.2.1 h.2.2.2.1
theorem splits_of {L:List Nat} {n:Nat} (h:0 < L.length):(if (n:Int) < IntKind.wrap .i64 (((atZ L ((L.length - 1:Nat):Int):Nat):Int).tmod 3) then (n:Int) else IntKind.wrap .i64 (((atZ L ((L.length - 1:Nat):Int):Nat):Int).tmod 3))=(splitsQ L n:Int):=by
 have e:IntKind.wrap .i64 (((atZ L ((L.length - 1:Nat):Int):Nat):Int).tmod 3)=((atZ L ((L.length - 1:Nat):Int) % 3:Nat):Int):=by
  generalize atZ L ((L.length - 1:Nat):Int)=b;have:((b:Int).tmod 3)=((b % 3:Nat):Int):=by rw[Int.tmod_eq_emod_of_nonneg (by omega)];omega
  rw[this,i64_wrap (by omega) (by omega)]
 rw[e];unfold splitsQ;rw[if_pos h];split<;>omega
theorem splits_0 {L:List Nat} {n:Nat} (h:L.length=0):(0:Int)=(splitsQ L n:Int):=by
 unfold splitsQ;rw[if_neg (by omega)];rfl
theorem bd_va {q:Qr} (h:(⟨q,[],[]⟩:Sc).Va 2 3) (hz:(⟨q,[],[]⟩:Sc).Dz 4 32) (hu:∀p∈q.g.units,p.Dz (q.g.inputs+q.g.units.length) 16) (u4:q.g.units.length≤4):∀j,j≤q.g.units.length→(boundedN ⟨q,[],[]⟩ j).Va 2 3:=fun j hj=>by
 have n1:=nums1 q.g.units.length (by omega) j (by omega);exact (bounded_dz (s:=⟨q,[],[]⟩) h (nq _) hz hu (by decide) j hj n1.1 n1.2).1
theorem dz_vars {f:Fm} {n M:Nat} (h:f.Dz n M) (hn:n≤1000):∀t∈f.terms,0≤t.1∧t.1≤1000:=fun t ht=>by
 have:=(h.each t ht).2;omega
theorem goal3 (L:List Nat):(queryQ L).1.goal.S 3 8:=by
 obtain⟨q1,q2,q3,q4,q5⟩:=query_va L;refine⟨q1.goal.cn,fun t ht=>rz_S (q1.goal.each t ht).ok (q3.each t ht).1 (by decide) (by decide) (by decide),rz_S q1.goal.const.ok q3.const (by decide) (by decide) (by decide),nt q1.goal.len (by omega)⟩
set_option maxHeartbeats 8000000 in
theorem r_tree {A:Option Addr} {k:Nat} {L:List Nat} (hl:∀y∈L,y < 256) (hn:L.length≤1000):PCallsW (By ⟨A,L.length,k⟩ L) Tryz.prog TQ 9 [.raw (.slice A L.length k)] (.tup [qyP (treeQ L),ndP (treeN L)]):=by
 obtain⟨q1,q2,q3,q4,q5⟩:=query_va L;obtain⟨s1,s2⟩:=scope_va L;obtain⟨g1,g2,g3⟩:=tree_one L;obtain⟨v1,v2,v3,v4⟩:=tree_two L;obtain⟨t1,t2,t3⟩:=treeQ_same L;have hi:=r_instance (x:=⟨A,L.length,k⟩) hl hn;have hsp:=splits_le L (queryQ L).1.g.units.length;have hb1:=r_bounded (s:=⟨(queryQ L).1,[],[]⟩) (bd_va s1 s2 q2 q5) (fun p hp=>dz_vars (q2 p hp) (by omega));have hg1:=r_growT (k:=splitsQ L (queryQ L).1.g.units.length) (by omega) g1 (by rw[(scope1_q _).1];exact fun p hp=>dz_vars (q2 p hp) (by omega)) (by rw[(scope1_q _).1];exact goal3 L) (by rw[(scope1_q _).1];exact dz_vars q3 (by omega));have hb2:=r_bounded (s:=⟨treeQ L,[],[]⟩) (bd_va v1 v2 (by rw[t1];exact q2) (by rw[t1];exact q5)) (by show ∀p∈(treeQ L).g.units,_;rw[t1];exact fun p hp=>dz_vars (q2 p hp) (by omega));have hg2:=r_growT (k:=splitsQ L (queryQ L).1.g.units.length) (by omega) v3 (by rw[(scope1_q _).1,t1];exact fun p hp=>dz_vars (q2 p hp) (by omega)) (by rw[(scope1_q _).1];exact v4) (by rw[(scope1_q _).1,t3];exact dz_vars q3 (by omega));have hc:(queryQ L).1.goal.const.S 100:=q1.goal.const;have hq2:treeQ L=(bif decide (sgQ (growR (splitsQ L (queryQ L).1.g.units.length) (scope1 (queryQ L).1) true).2 < 0) then (queryQ L).1.raise (growR (splitsQ L (queryQ L).1.g.units.length) (scope1 (queryQ L).1) true).2 else (queryQ L).1):=rfl;unfold treeN;change PCalls _ _ _ _ (scP (scope1 (queryQ L).1)) at hb1;change PCalls _ _ _ _ (scP (scope1 (treeQ L))) at hb2;clear q1 q2 q3 s1 s2 g1 g3 v1 v2 v3 v4 t1 t2 t3;generalize treeQ L=q' at*;generalize (queryQ L).1=q at*;generalize scope1 q=sc1 at*;generalize scope1 q'=sc2 at*;generalize growR (splitsQ L q.g.units.length) sc1 true=G1 at*;generalize growR (splitsQ L q.g.units.length) sc2 true=G2 at*;obtain⟨⟨l1,d1,k1,e1,p1⟩,w1⟩:=G1;obtain⟨⟨l2,d2,k2,e2,p2⟩,w2⟩:=G2;simp only at*;refine pcW [39,46] (by kernel_rfl) Tryz.func9 rfl rfl (fun D hF hM hH=>?_);refine pa Y Y ?_
 apply pcutP (sl:=[(2,_),(3,_),(4,_),(0,_)]) (rs:=[(2,_),(3,_),(4,_)]) [39,46,35] (True)
 case h1=>
  refine au ?_;refine rcw hM (fun _=>hH.gr) (hi) Y Y Y Y Y Y Y ?_;refine au ?_;refine⟨?_,trivial⟩;refine Sub.of ?_ ?_ ?_
  ·exact (c4 Y Y Y Y trivial)
  ·exact (c3 Y Y Y trivial)
  ·rfl
 case h2=>
  intro _;refine pa Y Y ?_
  apply pcutP (sl:=[(2,_),(3,_),(4,_),(5,.pv (iP ((splitsQ L q.g.units.length:Nat):Int)))]) (rs:=[(2,_),(3,_),(4,_)]) [39,46,35] (True)
  case h1=>
   refine pr0 (qg 1 ?_);refine ro0 Y Y Y (fun hd=>opE_lenR Y Y Y hd) ?_;refine a2 (fun e14=>?_) (fun e14=>?_)
   ·have h14:0 < L.length:=by have h:=of_decide_eq_true e14;omega
    have h18:ariO .sub .i64 (L.length:Int) 1=some ((L.length - 1:Nat):Int):=by exact ari_pred (dt (by omega)) (by omega)
    obtain⟨ad,hA,_⟩:=hH.at (show L.length - 1 < L.length by omega);simp only at hA;subst hA;have hc:∀w,Gr D.w0 w→w.cell? (ad.add (L.length - 1))=some (bv (atZ L ((L.length - 1:Nat):Int))):=fun w G=>by
     obtain⟨ad2,h1,h2⟩:=(hH.gr G).at (show L.length - 1 < L.length by omega);injection h1 with h1;subst h1;exact h2
    refine pr0' (qg 2 ?_);refine ro0 Y Y Y (fun hd=>opE_lenR Y Y Y hd) ?_;refine aa (c:=h18) ?_;refine ro0 Y Y Y (fun hd=>opE_idxR (i:=L.length - 1) Y Y Y Y Y (by omega) hd) ?_;refine ro0 Y Y Y (fun hd=>opE_loadR Y hM hc Y Y hd) ?_;refine ro0 Y Y Y (fun hd=>opE_rem Y Y Y (by decide) hd) ?_;refine ro0 Y Y Y (fun hd=>opE_conv (ds:=.int .u8) (j:=.i64) Y Y (by kernel_rfl) (by kernel_rfl) hd) ?_;refine qg 4 ?_;refine ro0 Y Y Y (fun hd=>opE_min Y Y Y Y hd) ?_;refine au ?_;refine⟨?_,trivial⟩;refine Sub.of ?_ ?_ ?_
    ·exact (c3 Y Y Y (ai (congrArg (fun z=>some (SV.pv (iP z))) (by rw[List.length_map];exact splits_of h14)) trivial))
    ·exact (c3 Y Y Y trivial)
    ·rfl
   ·have h14:L.length=0:=by have h:=of_decide_eq_false e14;omega
    refine au ?_;refine⟨?_,trivial⟩;refine Sub.of ?_ ?_ ?_
    ·exact (c3 Y Y Y (ai (congrArg (fun z=>some (SV.pv (iP z))) (splits_0 h14)) trivial))
    ·exact (c3 Y Y Y trivial)
    ·rfl
  case h2=>
   intro _;refine ac (c:=hb1) ?_;refine ac (c:=hg1) ?_;refine qg 7 ?_;refine rn Y ?_
   apply pcutP (sl:=[(2,_),(3,_),(4,_),(5,_)]) (rs:=[(2,_),(3,_),(4,.box 39 [.pv (iP q'.g.inputs),.pv (formsP q'.g.units),.pv (formsP q'.g.outputs),.pv (ratsP q'.rg.lo),.pv (ratsP q'.rg.hi),.pv (formsP q'.rg.rows),.pv (termsP q'.goal.terms),.pv (bP q'.goal.const.neg),.pv (.nat q'.goal.const.num),.pv (.nat q'.goal.const.den)])]) [39,46,35] (True)
   case h1=>
    refine ac (c:=r_sign (g2.sm (by decide))) ?_;refine a2 (fun e38=>?_) (fun e38=>?_)
    ·refine ac (c:=r_sub (hc.sm (by decide)) (g2.sm (by decide)) hc.ok g2.neg.ok) ?_;refine au ?_;refine⟨?_,trivial⟩;refine Sub.of ?_ ?_ ?_
     ·exact (c4 Y Y Y Y trivial)
     ·exact (c2 Y Y (ai (congrArg (fun q:Qr=>some (Res.box 39 [.pv (iP q.g.inputs),.pv (formsP q.g.units),.pv (formsP q.g.outputs),.pv (ratsP q.rg.lo),.pv (ratsP q.rg.hi),.pv (formsP q.rg.rows),.pv (termsP q.goal.terms),.pv (bP q.goal.const.neg),.pv (.nat q.goal.const.num),.pv (.nat q.goal.const.den)])) (show q.raise w1=q' by rw[hq2,e38];rfl)) trivial))
     ·rfl
    ·refine au ?_;refine⟨?_,trivial⟩;refine Sub.of ?_ ?_ ?_
     ·exact (c4 Y Y Y Y trivial)
     ·exact (c2 Y Y (ai (congrArg (fun q:Qr=>some (Res.box 39 [.pv (iP q.g.inputs),.pv (formsP q.g.units),.pv (formsP q.g.outputs),.pv (ratsP q.rg.lo),.pv (ratsP q.rg.hi),.pv (formsP q.rg.rows),.pv (termsP q.goal.terms),.pv (bP q.goal.const.neg),.pv (.nat q.goal.const.num),.pv (.nat q.goal.const.den)])) (show q=q' by rw[hq2,e38];rfl)) trivial))
     ·rfl
   case h2=>
    intro _;refine ac (c:=hb2) ?_;refine ac (c:=hg2) ?_;exact ar (c:=rfl)
def Nd.Good:Nat→Nd→Prop
 | 0,.mk ls _ _ _ p=>(∀m∈ls,LmOk m)∧ls.length≤100∧PfOk p
 | k+1,.mk ls d ks _ _=>(∀m∈ls,LmOk m)∧ls.length≤100∧d.at_=Q.zero∧∀a∈ks,Nd.Good k a
theorem Nd.Good.lim:∀{k:Nat} {n:Nd},n.Good k→n.Lim k
 | 0,.mk ls d ks e p,h=>⟨h.2.1,nt h.2.2.len (by decide)⟩
 | k+1,.mk ls d ks e p,h=>⟨h.2.1,fun a ha=>(h.2.2.2 a ha).lim⟩
structure EnG (x:En) (n:Nat):Prop where
 ok:EnOk x
 len:x.lems.length≤n
 at_:∀d∈x.path,d.at_=Q.zero
 path:x.path.length≤100
theorem opp_at (d:Dc):(oppD d).at_=d.at_:=by unfold oppD;cases decide (0 < d.kind)&&decide (d.kind < 5)<;>rfl
theorem ent_good:∀(k:Nat) (n:Nd) (path:List Dc) (lems:List Lm),n.Good k→(∀m∈lems,LmOk m)→(∀d∈path,d.at_=Q.zero)→path.length+k≤100→∀x∈entR k n path lems,EnG x (lems.length+100*(k+1))
 | 0,.mk ls d ks e p,path,lems,h,hl,hp,h9,x,hx=>by
  obtain rfl:=mj hx;refine⟨⟨fun m hm=>?_,h.2.2⟩,by show (lems++ls).length≤_;rw[List.length_append];have:=h.2.1;omega,hp,h9⟩;rcases List.mem_append.1 hm with e | e
  ·exact hl m e
  ·exact h.1 m e
 | k+1,.mk ls d ks e p,path,lems,h,hl,hp,h9,x,hx=>by
  obtain⟨h1,h2,h3,h4⟩:=h;have hl2:∀m∈lems++ls,LmOk m:=fun m hm=>by
   rcases List.mem_append.1 hm with e | e
   ·exact hl m e
   ·exact h1 m e
  match ks,hx with
  | [],hx=>cases hx
  | [_],hx=>cases hx
  | [a,b],hx=>
   have hp2:∀d':Dc,d'.at_=Q.zero→∀z∈path++[d'],z.at_=Q.zero:=fun d' hd z hz=>by
    rcases List.mem_append.1 hz with e | e
    ·exact hp z e
    ·rw[mj e];exact hd
   have key:EnG x ((lems++ls).length+100*(k+1)):=by
    rcases List.mem_append.1 (show x∈entR k a _ _++entR k b _ _ from hx) with e | e
    ·exact ent_good k a _ _ (h4 a (mf ..)) hl2 (hp2 d h3) (by rw[List.length_append];show path.length+1+k≤100;omega) x e
    ·exact ent_good k b _ _ (h4 b (List.mem_cons_of_mem _ (mf ..))) hl2 (hp2 _ ((opp_at d).trans h3)) (by rw[List.length_append];show path.length+1+k≤100;omega) x e
   refine⟨key.ok,nt key.len ?_,key.at_,key.path⟩;rw[List.length_append];omega
  | _::_::_::_,hx=>cases hx
theorem renM_S {to:List Int} {l:List Mm} (h:PfOk l):PfOk (l.map (renM to)):=by
 refine⟨fun m hm=>?_,by rw[List.length_map];exact h.len⟩;obtain⟨m',h1,rfl⟩:=List.mem_map.1 hm;exact h.each m' h1
theorem keep_mem {to:List Int}:∀{is:List Bool} {ls:List Lm},(∀m∈ls,LmOk m)→(∀m∈keepL to is ls,LmOk m)∧(keepL to is ls).length≤ls.length
 | [],ls,h=>⟨(fun m hm=>by cases ls<;>cases hm),nq _⟩
 | b::is,[],h=>⟨(fun m hm=>by cases hm),nq _⟩
 | b::is,m::ls,h=>by
  obtain⟨h1,h2⟩:=keep_mem (to:=to) (is:=is) (ls:=ls) fun z hz=>h z (List.mem_cons_of_mem _ hz)
  rw[keepL];cases b with
  | true=>
   refine⟨fun z hz=>?_,by rw[cond_true,List.length_cons,List.length_cons];omega⟩;rcases List.mem_cons.1 hz with e | e
   ·have:=h m (mf ..);rw[e];exact⟨this.value,renM_S this.proof⟩
   ·exact h1 z e
  | false=>exact⟨h1,by rw[cond_false,List.length_cons];omega⟩
theorem EnG.reduce {x:En} {n:Nat} (h:EnG x n):EnG (reduceR x) n:=by
 obtain⟨h1,h2⟩:=keep_mem (to:=numsR (marksR x.lems x.proof)) (is:=marksR x.lems x.proof) h.ok.lems;exact⟨⟨h1,renM_S h.ok.proof⟩,nt h2 h.len,h.at_,h.path⟩
theorem EnG.va {x:En} {n a:Nat} {q:Qr} (h:EnG x n) (hn:n≤1000) (hq:q.Va a) (ha:1≤a) (ha2:a≤2) (h4:q.g.inputs+q.g.units.length≤8):(x.sc q).Va a 8:=
 ⟨hq,fun d hd=>by rw[h.at_ d hd];exact sz_zero.up ha,nt h.path (by decide),fun m hm=>(h.ok.lems m hm).value,nt h.len hn,by decide,by decide,ha2,h4⟩
theorem bd_lm {s:Sc} {a b:Nat} (hv:∀j,j≤s.q.g.units.length→(boundedN s j).Va a b) (hl:∀m∈s.lems,LmOk m):∀j,j≤s.q.g.units.length→(∀m∈(boundedN s j).lems,LmOk m)∧(boundedN s j).lems.length≤s.lems.length+2*j
 | 0,_=>⟨hl,nr _⟩
 | j+1,hj=>by
  obtain⟨h1,h2⟩:=bd_lm hv hl j (by omega);have h3:=hv j (by omega);have h4:=hv (j+1) hj;have hq:(boundedN s j).q=s.q:=(bounded_q s j).1;have hm:atZ (boundedN s j).q.g.units (j:Int)∈(boundedN s j).q.g.units:=atZ_mem (by omega) (by rw[hq];omega);have hp:(atZ (boundedN s j).q.g.units (j:Int)).S 2 8:=(h3.q.us _ hm).up h3.a9 h3.n9;obtain⟨_,a2,a3⟩:=aboveR_S h3 (hp.up (t:=3) (m:=8) (by decide) (by decide));obtain⟨_,b2,b3⟩:=aboveR_S h3 ((hp.scaleR sz_mone).up (t:=3) (m:=8) (by decide) (by decide));have mem:∀m∈(boundedN s (j+1)).lems,m∈(boundedN s j).lems∨m.proof=(aboveR (boundedN s j) (atZ (boundedN s j).q.g.units (j:Int))).2.1∨m.proof=(aboveR (boundedN s j) (Fm.scaleR (atZ (boundedN s j).q.g.units (j:Int)) Q.mone)).2.1:=fun m hm=>by
   have hm':m∈addLm _ _ _ _:=hm;unfold addLm at hm';rcases List.mem_append.1 hm' with e | e
   ·exact .inl e
   ·right
    rcases List.mem_append.1 e with e | e
    ·left
     revert e
     cases (aboveR (boundedN s j) (atZ (boundedN s j).q.g.units (j:Int))).2.2 with
     | true=>intro e;rw[mj e]
     | false=>intro e;cases e
    ·right
     revert e
     cases (aboveR (boundedN s j) (Fm.scaleR (atZ (boundedN s j).q.g.units (j:Int)) Q.mone)).2.2 with
     | true=>intro e;rw[mj e]
     | false=>intro e;cases e
  refine⟨fun m hm=>⟨(h4.lems m hm).up h4.b9,?_⟩,?_⟩
  ·rcases mem m hm with e | e | e
   ·exact (h1 m e).proof
   ·rw[e];exact⟨fun z hz=>(a2 z hz).up (by decide),a3⟩
   ·rw[e];exact⟨fun z hz=>(b2 z hz).up (by decide),b3⟩
  ·show (addLm _ _ _ _).length≤_;unfold addLm;rw[List.length_append,List.length_append];have:∀(b:Bool) (x:Lm),(bif b then [x] else []).length≤1:=fun b x=>by cases b<;>simp
   have t1:=this (aboveR (boundedN s j) (atZ (boundedN s j).q.g.units (j:Int))).2.2 ⟨(j:Int),false,(aboveR (boundedN s j) (atZ (boundedN s j).q.g.units (j:Int))).1,(aboveR (boundedN s j) (atZ (boundedN s j).q.g.units (j:Int))).2.1⟩;have t2:=this (aboveR (boundedN s j) (Fm.scaleR (atZ (boundedN s j).q.g.units (j:Int)) Q.mone)).2.2 ⟨(j:Int),true,(aboveR (boundedN s j) (Fm.scaleR (atZ (boundedN s j).q.g.units (j:Int)) Q.mone)).1.neg',(aboveR (boundedN s j) (Fm.scaleR (atZ (boundedN s j).q.g.units (j:Int)) Q.mone)).2.1⟩;omega
theorem grow_good {a b:Nat}:∀(k:Nat) {s:Sc} {root:Bool},GrowOk a b k s→(∀m∈s.lems,LmOk m)→s.lems.length+2*s.q.g.units.length≤100→s.q.goal.S 3 8→Nd.Good k (growR k s root).1
 | 0,s,root,h,hl,h9,hg=>by
  have hv:∀j,j≤s.q.g.units.length→(boundedN s j).Va a b:=h;obtain⟨h1,h2⟩:=bd_lm hv hl s.q.g.units.length (nr _);obtain⟨_,a2,a3⟩:=aboveR_S (hv _ (nr _)) hg;refine⟨fun m hm=>h1 m (List.mem_of_mem_drop hm),?_,fun z hz=>(a2 z hz).up (by decide),a3⟩;rw[List.length_drop];have:(boundedR s).lems.length≤_:=h2;omega
 | k+1,s,root,h,hl,h9,hg=>by
  refine⟨?_,?_,rfl,fun x hx=>?_⟩
  ·cases root with
   | true=>exact hl
   | false=>intro m hm;cases hm
  ·cases root with
   | true=>show s.lems.length≤100;omega
   | false=>exact nq _
  ·rcases List.mem_cons.1 hx with e | e
   ·rw[e];exact grow_good k h.1 hl h9 hg
   ·rw[mj e];exact grow_good k h.2.1 hl h9 hg
theorem grow_wf:∀(k:Nat) (s:Sc) (root:Bool),Nd.Wf k (growR k s root).1
 | 0,s,root=>⟨rfl,rfl⟩
 | k+1,s,root=>⟨rfl,rfl,Int.le_refl 1,(show (1:Int)≤4 by decide),_,_,rfl,grow_wf k _ _,grow_wf k _ _⟩
abbrev treeK (L:List Nat):Nat:=splitsQ L (queryQ L).1.g.units.length
theorem treeK_le (L:List Nat):treeK L≤2:=by
 unfold treeK splitsQ;split
 ·exact nt (Nat.min_le_left _ _) (by omega)
 ·exact nq _
theorem tree_good (L:List Nat):(treeQ L).Va 2∧(treeQ L).g.inputs+(treeQ L).g.units.length≤8∧(treeQ L).goal.S 100 8∧(treeN L).Wf (treeK L)∧(treeN L).Good (treeK L):=by
 obtain⟨q1,q2,q3,q4,q5⟩:=query_va L;obtain⟨v1,v2,v3,v4⟩:=tree_two L;obtain⟨t1,t2,t3⟩:=treeQ_same L;have hb:=bd_va v1 v2 (by rw[t1];exact q2) (by rw[t1];exact q5);obtain⟨l1,l2⟩:=bd_lm (s:=⟨treeQ L,[],[]⟩) hb (fun m hm=>by cases hm) (treeQ L).g.units.length (nr _);have hq:(scope1 (treeQ L)).q=treeQ L:=(scope1_q _).1;refine⟨v1.q,by rw[t1];omega,v4.up (by decide) (by decide),grow_wf _ _ _,grow_good _ v3 l1 ?_ (by rw[hq];exact v4)⟩;rw[hq,t1];have:(scope1 (treeQ L)).lems.length≤0+2*(treeQ L).g.units.length:=l2;rw[t1] at this;omega
theorem ent_all {k a:Nat} {n:Nd} {q:Qr} (hg:n.Good k) (hk:k≤8) (hq:q.Va a) (ha:1≤a) (ha2:a≤2) (h4:q.g.inputs+q.g.units.length≤8):∀x∈entR k n [] [],EnOk x∧x.lems.length≤1000∧EnOk (reduceR x)∧((reduceR x).sc q).Va a 8:=fun x hx=>by
 have h:=ent_good k n [] [] hg (fun m hm=>by cases hm) (fun d hd=>by cases hd) (by show 0+k≤100;omega) x hx;have h9:([]:List Lm).length+100*(k+1)≤1000:=by show 0+100*(k+1)≤1000;omega
 exact⟨h.ok,nt h.len h9,h.reduce.ok,h.reduce.va h9 hq ha ha2 h4⟩
abbrev TL:List Nat:=[35,37,138,200,224]
theorem p_awakeW:PCallsW LaidG Tryz.prog [] 8 [] (bP true):=⟨by kernel_rfl,fun w X us hw _ _ hr=>by
 obtain rfl:=PV.RepL.inv0 hr;exact (awake0 w hw).mono fun e w' ⟨he,G⟩=>⟨_,he,raw_to _,G⟩⟩
def zeQ:Qr:=⟨⟨0,[],[]⟩,⟨[],[],[]⟩,⟨[],Q.zero⟩⟩
set_option maxHeartbeats 8000000 in
theorem p_args1 {A:Option Addr} {k:Nat} {L:List Nat} (hl:∀y∈L,y < 256) (hn:L.length≤300):PCallsW (fun w=>LaidG w∧By ⟨A,L.length,k⟩ L w) Tryz.prog TL 7 [.raw (.slice A L.length k)] (bP true):=by
 obtain⟨g1,g2,g3,g4,g5⟩:=tree_good L;have hk:treeK L≤8:=nt (treeK_le L) (by decide);have hE:=ent_all g5 hk g1 (by decide) (by decide) g2;have he:=p_entries g4 g5.lim hk g1 g2 g3 hE;have hbad:=p_entriesB (n:=treeN L) g1 g2;have ht:=r_tree (A:=A) (k:=k) hl (by omega);have hz:=p_entriesZ (q:=zeQ) (n:=treeN L) rfl;have h0:=p_reuse0 g1 g2 he;have hbR:=fun o1 o2 o3 o4 o5 o6 o7=>p_reuseE (o1:=o1) (o2:=o2) (o3:=o3) (o4:=o4) (o5:=o5) (o6:=o6) (o7:=o7) hbad
 have hzR:=fun o1 o2 o3 o4 o5 o6 o7=>p_reuseE (o1:=o1) (o2:=o2) (o3:=o3) (o4:=o4) (o5:=o5) (o6:=o6) (o7:=o7) hz
 clear g3 g4 g5 hE hk he;generalize treeQ L=q at*;generalize treeN L=n at*;obtain⟨ls,d,ks,e,p⟩:=n;refine pcW [39,46,46,58,61,61,61] (by kernel_rfl) Tryz.func7 rfl rfl (fun D hF hM hH=>?_);refine au ?_;refine rcw hM (fun _ G=>hH.1.gr G) (p_awakeW) Y Y Y Y Y Y Y ?_;refine qg 1 ?_;refine rn Y (pj Y ?_);refine pk (ps (pr0 (qg 1 ?_)));refine ro0 Y Y Y (fun hd=>opE_lenR Y Y Y hd) ?_;refine akF (c:=by exact (show _=false from df (by omega))) ?_;refine au ?_;refine rcw hM (fun _=>hH.2.gr) (ht) Y Y Y Y Y Y Y ?_;refine au ?_;refine rcw hM (fun _ G=>hH.1.gr G) (hz) Y Y Y Y Y Y Y ?_;refine au ?_;refine rcw hM (fun _ G=>hH.1.gr G) (hbad) Y Y Y Y Y Y Y ?_;refine au ?_;refine rcw hM (fun _ G=>hH.1.gr G) (hzR 0 0 false false 0 10 0) Y Y Y Y Y Y Y ?_;refine au ?_;refine rcw hM (fun _ G=>hH.1.gr G) (hbR 0 0 false false 0 10 0) Y Y Y Y Y Y Y ?_;refine au ?_;refine rcw hM (fun _ G=>hH.1.gr G) (h0) Y Y Y Y Y Y Y ?_;refine akT (c:=by exact (show _=true from rfl)) ?_;refine akT (c:=by exact (show _=true from rfl)) ?_;refine akT (c:=by exact (show _=true from rfl)) ?_;refine akT (c:=by exact (show _=true from rfl)) ?_;refine akT (c:=by exact (show _=true from rfl)) ?_;exact ar (c:=rfl)
set_option maxHeartbeats 8000000 in
theorem p_args2 {A:Option Addr} {n k:Nat} (hn:300 < n):PCallsW LaidG Tryz.prog TL 7 [.raw (.slice A n k)] (bP true):=by
 refine pcW [39,46,46,58,61,61,61] (by kernel_rfl) Tryz.func7 rfl rfl (fun D hF hM hH=>?_);refine au ?_;refine rcw hM (fun _ G=>hH.gr G) (p_awakeW) Y Y Y Y Y Y Y ?_;refine qg 1 ?_;refine rn Y (pj Y ?_);refine pk (ps (pr0 (qg 1 ?_)));refine ro0 Y Y Y (fun hd=>opE_lenR Y Y Y hd) ?_;refine akT (c:=by exact (show _=true from dt (by omega))) ?_;exact ar (c:=rfl)
theorem bytes_len {k:IntKind} {w:World} {a:Option Addr} {len cap:Nat} {zs:List Int} (h:IsRow k w a len cap zs):(bytesOf zs len).length=len:=by
 unfold bytesOf;rw[List.length_map,h.lens]
theorem PCallsW.in1 {H:World→Prop} {P:Program} {T:List Nat} {f:FuncId} {args:List PV} {b:Bool} (h:PCallsW H P T f args (bP b)) {w:World} (hw:H w) {us:List Value} (hr:PV.RepL w NoX args us):Calls P f us.toArray w fun e w'=>e=.returned (.bool b)∧Below w.heap.size w w':=
 (h.2 w NoX us hw (fun _ h=>h.elim) (fun _ _ _ _ h=>h.elim) hr).mono fun e w' ⟨v,he,hv,G⟩=>⟨by rw[he,raw_inv hv],G.below⟩
theorem law_args_in (w:World) (hw:LaidG w) (a0:Option Addr) (len0 cap0:Nat) (zs0:List Int) (h0:IsRow .u8 w a0 len0 cap0 zs0):
  Calls Tryz.prog 7 #[.slice a0 len0 cap0] w fun e w'=>e=.returned (.bool true)∧Below w.heap.size w w':=by
 have hr:PV.RepL w NoX [.raw (.slice a0 len0 cap0)] [.slice a0 len0 cap0]:=PV.RepL.cons (raw_to _) PV.RepL.nil;rcases Nat.lt_or_ge 300 len0 with h | h
 ·exact (p_args2 h).in1 hw hr
 ·have hl:=bytes_len h0;have hp:=p_args1 (A:=a0) (k:=cap0) h0.lim (by omega);rw[hl] at hp;exact hp.in1 ⟨hw,h0.is⟩ hr
end Go.Proofs.YtbhbainhmfjpdaaGreatDoor
