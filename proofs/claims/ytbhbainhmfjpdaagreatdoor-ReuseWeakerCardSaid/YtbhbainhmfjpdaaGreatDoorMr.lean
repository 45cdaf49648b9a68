/- Walks of the search and of what it calls, part 18. -/
import Derived.Test.YtbhbainhmfjpdaaGreatDoorMp
import Derived.Test.YtbhbainhmfjpdaaGreatDoorMq
set_option linter.unusedVariables false
set_option linter.unusedSimpArgs false
set_option maxRecDepth 100000
set_option maxHeartbeats 8000000
namespace Go.Proofs.YtbhbainhmfjpdaaGreatDoor
open Go.RowKit
theorem splits_of {L:List Nat} {n:Nat} (h:0 < L.length):(if (n:Int) < IntKind.wrap .i64 (((atZ L ((L.length - 1:Nat):Int):Nat):Int).tmod 3) then (n:Int) else IntKind.wrap .i64 (((atZ L ((L.length - 1:Nat):Int):Nat):Int).tmod 3))=(splitsQ L n:Int):=by
 have e:IntKind.wrap .i64 (((atZ L ((L.length - 1:Nat):Int):Nat):Int).tmod 3)=((atZ L ((L.length - 1:Nat):Int) % 3:Nat):Int):=by
  generalize atZ L ((L.length - 1:Nat):Int)=b;have:((b:Int).tmod 3)=((b % 3:Nat):Int):=by rw[Int.tmod_eq_emod_of_nonneg om];omega
  rw[this,i64_wrap om om]
 rw[e];unfold splitsQ;rw[if_pos h];split<;>omega
theorem splits_0 {L:List Nat} {n:Nat} (h:L.length=0):(0:Int)=(splitsQ L n:Int):=by
 unfold splitsQ;rw[if_neg om];rfl
theorem bd_va {q:Qr} (h:(⟨q,[],[]⟩:Sc).Va 2 3) (hz:(⟨q,[],[]⟩:Sc).Dz 4 32) (hu:∀p∈q.g.units,p.Dz (q.g.inputs+q.g.units.length) 16) (u4:q.g.units.length≤4):∀j,j≤q.g.units.length→(boundedN ⟨q,[],[]⟩ j).Va 2 3:=fun j hj=>by
 have n1:=nums1 q.g.units.length om j om;exact (bounded_dz (s:=⟨q,[],[]⟩) h (nq _) hz hu dx j hj n1.1 n1.2).1
theorem dz_vars {f:Fm} {n M:Nat} (h:f.Dz n M) (hn:n≤1000):∀t∈f.terms,0≤t.1∧t.1≤1000:=fun t ht=>by
 have:=(h.each t ht).2;omega
theorem goal3 (L:List Nat):(queryQ L).1.goal.S 3 8:=by
 obtain⟨q1,q2,q3,q4,q5⟩:=query_va L;refine⟨q1.goal.cn,fun t ht=>rz_S (q1.goal.each t ht).ok (q3.each t ht).1 dx dx dx,rz_S q1.goal.const.ok q3.const dx dx dx,nt q1.goal.len om⟩
theorem r_tree {A:Option Addr} {k:Nat} {L:List Nat} (hl:∀y∈L,y < 256) (hn:L.length≤1000):PCallsW (By ⟨A,L.length,k⟩ L) Tryz.prog TQ 9 [.raw (.slice A L.length k)] (.tup [qyP (treeQ L),ndP (treeN L)]):=by
 obtain⟨q1,q2,q3,q4,q5⟩:=query_va L;obtain⟨s1,s2⟩:=scope_va L;obtain⟨g1,g2,g3⟩:=tree_one L;obtain⟨v1,v2,v3,v4⟩:=tree_two L;obtain⟨t1,t2,t3⟩:=treeQ_same L;have hi:=r_instance (x:=⟨A,L.length,k⟩) hl hn;have hsp:=splits_le L (queryQ L).1.g.units.length;have hb1:=r_bounded (s:=⟨(queryQ L).1,[],[]⟩) (bd_va s1 s2 q2 q5) (fun p hp=>dz_vars (q2 p hp) om);have hg1:=r_growT (k:=splitsQ L (queryQ L).1.g.units.length) om g1 (by rw[(scope1_q _).1];exact fun p hp=>dz_vars (q2 p hp) om) (by rw[(scope1_q _).1];exact goal3 L) (by rw[(scope1_q _).1];exact dz_vars q3 om);have hb2:=r_bounded (s:=⟨treeQ L,[],[]⟩) (bd_va v1 v2 (by rw[t1];exact q2) (by rw[t1];exact q5)) (by show ∀p∈(treeQ L).g.units,_;rw[t1];exact fun p hp=>dz_vars (q2 p hp) om);have hg2:=r_growT (k:=splitsQ L (queryQ L).1.g.units.length) om v3 (by rw[(scope1_q _).1,t1];exact fun p hp=>dz_vars (q2 p hp) om) (by rw[(scope1_q _).1];exact v4) (by rw[(scope1_q _).1,t3];exact dz_vars q3 om);have hc:(queryQ L).1.goal.const.S 100:=q1.goal.const;have hq2:treeQ L=(bif decide (sgQ (growR (splitsQ L (queryQ L).1.g.units.length) (scope1 (queryQ L).1) true).2 < 0) then (queryQ L).1.raise (growR (splitsQ L (queryQ L).1.g.units.length) (scope1 (queryQ L).1) true).2 else (queryQ L).1):=rfl;unfold treeN;change PCalls _ _ _ _ (scP (scope1 (queryQ L).1)) at hb1;change PCalls _ _ _ _ (scP (scope1 (treeQ L))) at hb2;clear q1 q2 q3 s1 s2 g1 g3 v1 v2 v3 v4 t1 t2 t3;generalize treeQ L=q' at*;generalize (queryQ L).1=q at*;generalize scope1 q=sc1 at*;generalize scope1 q'=sc2 at*;generalize growR (splitsQ L q.g.units.length) sc1 true=G1 at*;generalize growR (splitsQ L q.g.units.length) sc2 true=G2 at*;obtain⟨⟨l1,d1,k1,e1,p1⟩,w1⟩:=G1;obtain⟨⟨l2,d2,k2,e2,p2⟩,w2⟩:=G2;simp only at*;refine pcW [39,46] (by kernel_rfl) Tryz.func9 rfl rfl (fun D hF hM hH=>?_);refine pa Y Y ?_
 apply pcutP (sl:=[(2,_),(3,_),(4,_),(0,_)]) (rs:=[(2,_),(3,_),(4,_)]) [39,46,35] (True)
 case h1=>
  refine au ?_;refine rcw hM (fun _=>hH.gr) (hi) Y Y Y Y Y Y Y ?_;refine au ?_;refine⟨?_,trivial⟩;refine Sub.of ?_ ?_ ?_
  ·exact (c4 Y Y Y Y trivial)
  ·exact (c3 Y Y Y trivial)
  ·rfl
 case h2=>
  intro _;refine pa Y Y ?_
  apply pcutP (sl:=[(2,_),(3,_),(4,_),(5,.pv (iP ((splitsQ L q.g.units.length:Nat):Int)))]) (rs:=[(2,_),(3,_),(4,_)]) [39,46,35] (True)
  case h1=>
   refine pr0 (qg 1 ?_);refine ro0 Y Y Y (fun hd=>opE_lenR Y Y Y hd) ?_;refine a2 (fun e14=>?_) (fun e14=>?_)
   ·have h14:0 < L.length:=by have h:=of_decide_eq_true e14;omega
    have h18:ariO .sub .i64 (L.length:Int) 1=some ((L.length - 1:Nat):Int):=by exact ari_pred (dt om) om
    obtain⟨ad,hA,_⟩:=hH.at (show L.length - 1 < L.length by omega);simp only at hA;subst hA;have hc:∀w,Gr D.w0 w→w.cell? (ad.add (L.length - 1))=some (bv (atZ L ((L.length - 1:Nat):Int))):=fun w G=>by
     obtain⟨ad2,h1,h2⟩:=(hH.gr G).at (show L.length - 1 < L.length by omega);injection h1 with h1;subst h1;exact h2
    refine pr0' (qg 2 ?_);refine ro0 Y Y Y (fun hd=>opE_lenR Y Y Y hd) ?_;refine aa (c:=h18) ?_;refine ro0 Y Y Y (fun hd=>opE_idxR (i:=L.length - 1) Y Y Y Y Y om hd) ?_;refine ro0 Y Y Y (fun hd=>opE_loadR Y hM hc Y Y hd) ?_;refine ro0 Y Y Y (fun hd=>opE_rem Y Y Y dx hd) ?_;refine ro0 Y Y Y (fun hd=>opE_conv (ds:=.int .u8) (j:=.i64) Y Y (by kernel_rfl) (by kernel_rfl) hd) ?_;refine qg 4 ?_;refine ro0 Y Y Y (fun hd=>opE_min Y Y Y Y hd) ?_;refine au ?_;refine⟨?_,trivial⟩;refine Sub.of ?_ ?_ ?_
    ·exact (c3 Y Y Y (ai (congrArg (fun z=>some (SV.pv (iP z))) (by rw[List.length_map];exact splits_of h14)) trivial))
    ·exact (c3 Y Y Y trivial)
    ·rfl
   ·have h14:L.length=0:=by have h:=of_decide_eq_false e14;omega
    refine au ?_;refine⟨?_,trivial⟩;refine Sub.of ?_ ?_ ?_
    ·exact (c3 Y Y Y (ai (congrArg (fun z=>some (SV.pv (iP z))) (splits_0 h14)) trivial))
    ·exact (c3 Y Y Y trivial)
    ·rfl
  case h2=>
   intro _;refine ac (c:=hb1) ?_;refine ac (c:=hg1) ?_;refine qg 7 ?_;refine rn Y ?_
   apply pcutP (sl:=[(2,_),(3,_),(4,_),(5,_)]) (rs:=[(2,_),(3,_),(4,.box 39 [.pv (iP q'.g.inputs),.pv (formsP q'.g.units),.pv (formsP q'.g.outputs),.pv (ratsP q'.rg.lo),.pv (ratsP q'.rg.hi),.pv (formsP q'.rg.rows),.pv (termsP q'.goal.terms),.pv (bP q'.goal.const.neg),.pv (.nat q'.goal.const.num),.pv (.nat q'.goal.const.den)])]) [39,46,35] (True)
   case h1=>
    refine ac (c:=r_sign (g2.sm dx)) ?_;refine a2 (fun e38=>?_) (fun e38=>?_)
    ·refine ac (c:=r_sub (hc.sm dx) (g2.sm dx) hc.ok g2.neg.ok) ?_;refine au ?_;refine⟨?_,trivial⟩;refine Sub.of ?_ ?_ ?_
     ·exact (c4 Y Y Y Y trivial)
     ·exact (c2 Y Y (ai (congrArg (fun q:Qr=>some (Res.box 39 [.pv (iP q.g.inputs),.pv (formsP q.g.units),.pv (formsP q.g.outputs),.pv (ratsP q.rg.lo),.pv (ratsP q.rg.hi),.pv (formsP q.rg.rows),.pv (termsP q.goal.terms),.pv (bP q.goal.const.neg),.pv (.nat q.goal.const.num),.pv (.nat q.goal.const.den)])) (show q.raise w1=q' by rw[hq2,e38];rfl)) trivial))
     ·rfl
    ·refine au ?_;refine⟨?_,trivial⟩;refine Sub.of ?_ ?_ ?_
     ·exact (c4 Y Y Y Y trivial)
     ·exact (c2 Y Y (ai (congrArg (fun q:Qr=>some (Res.box 39 [.pv (iP q.g.inputs),.pv (formsP q.g.units),.pv (formsP q.g.outputs),.pv (ratsP q.rg.lo),.pv (ratsP q.rg.hi),.pv (formsP q.rg.rows),.pv (termsP q.goal.terms),.pv (bP q.goal.const.neg),.pv (.nat q.goal.const.num),.pv (.nat q.goal.const.den)])) (show q=q' by rw[hq2,e38];rfl)) trivial))
     ·rfl
   case h2=>
    intro _;refine ac (c:=hb2) ?_;refine ac (c:=hg2) ?_;exact ar (c:=rfl)
def Nd.Good:Nat→Nd→Prop
 | 0,.mk ls _ _ _ p=>(∀m∈ls,LmOk m)∧ls.length≤100∧PfOk p
 | k+1,.mk ls d ks _ _=>(∀m∈ls,LmOk m)∧ls.length≤100∧d.at_=Q.zero∧∀a∈ks,Nd.Good k a
theorem Nd.Good.lim:∀{k:Nat} {n:Nd},n.Good k→n.Lim k
 | 0,.mk ls d ks e p,h=>⟨h.2.1,nt h.2.2.len dx⟩
 | k+1,.mk ls d ks e p,h=>⟨h.2.1,fun a ha=>(h.2.2.2 a ha).lim⟩
structure EnG (x:En) (n:Nat):Prop where
 ok:EnOk x
 len:x.lems.length≤n
 at_:∀d∈x.path,d.at_=Q.zero
 path:x.path.length≤100
theorem opp_at (d:Dc):(oppD d).at_=d.at_:=by unfold oppD;cases decide (0 < d.kind)&&decide (d.kind < 5)<;>rfl
theorem ent_good:∀(k:Nat) (n:Nd) (path:List Dc) (lems:List Lm),n.Good k→(∀m∈lems,LmOk m)→(∀d∈path,d.at_=Q.zero)→path.length+k≤100→∀x∈entR k n path lems,EnG x (lems.length+100*(k+1))
 | 0,.mk ls d ks e p,path,lems,h,hl,hp,h9,x,hx=>by
  obtain rfl:=mj hx;refine⟨⟨fun m hm=>?_,h.2.2⟩,by show (lems++ls).length≤_;rw[List.length_append];have:=h.2.1;omega,hp,h9⟩;rcases List.mem_append.1 hm with e | e
  ·exact hl m e
  ·exact h.1 m e
 | k+1,.mk ls d ks e p,path,lems,h,hl,hp,h9,x,hx=>by
  obtain⟨h1,h2,h3,h4⟩:=h;have hl2:∀m∈lems++ls,LmOk m:=fun m hm=>by
   rcases List.mem_append.1 hm with e | e
   ·exact hl m e
   ·exact h1 m e
  match ks,hx with
  | [],hx=>cases hx
  | [_],hx=>cases hx
  | [a,b],hx=>
   have hp2:∀d':Dc,d'.at_=Q.zero→∀z∈path++[d'],z.at_=Q.zero:=fun d' hd z hz=>by
    rcases List.mem_append.1 hz with e | e
    ·exact hp z e
    ·rw[mj e];exact hd
   have key:EnG x ((lems++ls).length+100*(k+1)):=by
    rcases List.mem_append.1 (show x∈entR k a _ _++entR k b _ _ from hx) with e | e
    ·exact ent_good k a _ _ (h4 a (mf ..)) hl2 (hp2 d h3) (by rw[List.length_append];show path.length+1+k≤100;omega) x e
    ·exact ent_good k b _ _ (h4 b (List.mem_cons_of_mem _ (mf ..))) hl2 (hp2 _ ((opp_at d).trans h3)) (by rw[List.length_append];show path.length+1+k≤100;omega) x e
   refine⟨key.ok,nt key.len ?_,key.at_,key.path⟩;rw[List.length_append];omega
  | _::_::_::_,hx=>cases hx
theorem renM_S {to:List Int} {l:List Mm} (h:PfOk l):PfOk (l.map (renM to)):=by
 refine⟨fun m hm=>?_,by rw[List.length_map];exact h.len⟩;obtain⟨m',h1,rfl⟩:=List.mem_map.1 hm;exact h.each m' h1
theorem keep_mem {to:List Int}:∀{is:List Bool} {ls:List Lm},(∀m∈ls,LmOk m)→(∀m∈keepL to is ls,LmOk m)∧(keepL to is ls).length≤ls.length
 | [],ls,h=>⟨(fun m hm=>by cases ls<;>cases hm),nq _⟩
 | b::is,[],h=>⟨(fun m hm=>by cases hm),nq _⟩
 | b::is,m::ls,h=>by
  obtain⟨h1,h2⟩:=keep_mem (to:=to) (is:=is) (ls:=ls) fun z hz=>h z (List.mem_cons_of_mem _ hz)
  rw[keepL];cases b with
  | true=>
   refine⟨fun z hz=>?_,by rw[cond_true,List.length_cons,List.length_cons];omega⟩;rcases List.mem_cons.1 hz with e | e
   ·have:=h m (mf ..);rw[e];exact⟨this.value,renM_S this.proof⟩
   ·exact h1 z e
  | false=>exact⟨h1,by rw[cond_false,List.length_cons];omega⟩
theorem EnG.reduce {x:En} {n:Nat} (h:EnG x n):EnG (reduceR x) n:=by
 obtain⟨h1,h2⟩:=keep_mem (to:=numsR (marksR x.lems x.proof)) (is:=marksR x.lems x.proof) h.ok.lems;exact⟨⟨h1,renM_S h.ok.proof⟩,nt h2 h.len,h.at_,h.path⟩
theorem EnG.va {x:En} {n a:Nat} {q:Qr} (h:EnG x n) (hn:n≤1000) (hq:q.Va a) (ha:1≤a) (ha2:a≤2) (h4:q.g.inputs+q.g.units.length≤8):(x.sc q).Va a 8:=
 ⟨hq,fun d hd=>by rw[h.at_ d hd];exact sz_zero.up ha,nt h.path dx,fun m hm=>(h.ok.lems m hm).value,nt h.len hn,by decide,by decide,ha2,h4⟩
theorem bd_lm {s:Sc} {a b:Nat} (hv:∀j,j≤s.q.g.units.length→(boundedN s j).Va a b) (hl:∀m∈s.lems,LmOk m):∀j,j≤s.q.g.units.length→(∀m∈(boundedN s j).lems,LmOk m)∧(boundedN s j).lems.length≤s.lems.length+2*j
 | 0,_=>⟨hl,nr _⟩
 | j+1,hj=>by
  obtain⟨h1,h2⟩:=bd_lm hv hl j om;have h3:=hv j om;have h4:=hv (j+1) hj;have hq:(boundedN s j).q=s.q:=(bounded_q s j).1;have hm:atZ (boundedN s j).q.g.units (j:Int)∈(boundedN s j).q.g.units:=atZ_mem om (by rw[hq];omega);have hp:(atZ (boundedN s j).q.g.units (j:Int)).S 2 8:=(h3.q.us _ hm).up h3.a9 h3.n9;obtain⟨_,a2,a3⟩:=aboveR_S h3 (hp.up (t:=3) (m:=8) dx dx);obtain⟨_,b2,b3⟩:=aboveR_S h3 ((hp.scaleR sz_mone).up (t:=3) (m:=8) dx dx);have mem:∀m∈(boundedN s (j+1)).lems,m∈(boundedN s j).lems∨m.proof=(aboveR (boundedN s j) (atZ (boundedN s j).q.g.units (j:Int))).2.1∨m.proof=(aboveR (boundedN s j) (Fm.scaleR (atZ (boundedN s j).q.g.units (j:Int)) Q.mone)).2.1:=fun m hm=>by
   have hm':m∈addLm _ _ _ _:=hm;unfold addLm at hm';rcases List.mem_append.1 hm' with e | e
   ·exact .inl e
   ·right
    rcases List.mem_append.1 e with e | e
    ·left
     revert e
     cases (aboveR (boundedN s j) (atZ (boundedN s j).q.g.units (j:Int))).2.2 with
     | true=>intro e;rw[mj e]
     | false=>intro e;cases e
    ·right
     revert e
     cases (aboveR (boundedN s j) (Fm.scaleR (atZ (boundedN s j).q.g.units (j:Int)) Q.mone)).2.2 with
     | true=>intro e;rw[mj e]
     | false=>intro e;cases e
  refine⟨fun m hm=>⟨(h4.lems m hm).up h4.b9,?_⟩,?_⟩
  ·rcases mem m hm with e | e | e
   ·exact (h1 m e).proof
   ·rw[e];exact⟨fun z hz=>(a2 z hz).up dx,a3⟩
   ·rw[e];exact⟨fun z hz=>(b2 z hz).up dx,b3⟩
  ·show (addLm _ _ _ _).length≤_;unfold addLm;rw[List.length_append,List.length_append];have:∀(b:Bool) (x:Lm),(bif b then [x] else []).length≤1:=fun b x=>by cases b<;>simp
   have t1:=this (aboveR (boundedN s j) (atZ (boundedN s j).q.g.units (j:Int))).2.2 ⟨(j:Int),false,(aboveR (boundedN s j) (atZ (boundedN s j).q.g.units (j:Int))).1,(aboveR (boundedN s j) (atZ (boundedN s j).q.g.units (j:Int))).2.1⟩;have t2:=this (aboveR (boundedN s j) (Fm.scaleR (atZ (boundedN s j).q.g.units (j:Int)) Q.mone)).2.2 ⟨(j:Int),true,(aboveR (boundedN s j) (Fm.scaleR (atZ (boundedN s j).q.g.units (j:Int)) Q.mone)).1.neg',(aboveR (boundedN s j) (Fm.scaleR (atZ (boundedN s j).q.g.units (j:Int)) Q.mone)).2.1⟩;omega
theorem grow_good {a b:Nat}:∀(k:Nat) {s:Sc} {root:Bool},GrowOk a b k s→(∀m∈s.lems,LmOk m)→s.lems.length+2*s.q.g.units.length≤100→s.q.goal.S 3 8→Nd.Good k (growR k s root).1
 | 0,s,root,h,hl,h9,hg=>by
  have hv:∀j,j≤s.q.g.units.length→(boundedN s j).Va a b:=h;obtain⟨h1,h2⟩:=bd_lm hv hl s.q.g.units.length (nr _);obtain⟨_,a2,a3⟩:=aboveR_S (hv _ (nr _)) hg;refine⟨fun m hm=>h1 m (List.mem_of_mem_drop hm),?_,fun z hz=>(a2 z hz).up dx,a3⟩;rw[List.length_drop];have:(boundedR s).lems.length≤_:=h2;omega
 | k+1,s,root,h,hl,h9,hg=>by
  refine⟨?_,?_,rfl,fun x hx=>?_⟩
  ·cases root with
   | true=>exact hl
   | false=>intro m hm;cases hm
  ·cases root with
   | true=>show s.lems.length≤100;omega
   | false=>exact nq _
  ·rcases List.mem_cons.1 hx with e | e
   ·rw[e];exact grow_good k h.1 hl h9 hg
   ·rw[mj e];exact grow_good k h.2.1 hl h9 hg
theorem grow_wf:∀(k:Nat) (s:Sc) (root:Bool),Nd.Wf k (growR k s root).1
 | 0,s,root=>⟨rfl,rfl⟩
 | k+1,s,root=>⟨rfl,rfl,Int.le_refl 1,(show (1:Int)≤4 by decide),_,_,rfl,grow_wf k _ _,grow_wf k _ _⟩
abbrev treeK (L:List Nat):Nat:=splitsQ L (queryQ L).1.g.units.length
theorem treeK_le (L:List Nat):treeK L≤2:=by
 unfold treeK splitsQ;split
 ·exact nt (Nat.min_le_left _ _) om
 ·exact nq _
theorem tree_good (L:List Nat):(treeQ L).Va 2∧(treeQ L).g.inputs+(treeQ L).g.units.length≤8∧(treeQ L).goal.S 100 8∧(treeN L).Wf (treeK L)∧(treeN L).Good (treeK L):=by
 obtain⟨q1,q2,q3,q4,q5⟩:=query_va L;obtain⟨v1,v2,v3,v4⟩:=tree_two L;obtain⟨t1,t2,t3⟩:=treeQ_same L;have hb:=bd_va v1 v2 (by rw[t1];exact q2) (by rw[t1];exact q5);obtain⟨l1,l2⟩:=bd_lm (s:=⟨treeQ L,[],[]⟩) hb (fun m hm=>by cases hm) (treeQ L).g.units.length (nr _);have hq:(scope1 (treeQ L)).q=treeQ L:=(scope1_q _).1;refine⟨v1.q,by rw[t1];omega,v4.up dx dx,grow_wf _ _ _,grow_good _ v3 l1 ?_ (by rw[hq];exact v4)⟩;rw[hq,t1];have:(scope1 (treeQ L)).lems.length≤0+2*(treeQ L).g.units.length:=l2;rw[t1] at this;omega
theorem ent_all {k a:Nat} {n:Nd} {q:Qr} (hg:n.Good k) (hk:k≤8) (hq:q.Va a) (ha:1≤a) (ha2:a≤2) (h4:q.g.inputs+q.g.units.length≤8):∀x∈entR k n [] [],EnOk x∧x.lems.length≤1000∧EnOk (reduceR x)∧((reduceR x).sc q).Va a 8:=fun x hx=>by
 have h:=ent_good k n [] [] hg (fun m hm=>by cases hm) (fun d hd=>by cases hd) (by show 0+k≤100;omega) x hx;have h9:([]:List Lm).length+100*(k+1)≤1000:=by show 0+100*(k+1)≤1000;omega
 exact⟨h.ok,nt h.len h9,h.reduce.ok,h.reduce.va h9 hq ha ha2 h4⟩
theorem spN_wf:∀(k:Nat) (n:Nd) (u:Nat),n.Wf k→(spN k n u).Wf k
 | 0,.mk ls d ks e p,u,h=>by
  obtain⟨rfl,rfl⟩:=h;rw[spN];cases decide (0 < (p.length:Int))&&decide (((u % 4:Nat):Int) < 2) with
  | true=>exact⟨rfl,rfl⟩
  | false=>cases decide (0 < (ls.length:Int))<;>exact⟨rfl,rfl⟩
 | k+1,.mk ls d ks e p,u,h=>by
  obtain⟨rfl,rfl,h1,h2,a,b,rfl,ha,hb⟩:=h;rw[spN];rcases Nat.mod_two_eq_zero_or_one u with e | e
  ·rw[e];exact⟨rfl,rfl,h1,h2,_,_,rfl,spN_wf k a _ ha,hb⟩
  ·rw[e];exact⟨rfl,rfl,h1,h2,_,_,rfl,ha,spN_wf k b _ hb⟩
def Nd.Tight:Nat→Nd→Prop
 | 0,.mk ls _ _ _ p=>(∀m∈ls,m.value.S 6)∧∀m∈p,m.2.S 490
 | k+1,.mk _ _ ks _ _=>∀a∈ks,Nd.Tight k a
theorem spN_good:∀(k:Nat) (n:Nd) (u:Nat),n.Good k→n.Tight k→(spN k n u).Good k
 | 0,.mk ls d ks e p,u,⟨h1,h2,h3⟩,⟨t1,t2⟩=>by
  have hc:=spC_S u;rw[spN];cases e1:decide (0 < (p.length:Int))&&decide (((u % 4:Nat):Int) < 2) with
  | true=>
   rw[be] at e1;have hp0:0 < p.length:=by have:=of_decide_eq_true e1.1;omega
   have hm:=t2 _ (mg (get_of (Nat.mod_lt (u / 4) hp0)));refine⟨h1,h2,fun m hm'=>?_,by rw[spM,List.length_set];exact h3.len⟩;rcases List.mem_or_eq_of_mem_set hm' with e | e
   ·exact h3.each m e
   ·rw[e];exact (hm.add hc).up dx
  | false=>
   cases e2:decide (0 < (ls.length:Int)) with
   | true=>
    have hp0:0 < ls.length:=by have:=of_decide_eq_true e2;omega
    have hg:=mg (get_of (Nat.mod_lt (u / 4) hp0));refine⟨fun m hm'=>?_,by rw[spL,List.length_set];exact h2,h3⟩;rcases List.mem_or_eq_of_mem_set hm' with e | e
    ·exact h1 m e
    ·rw[e];exact⟨((t1 _ hg).add hc).up dx,(h1 _ hg).proof⟩
   | false=>exact⟨h1,h2,h3⟩
 | k+1,.mk ls d ks e p,u,⟨h1,h2,h3,h4⟩,t=>by
  rw[spN];cases e:ks[u % 2]? with
  | none=>exact⟨h1,h2,h3,h4⟩
  | some c=>
   have hc:=mg e;refine⟨h1,h2,h3,fun a ha=>?_⟩;rcases List.mem_or_eq_of_mem_set ha with e | e
   ·exact h4 a e
   ·rw[e];exact spN_good k c _ (h4 c hc) (t c hc)
theorem grow_tight {a b:Nat} (hb:b≤6):∀(k:Nat) {s:Sc} {root:Bool},GrowOk a b k s→s.q.goal.S 3 8→Nd.Tight k (growR k s root).1
 | 0,s,root,h,hg=>by
  have hv:∀j,j≤s.q.g.units.length→(boundedN s j).Va a b:=h;have h4:=hv s.q.g.units.length (nr _);obtain⟨_,a2,_⟩:=aboveR_S h4 hg;exact⟨fun m hm=>(h4.lems m (List.mem_of_mem_drop hm)).up hb,fun z hz=>(a2 z hz).up dx⟩
 | k+1,s,root,h,hg=>fun x hx=>by
  rcases List.mem_cons.1 hx with e | e
  ·rw[e];exact grow_tight hb k h.1 hg
  ·rw[mj e];exact grow_tight hb k h.2.1 hg
theorem tree_tight (L:List Nat):(treeN L).Tight (treeK L):=by
 obtain⟨v1,v2,v3,v4⟩:=tree_two L;have hq:(scope1 (treeQ L)).q=treeQ L:=(scope1_q _).1;exact grow_tight dx _ v3 (by rw[hq];exact v4)
theorem isg_ge {q:Q} (h:0≤q.r):0≤sgQ q:=by
 apply Classical.byContradiction
 intro hc;obtain⟨h1,h2⟩:=isg_neg hc;have:=r_pos (q:=⟨false,q.num,q.den⟩) rfl h2;have e:q.r=-(Q.r ⟨false,q.num,q.den⟩):=by
  unfold Q.r;rw[h1];simp only[sgnR,cond_false,cond_true,Q.un]
  grind
 grind
theorem ge_isg {q:Q} (h:0≤sgQ q):0≤q.r:=by
 rcases Nat.eq_zero_or_pos q.num with h0 | h0
 ·rw[num0_r h0];grind
 ·cases hn:q.neg with
  | false=>have:=r_pos hn h0;grind
  | true=>
   exfalso
   unfold sgQ isg at h;rw[if_neg om,hn] at h;simp at h
def Qr.more (q:Qr) (c:Q):Qr:=⟨q.g,q.rg,⟨q.goal.terms,Q.add q.goal.const c⟩⟩
theorem proves_more {s:Sc} {f:Fm} {l:List Mm} {c:Q} (hc:0≤c.r) (h:provesR s f l=true):provesR s ⟨f.terms,Q.add f.const c⟩ l=true:=by
 unfold provesR at h ⊢;cases e:(sumR s l).2 != 0 with
 | true=>rw[e] at h;cases h
 | false=>
  rw[e] at h;simp only[cond_false,be,de] at h ⊢;refine⟨h.1,isg_ge ?_⟩;have h2:=ge_isg h.2;rw[sub_const_r] at h2 ⊢;show 0≤(Q.add f.const c).r - _;rw[Q.add_r]
  grind
theorem form_goal (g:Gm) (rg:Rgm) (f f':Fm) (path:List Dc) (lems:List Lm) (r:Rw):formR ⟨⟨g,rg,f⟩,path,lems⟩ r=formR ⟨⟨g,rg,f'⟩,path,lems⟩ r:=rfl
theorem sumGo_goal (g:Gm) (rg:Rgm) (f f':Fm) (path:List Dc) (lems:List Lm):∀(l:List Mm) (acc:Fm),sumGo ⟨⟨g,rg,f⟩,path,lems⟩ l acc=sumGo ⟨⟨g,rg,f'⟩,path,lems⟩ l acc
 | [],acc=>rfl
 | m::l,acc=>by
  rw[sumGo,sumGo,form_goal g rg f f' path lems];simp only[sumGo_goal g rg f f' path lems l]
theorem sum_goal (g:Gm) (rg:Rgm) (f f':Fm) (path:List Dc) (lems:List Lm) (l:List Mm):sumR ⟨⟨g,rg,f⟩,path,lems⟩ l=sumR ⟨⟨g,rg,f'⟩,path,lems⟩ l:=by
 unfold sumR;rw[sumGo_goal g rg f f' path lems]
theorem proves_goal (g:Gm) (rg:Rgm) (f f':Fm) (path:List Dc) (lems:List Lm) (x:Fm) (l:List Mm):provesR ⟨⟨g,rg,f⟩,path,lems⟩ x l=provesR ⟨⟨g,rg,f'⟩,path,lems⟩ x l:=by
 unfold provesR;rw[sum_goal g rg f f' path lems]
theorem refutes_goal (g:Gm) (rg:Rgm) (f f':Fm) (path:List Dc) (lems:List Lm) (l:List Mm):refutesR ⟨⟨g,rg,f⟩,path,lems⟩ l=refutesR ⟨⟨g,rg,f'⟩,path,lems⟩ l:=by
 unfold refutesR;rw[sum_goal g rg f f' path lems]
theorem scope_goal (g:Gm) (rg:Rgm) (f f':Fm) (path:List Dc) (lems:List Lm):scopeR ⟨⟨g,rg,f⟩,path,lems⟩=scopeR ⟨⟨g,rg,f'⟩,path,lems⟩:=by
 have h:badL ⟨⟨g,rg,f⟩,path,lems⟩=badL ⟨⟨g,rg,f'⟩,path,lems⟩:=funext fun i=>by
  unfold badL lemmaR;simp only[proves_goal g rg f f' path];rfl
 unfold scopeR;rw[h];rfl
theorem applies_more {q:Qr} {x:En} {c:Q} (hc:0≤c.r) (h:appliesR q x=true):appliesR (q.more c) x=true:=by
 obtain⟨g,rg,f⟩:=q;unfold appliesR at h ⊢;unfold En.sc Qr.more at*;simp only at h ⊢;rw[scope_goal g rg _ f,refutes_goal g rg _ f,proves_goal g rg _ f];rw[be] at h ⊢;refine⟨h.1,?_⟩;obtain⟨_,h⟩:=h;cases e:x.empty with
 | true=>rw[e] at h;exact h
 | false=>rw[e] at h;exact proves_more hc h
theorem kept_more {q:Qr} {c:Q} (hc:0≤c.r) (l:List En):(keptR q l).Sublist (keptR (q.more c) l):=by
 unfold keptR;generalize l.map reduceR=l
 induction l with
 | nil=>exact List.Sublist.refl _
 | cons x l ih=>
  rw[List.filter_cons,List.filter_cons];cases h:appliesR q x with
  | true=>rw[applies_more hc h];exact ih.cons_cons x
  | false=>
   cases appliesR (q.more c) x with
   | true=>exact ih.cons x
   | false=>exact ih
theorem eqL_refl {α:Type} [Inhabited α] {f:α→α→Bool} (h:∀x,f x x=true) (l:List α):eqL f l l=true:=by
 unfold eqL;rw[beq_self_eq_true,Bool.true_and,List.all_eq_true];exact fun i _=>h _
theorem mmEq_refl (x:Mm):mmEq x x=true:=by unfold mmEq;rw[rowEq_eq];simp
theorem lmEq_refl (x:Lm):lmEq x x=true:=by unfold lmEq;rw[eqL_refl mmEq_refl];simp
theorem dcEq_refl (x:Dc):dcEq x x=true:=by rw[dcEq_eq];simp
theorem enEq_refl (x:En):enEq x x=true:=by unfold enEq;rw[eqL_refl dcEq_refl,eqL_refl lmEq_refl,eqL_refl mmEq_refl];simp
theorem eqL_one (x y:En):eqL enEq [x] [y]=enEq x y:=by
 show (true&&(enEq x y&&true))=_;simp
theorem sub_step {a b:List En} {k i:Nat} (hk:k < a.length) (hi:i < b.length) (h:(a.drop k).Sublist (b.drop i)):(enEq (atZ a (k:Int)) (atZ b (i:Int))=true→(a.drop (k+1)).Sublist (b.drop (i+1)))∧(enEq (atZ a (k:Int)) (atZ b (i:Int))=false→(a.drop k).Sublist (b.drop (i+1))):=by
 have ea:a.drop k=atZ a (k:Int)::a.drop (k+1):=by rw[atZ_nat (ge hk),List.drop_eq_getElem_cons hk]
 have eb:b.drop i=atZ b (i:Int)::b.drop (i+1):=by rw[atZ_nat (ge hi),List.drop_eq_getElem_cons hi]
 rw[ea,eb] at h;generalize a.drop (k+1)=as' at*;generalize b.drop (i+1)=bs at*;generalize atZ a (k:Int)=x at*;generalize atZ b (i:Int)=y at*;rw[ea];cases h with
 | cons _ h=>exact⟨fun _=>(List.sublist_cons_self x as').trans h,fun _=>h⟩
 | cons_cons _ h=>exact⟨fun _=>h,fun e=>by rw[enEq_refl] at e;cases e⟩
theorem sub_end {a b:List En} {k i:Nat} (hk:k≤a.length) (hi:b.length≤i) (h:(a.drop k).Sublist (b.drop i)):k=a.length:=by
 rw[List.drop_of_length_le hi] at h;have:=List.sublist_nil.1 h;have:=congrArg List.length this;rw[List.length_drop] at this;simp at this;omega
abbrev TL:List Nat:=[35,37,138,200,224]
theorem p_awakeW:PCallsW LaidG Tryz.prog [] 8 [] (bP true):=⟨by kernel_rfl,fun w X us hw _ _ hr=>by
 obtain rfl:=PV.RepL.inv0 hr;exact (awake0 w hw).mono fun e w' ⟨he,G⟩=>⟨_,he,raw_to _,G⟩⟩
theorem r_spN:∀(k:Nat) (n:Nd) (u:Nat),n.Wf k→n.Good k→n.Tight k→u < 65536→PCalls Tryz.prog TU 11 [ndP n,.raw (.int .u16 (u:Int))] (ndP (spN k n u))
 | 0,.mk ls d ks e p,u,⟨_,h2⟩,g,t,hu=>by
  subst h2;exact r_spL hu (fun m hm=>(t.2 m hm).up dx) (fun m hm=>(t.1 m hm).up dx) (nt g.2.2.len dx) (nt g.2.1 dx)
 | k+1,.mk ls d ks e p,u,⟨_,_,_,_,a,b,h3,ha,hb⟩,g,t,hu=>by
  subst h3;have g4:=g.2.2.2;rcases Nat.mod_two_eq_zero_or_one u with e1 | e1
  ·have hc:[a,b][u % 2]?=some a:=by rw[e1];rfl
   have:=r_spS (ls:=ls) (d:=d) (e:=e) (p:=p) rfl hc hu (r_spN k a (u / 2) ha (g4 a (mf ..)) (t a (mf ..)) om);rw[spN,hc];exact this
  ·have hc:[a,b][u % 2]?=some b:=by rw[e1];rfl
   have:=r_spS (ls:=ls) (d:=d) (e:=e) (p:=p) rfl hc hu (r_spN k b (u / 2) hb (g4 b (List.mem_cons_of_mem _ (mf ..))) (t b (List.mem_cons_of_mem _ (mf ..))) om);rw[spN,hc];exact this
theorem more_va {q:Qr} {c:Q} (h:q.Va 2) (h3:q.goal.S 3 8) (hc:c.S 1):(q.more c).Va 2∧(q.more c).goal.S 100 8:=by
 have h5:(Q.add q.goal.const c).S 100:=(h3.const.add hc).up dx;have k:∀n,q.goal.terms.length≤n→(q.more c).goal.S 100 n:=fun n hn=>⟨⟨h3.cn.srt,h3.cn.nz,Q.add_ok _ _⟩,fun t ht=>(h3.each t ht).up dx,h5,hn⟩
 exact⟨⟨h.g,h.us,h.rg,⟨h.ok.asc,h.ok.each,Q.add_ok _ _⟩,k _ h.goal.len⟩,k 8 h3.len⟩
def EnZ (x:En):Prop:=x.path.length≤1000000∧x.lems.length≤1000000∧(∀m∈x.lems,m.proof.length≤1000000)∧x.proof.length≤1000000
theorem EnZ.of {x:En} {q:Qr} {a b:Nat} (h:EnOk x) (k:(x.sc q).Va a b):EnZ x:=⟨nt k.p9 dx,nt k.l9 dx,fun m hm=>nt (h.lems m hm).proof.len dx,nt h.proof.len dx⟩
theorem kept_mem {q:Qr} {l:List En} {y:En} (h:y∈keptR q l):∃x∈l,reduceR x=y:=by
 unfold keptR at h;exact List.mem_map.1 (List.mem_filter.1 h).1
theorem slice_one {l:List En} {k:Nat} (hk:k < l.length):((l.map enC).take (k+1)).drop k=[enC (atZ l (k:Int))]:=by
 rw[← List.map_take,← List.map_drop,List.take_add_one,get_of hk,List.drop_append];simp[List.length_take,Nat.min_eq_left (Nat.le_of_lt hk)]
theorem same1 {xs ys:List (List PV)} {x y:En} (hx:xs=[enC x]) (hy:ys=[enC y]) (h:EnZ x):PCalls Tryz.prog [] 14 [.rows 77 10 enT xs,.rows 77 10 enT ys] (bP (enEq x y)):=by
 subst hx hy;have:=r_sameens [x] [y] (by show 1≤_;decide) (fun z hz=>by rw[mj hz];exact h);rw[eqL_one] at this;exact this
theorem p_weak1 {A0:Option Addr} {k0:Nat} {L:List Nat} {u m:Nat} (hl:∀y∈L,y < 256) (hn:L.length≤300) (hu:u < 65536) (hm:m < 256):PCallsW (fun w=>LaidG w∧By ⟨A0,L.length,k0⟩ L w) Tryz.prog TL 5 [.raw (.slice A0 L.length k0),.raw (.int .u16 (u:Int)),.raw (.int .u8 (m:Int))] (bP true):=by
 obtain⟨g1,g2,g3,g4,g5⟩:=tree_good L;have t4:=(tree_two L).2.2.2;have hk:treeK L≤8:=nt (treeK_le L) dx;have tt:=tree_tight L;have w5:=spN_wf _ _ u g4;have gd:=spN_good _ _ u g5 tt;have hs:=r_spN _ _ u g4 g5 tt hu;have hcS:(quot (decide ((m:Int) < 0)) (m:Int).natAbs 8).S 1:=quot_S _ (limbs_len_le (k:=1) (nk (show (m:Int).natAbs < 256 by omega) dx)) dx (limbs_len_le (k:=1) dx);have hc0:0≤(quot (decide ((m:Int) < 0)) (m:Int).natAbs 8).r:=by
  rw[show decide ((m:Int) < 0)=false from df om];rcases Nat.eq_zero_or_pos (m:Int).natAbs with h | h
  ·rw[quot_r _ _ dx,h,sgnR_zero];grind
  ·exact Rat.le_of_lt (r_pos (by unfold quot;split<;>rfl) (quot_num h))
 have hfr:=r_frac (m:Int) 8 om om dx dx;generalize quot (decide ((m:Int) < 0)) (m:Int).natAbs 8=c at*;have hgc:=t4.const;obtain⟨v2,v3⟩:=more_va g1 t4 hcS;have hE1:=ent_all gd hk g1 dx dx g2;have he1:=p_entries w5 gd.lim hk g1 g2 g3 hE1;have hE2:=ent_all gd hk v2 dx dx g2;have he2:=p_entries w5 gd.lim hk v2 g2 v3 hE2;have ht:=r_tree (A:=A0) (k:=k0) hl om;have hsub:=kept_more hc0 (entR (treeK L) (spN (treeK L) (treeN L) u) [] []) (q:=treeQ L);have hz:∀y∈keptR (treeQ L) (entR (treeK L) (spN (treeK L) (treeN L) u) [] []),EnZ y:=fun y hy=>by
  obtain⟨x,hx,rfl⟩:=kept_mem hy;exact .of (hE1 x hx).2.2.1 (hE1 x hx).2.2.2
 have hA9:(keptR (treeQ L) (entR (treeK L) (spN (treeK L) (treeN L) u) [] [])).length≤1000000:=nt (kept_len ..) (nt (entR_len ..) (nt (Nat.pow_le_pow_right dx hk) dx));have hB9:(keptR ((treeQ L).more c) (entR (treeK L) (spN (treeK L) (treeN L) u) [] [])).length≤1000000:=nt (kept_len ..) (nt (entR_len ..) (nt (Nat.pow_le_pow_right dx hk) dx));generalize keptR (treeQ L) (entR (treeK L) (spN (treeK L) (treeN L) u) [] [])=A at*;generalize keptR ((treeQ L).more c) (entR (treeK L) (spN (treeK L) (treeN L) u) [] [])=B at*;clear g3 g4 g5 t4 tt w5 gd hE1 hE2 hk;rw[← ndX_eq] at he1 he2;generalize spN (treeK L) (treeN L) u=n1 at*;generalize treeQ L=q at*;generalize treeN L=n at*;obtain⟨ls,d,ks,e,p⟩:=n;obtain⟨ls1,d1,ks1,e1,p1⟩:=n1;refine pcW [39,46,39] (by kernel_rfl) Tryz.func5 rfl rfl (fun D hF hM hH=>?_);refine au ?_;refine rcw hM (fun _ G=>hH.1.gr G) (p_awakeW) Y Y Y Y Y Y Y ?_;refine qg 1 ?_;refine rn Y (pif Y (fun e=>by cases e) (fun _=>?_));refine pk (ps (pr0 (qg 1 ?_)));refine ro0 Y Y Y (fun hd=>opE_lenR Y Y Y hd) ?_;refine akF (c:=by exact (show _=false from df om)) ?_;refine au ?_;refine rcw hM (fun _=>hH.2.gr) (ht) Y Y Y Y Y Y Y ?_;refine ac (c:=hs) ?_;refine qg 1 ?_;refine rn Y ?_
 apply pcutP (sl:=[(7,_),(8,_),(9,_),(2,_)]) (rs:=[(7,_),(8,_),(9,_)]) [39,46,39,35] (True)
 case h1=>
  refine au ?_;refine⟨?_,trivial⟩;refine Sub.of ?_ ?_ ?_
  ·exact (ai (rfl) (ai (rfl) (ai (rfl) (ai (rfl) trivial))))
  ·exact (ai (rfl) (ai (rfl) (ai (rfl) trivial)))
  ·rfl
 case h2=>
  intro _;refine pr0 (qg 1 ?_);refine ro0 Y Y Y (fun hd=>opE_convZ (ds:=.int .u8) (j:=.i64) Y Y (by kernel_rfl) (by kernel_rfl) (conv_u _ om) hd) ?_;refine ac (c:=hfr) ?_;refine ac (c:=r_add (hgc.sm dx) (hcS.sm dx) hgc.ok hcS.ok) ?_;refine au ?_;refine rcw hM (fun _ G=>hH.1.gr G) (he1) Y Y Y Y Y Y Y ?_;refine au ?_;refine rcw hM (fun _ G=>hH.1.gr G) (he2) Y Y Y Y Y Y Y ?_;refine akF (c:=by exact (show _=false from rfl)) ?_;refine akF (c:=by exact (show _=false from rfl)) ?_;refine au ?_;refine pl (ι:={p:Nat×Nat // p.1≤A.length∧p.2≤B.length∧(A.drop p.1).Sublist (B.drop p.2)}) (fun p=>[(12,.pv (ensP A)),(14,.pv (ensP B)),(16,.pv (iP (p.1.1:Int))),(17,.pv (iP (p.1.2:Int)))]) (fun p=>[]) [] (fun p=>B.length - p.1.2) ⟨(0,0),nq _,nq _,hsub⟩ (ai Y (ai Y (ai Y (ai Y trivial)))) trivial (fun _=>rfl) ?_;intro ⟨(k,i),hk0,hi0,hs1⟩;simp only at hk0 hi0 hs1;refine a2 (fun e67=>?_) (fun e67=>?_)
  ·have hi:i < B.length:=lt_of e67;refine a2 (fun e72=>?_) (fun e72=>?_)
   ·have hk:k < A.length:=lt_of e72;refine aa (c:=ari_succ (by show k≤_;omega)) ?_;refine ro0 Y Y Y (fun hd=>opE_sub tab_ok Y Y Y (.inr ⟨_,rfl,rfl⟩) (.inr ⟨_,rfl,rfl⟩) (Nat.le_succ _) (by rw[List.length_map];exact hk) Y dx hd) ?_;refine aa (c:=ari_succ (by show i≤_;omega)) ?_;refine ro0 Y Y Y (fun hd=>opE_sub tab_ok Y Y Y (.inr ⟨_,rfl,rfl⟩) (.inr ⟨_,rfl,rfl⟩) (Nat.le_succ _) (by rw[List.length_map];exact hi) Y dx hd) ?_;refine ac (c:=same1 (by exact slice_one hk) (by exact slice_one hi) (hz _ (mg (get_of hk)))) ?_;refine a2 (fun e85=>?_) (fun e85=>?_)
    ·refine aa (c:=ari_succ (by show k≤_;omega)) ?_;refine aa (c:=ari_succ (by show i≤_;omega)) ?_;refine au ?_;exact pe ⟨(k+1,i+1),hk,hi,(sub_step hk hi hs1).1 e85⟩ (ai Y (ai Y (ai Y (ai Y trivial)))) trivial Y (by show B.length - (i+1) < B.length - i;omega)
    ·refine aa (c:=ari_succ (by show i≤_;omega)) ?_;refine au ?_;exact pe ⟨(k,i+1),hk0,hi,(sub_step hk hi hs1).2 e85⟩ (ai Y (ai Y (ai Y (ai Y trivial)))) trivial Y (by show B.length - (i+1) < B.length - i;omega)
   ·have hg:A.length≤k:=ge_of e72;have hkA:k=A.length:=by omega
    exact ar (c:=congrArg bP (show ((k:Int) == ((A.map enC).length:Int))=true from by rw[List.length_map,← hkA];exact beq_self_eq_true _))
  ·have hj:B.length≤i:=ge_of e67;have hkA:=sub_end hk0 hj hs1;exact ar (c:=congrArg bP (show ((k:Int) == ((A.map enC).length:Int))=true from by rw[List.length_map,← hkA];exact beq_self_eq_true _))
theorem p_weak2 {A:Option Addr} {n k:Nat} {u m:Nat} (hn:300 < n):PCallsW LaidG Tryz.prog TL 5 [.raw (.slice A n k),.raw (.int .u16 (u:Int)),.raw (.int .u8 (m:Int))] (bP true):=by
 refine pcW [39,46,39,35] (by kernel_rfl) Tryz.func5 rfl rfl (fun D hF hM hH=>?_);refine au ?_;refine rcw hM (fun _ G=>hH.gr G) (p_awakeW) Y Y Y Y Y Y Y ?_;refine qg 1 ?_;refine rn Y (pif Y (fun e=>by cases e) (fun _=>?_));refine pk (ps (pr0 (qg 1 ?_)));refine ro0 Y Y Y (fun hd=>opE_lenR Y Y Y hd) ?_;refine akT (c:=by exact (show _=true from dt om)) ?_;exact ar (c:=rfl)
theorem bytes_len {k:IntKind} {w:World} {a:Option Addr} {len cap:Nat} {zs:List Int} (h:IsRow k w a len cap zs):(bytesOf zs len).length=len:=by
 unfold bytesOf;rw[List.length_map,h.lens]
theorem PCallsW.in1 {H:World→Prop} {P:Program} {T:List Nat} {f:FuncId} {args:List PV} {b:Bool} (h:PCallsW H P T f args (bP b)) {w:World} (hw:H w) {us:List Value} (hr:PV.RepL w NoX args us):Calls P f us.toArray w fun e w'=>e=.returned (.bool b)∧Below w.heap.size w w':=
 (h.2 w NoX us hw (fun _ h=>h.elim) (fun _ _ _ _ h=>h.elim) hr).mono fun e w' ⟨v,he,hv,G⟩=>⟨by rw[he,raw_inv hv],G.below⟩
theorem law_weak_in (w:World) (hw:LaidG w) (a0:Option Addr) (len0 cap0:Nat) (zs0:List Int) (u m:Int) (h0:IsRow .u8 w a0 len0 cap0 zs0) (hu:(Lit.int .u16 u).wf=true) (hm:(Lit.int .u8 m).wf=true):
  Calls Tryz.prog 5 #[.slice a0 len0 cap0,.int .u16 u,.int .u8 m] w fun e w'=>e=.returned (.bool true)∧Below w.heap.size w w':=by
 obtain⟨u0,u1⟩:=bounds_u16 hu;obtain⟨m0,m1⟩:=bounds_u8 hm;obtain⟨u,rfl⟩:=Int.eq_ofNat_of_zero_le u0;obtain⟨m,rfl⟩:=Int.eq_ofNat_of_zero_le m0;have hr:PV.RepL w NoX [.raw (.slice a0 len0 cap0),.raw (.int .u16 (u:Int)),.raw (.int .u8 (m:Int))] [.slice a0 len0 cap0,.int .u16 (u:Int),.int .u8 (m:Int)]:=PV.RepL.cons (raw_to _) (PV.RepL.cons (raw_to _) (PV.RepL.cons (raw_to _) PV.RepL.nil));rcases Nat.lt_or_ge 300 len0 with h | h
 ·exact (p_weak2 h).in1 hw hr
 ·have hl:=bytes_len h0;have hp:=p_weak1 (A0:=a0) (k0:=cap0) (u:=u) (m:=m) h0.lim om om om;rw[hl] at hp;exact hp.in1 ⟨hw,h0.is⟩ hr
end Go.Proofs.YtbhbainhmfjpdaaGreatDoor
