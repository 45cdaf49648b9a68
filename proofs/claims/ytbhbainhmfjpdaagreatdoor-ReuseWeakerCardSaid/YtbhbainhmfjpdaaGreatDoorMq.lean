/- Walks of the search and of what it calls, part 17. -/
import Derived.Test.YtbhbainhmfjpdaaGreatDoorMo
set_option linter.unusedVariables false
set_option linter.unusedSimpArgs false
set_option maxRecDepth 100000
set_option maxHeartbeats 8000000
namespace Go.Proofs.YtbhbainhmfjpdaaGreatDoor
open Go.RowKit
def eqL {α:Type} [Inhabited α] (f:α→α→Bool) (a b:List α):Bool:=a.length == b.length&&(List.range a.length).all fun i=>f (atZ a (i:Int)) (atZ b (i:Int))
section
variable {α:Type} [Inhabited α] {f:α→α→Bool} {a b:List α} {i:Nat}
theorem eqL_ne (h:a.length≠b.length):eqL f a b=false:=by
 unfold eqL;rw[beq_false_of_ne h];rfl
theorem eqL_bad (hi:i < a.length) (h:f (atZ a (i:Int)) (atZ b (i:Int))=false):eqL f a b=false:=by
 unfold eqL;rw[Bool.and_eq_false_iff,List.all_eq_false];exact .inr ⟨i,List.mem_range.2 hi,by rw[h];exact Bool.false_ne_true⟩
theorem eqL_ok (hl:a.length=b.length) (hi:a.length≤i) (h:∀j,j < i→f (atZ a (j:Int)) (atZ b (j:Int))=true):eqL f a b=true:=by
 unfold eqL;rw[hl,beq_self_eq_true,Bool.true_and,List.all_eq_true];exact fun j hj=>h j (by have:=List.mem_range.1 hj;omega)
theorem upto_succ {p:Nat→Prop} (h:∀j,j < i→p j) (h1:p i):∀j,j < i+1→p j:=fun j hj=>(Nat.lt_succ_iff_lt_or_eq.1 hj).elim (h j) fun e=>e▸h1
omit [Inhabited α] in
theorem len_ne {β:Type} {g:α→β} (h:(((a.map g).length:Int) != ((b.map g).length:Int))=true):a.length≠b.length:=by
 intro e;rw[List.length_map,List.length_map,e] at h;simp at h
omit [Inhabited α] in
theorem len_eq {β:Type} {g:α→β} (h:(((a.map g).length:Int) != ((b.map g).length:Int))=false):a.length=b.length:=by
 rw[List.length_map,List.length_map,bne_eq_false_iff_eq] at h;omega
end
def mmEq (x y:Mm):Bool:=rowEq x.1 y.1&&decide (x.2=y.2)
def lmEq (x y:Lm):Bool:=x.unit == y.unit&&(x.upper == y.upper&&(decide (x.value=y.value)&&eqL mmEq x.proof y.proof))
def enEq (x y:En):Bool:=eqL dcEq x.path y.path&&((x.empty == y.empty)&&(eqL lmEq x.lems y.lems&&eqL mmEq x.proof y.proof))
theorem r_samems (a b:List Mm) (h9:a.length≤1000000):PCalls Tryz.prog [] 97 [mmsP a,mmsP b] (bP (eqL mmEq a b)):=by
 refine pcA [] Tryz.func97 (fun D=>?_);refine a2 (fun e10=>?_) (fun e10=>?_)
 ·have hn:=len_ne e10;exact ar (c:=congrArg bP (eqL_ne hn).symm)
 ·have hl:=len_eq e10;refine au ?_;refine pl (ι:={i:Nat // i≤a.length∧∀j,j < i→mmEq (atZ a (j:Int)) (atZ b (j:Int))=true}) (fun i=>[(0,.pv (mmsP a)),(1,.pv (mmsP b)),(5,.pv (iP (i.1:Int)))]) (fun i=>[]) [] (fun i=>a.length - i.1) ⟨0,nq _,fun j hj=>absurd hj (Nat.not_lt_zero j)⟩ (ai Y (ai Y (ai Y trivial))) trivial (fun _=>rfl) ?_;intro ⟨i,hi0,hg⟩;refine a2 (fun e14=>?_) (fun e14=>?_)
  ·have hi:i < a.length:=lt_of e14;have hib:i < b.length:=hl▸hi;refine ax (c:=(getmap (get_of hi))) ?_;refine ax (c:=(getmap (get_of hib))) ?_;refine au ?_;refine rr0 (!rowEq (atZ a (i:Int)).1 (atZ b (i:Int)).1) Y Y Y Y Y Y Y Y Y (.inr ⟨rfl,rfl⟩) ?_;refine a2 (fun e28=>?_) (fun e28=>?_)
   ·exact ar (c:=congrArg bP (eqL_bad hi (by simp_all [mmEq])).symm)
   ·refine ax (c:=(getmap (get_of hi))) ?_;refine ax (c:=(getmap (get_of hib))) ?_;refine ac (c:=r_same) ?_;refine a2 (fun e41=>?_) (fun e41=>?_)
    ·exact ar (c:=congrArg bP (eqL_bad hi (by simp_all [mmEq])).symm)
    ·refine aa (c:=ari_succ (by show i≤_;omega)) ?_;refine au ?_;exact pe ⟨i+1,hi,upto_succ (p:=fun j=>mmEq (atZ a (j:Int)) (atZ b (j:Int))=true) hg (by simp_all [mmEq])⟩ (ai Y (ai Y (ai Y trivial))) trivial Y (by show a.length - (i+1) < a.length - i;omega)
  ·have hj:a.length≤i:=ge_of e14;exact ar (c:=congrArg bP (eqL_ok hl hj hg).symm)
theorem r_samelms (a b:List Lm) (h9:a.length≤1000000) (ha:∀m∈a,m.proof.length≤1000000):PCalls Tryz.prog [] 96 [lmsP a,lmsP b] (bP (eqL lmEq a b)):=by
 refine pcA [] Tryz.func96 (fun D=>?_);refine a2 (fun e10=>?_) (fun e10=>?_)
 ·have hn:=len_ne e10;exact ar (c:=congrArg bP (eqL_ne hn).symm)
 ·have hl:=len_eq e10;refine au ?_;refine pl (ι:={i:Nat // i≤a.length∧∀j,j < i→lmEq (atZ a (j:Int)) (atZ b (j:Int))=true}) (fun i=>[(0,.pv (lmsP a)),(1,.pv (lmsP b)),(5,.pv (iP (i.1:Int)))]) (fun i=>[]) [] (fun i=>a.length - i.1) ⟨0,nq _,fun j hj=>absurd hj (Nat.not_lt_zero j)⟩ (ai Y (ai Y (ai Y trivial))) trivial (fun _=>rfl) ?_;intro ⟨i,hi0,hg⟩;refine a2 (fun e14=>?_) (fun e14=>?_)
  ·have hi:i < a.length:=lt_of e14;have hib:i < b.length:=hl▸hi;refine ax (c:=(getmap (get_of hi))) ?_;refine ax (c:=(getmap (get_of hib))) ?_;refine a2 (fun e28=>?_) (fun e28=>?_)
   ·exact ar (c:=congrArg bP (eqL_bad hi (by simp_all [lmEq])).symm)
   ·refine ax (c:=(getmap (get_of hi))) ?_;refine ax (c:=(getmap (get_of hib))) ?_;refine au ?_;refine re0 (((atZ a (i:Int)).upper != (atZ b (i:Int)).upper)) Y Y Y Y Y Y (.inr ⟨rfl,rfl⟩) ?_;refine a2 (fun e41=>?_) (fun e41=>?_)
    ·exact ar (c:=congrArg bP (eqL_bad hi (by simp_all [lmEq])).symm)
    ·refine ax (c:=(getmap (get_of hi))) ?_;refine ax (c:=(getmap (get_of hib))) ?_;refine ac (c:=r_same) ?_;refine a2 (fun e55=>?_) (fun e55=>?_)
     ·exact ar (c:=congrArg bP (eqL_bad hi (by simp_all [lmEq])).symm)
     ·refine ax (c:=(getmap (get_of hi))) ?_;refine ax (c:=(getmap (get_of hib))) ?_;refine ac (c:=r_samems _ _ (ha _ (mg (get_of hi)))) ?_;refine a2 (fun e68=>?_) (fun e68=>?_)
      ·exact ar (c:=congrArg bP (eqL_bad hi (by simp_all [lmEq])).symm)
      ·refine aa (c:=ari_succ (by show i≤_;omega)) ?_;refine au ?_;exact pe ⟨i+1,hi,upto_succ (p:=fun j=>lmEq (atZ a (j:Int)) (atZ b (j:Int))=true) hg (by simp_all [lmEq])⟩ (ai Y (ai Y (ai Y trivial))) trivial Y (by show a.length - (i+1) < a.length - i;omega)
  ·have hj:a.length≤i:=ge_of e14;exact ar (c:=congrArg bP (eqL_ok hl hj hg).symm)
theorem r_samedc (x y:Dc):PCalls Tryz.prog [] 95 [dcP x,dcP y] (bP (dcEq x y)):=by
 refine pcA [42] Tryz.func95 (fun D=>?_);refine a2 (fun e10=>?_) (fun e10=>?_)
 ·refine a2 (fun e17=>?_) (fun e17=>?_)
  ·refine ac (c:=r_same) ?_;exact ar (c:=by (try simp only[List.length_map] at *);simp only[dcEq,e10,e17,sb]<;>rfl)
  ·exact ar (c:=by (try simp only[List.length_map] at *);simp only[dcEq,e10,e17,sb]<;>rfl)
 ·exact ar (c:=by (try simp only[List.length_map] at *);simp only[dcEq,e10,sb]<;>rfl)
theorem r_samepath (a b:List Dc) (h9:a.length≤1000000):PCalls Tryz.prog [] 45 [dcsP a,dcsP b] (bP (eqL dcEq a b)):=by
 refine pcA [] Tryz.func45 (fun D=>?_);refine a2 (fun e10=>?_) (fun e10=>?_)
 ·have hn:=len_ne e10;exact ar (c:=congrArg bP (eqL_ne hn).symm)
 ·have hl:=len_eq e10;refine au ?_;refine pl (ι:={i:Nat // i≤a.length∧∀j,j < i→dcEq (atZ a (j:Int)) (atZ b (j:Int))=true}) (fun i=>[(0,.pv (dcsP a)),(1,.pv (dcsP b)),(5,.pv (iP (i.1:Int)))]) (fun i=>[]) [] (fun i=>a.length - i.1) ⟨0,nq _,fun j hj=>absurd hj (Nat.not_lt_zero j)⟩ (ai Y (ai Y (ai Y trivial))) trivial (fun _=>rfl) ?_;intro ⟨i,hi0,hg⟩;refine a2 (fun e14=>?_) (fun e14=>?_)
  ·have hi:i < a.length:=lt_of e14;have hib:i < b.length:=hl▸hi;refine ax (c:=(getmap (get_of hi))) ?_;refine ax (c:=(getmap (get_of hib))) ?_;refine ac (c:=r_samedc _ _) ?_;refine a2 (fun e26=>?_) (fun e26=>?_)
   ·replace e26:=not_t e26;exact ar (c:=congrArg bP (eqL_bad hi (by simp_all [dcEq])).symm)
   ·replace e26:=not_f e26;refine aa (c:=ari_succ (by show i≤_;omega)) ?_;refine au ?_;exact pe ⟨i+1,hi,upto_succ (p:=fun j=>dcEq (atZ a (j:Int)) (atZ b (j:Int))=true) hg (by simp_all [dcEq])⟩ (ai Y (ai Y (ai Y trivial))) trivial Y (by show a.length - (i+1) < a.length - i;omega)
  ·have hj:a.length≤i:=ge_of e14;exact ar (c:=congrArg bP (eqL_ok hl hj hg).symm)
theorem r_samenode (a b:List Lm) (e f:Bool) (p q:List Mm) (h9:a.length≤1000000) (ha:∀m∈a,m.proof.length≤1000000) (hp:p.length≤1000000):PCalls Tryz.prog [] 46 [.agg [lmsP a,iP 0,iP 0,bP false,.nat 0,.nat 0,.rows 46 9 ndT [],bP e,mmsP p],.agg [lmsP b,iP 0,iP 0,bP false,.nat 0,.nat 0,.rows 46 9 ndT [],bP f,mmsP q],iP 1] (bP ((e == f)&&(eqL lmEq a b&&eqL mmEq p q))):=by
 refine pcA [46] Tryz.func46 (fun D=>?_);refine akF (c:=by exact (show _=false from rfl)) ?_;refine au ?_;refine re0 ((e != f)) Y Y Y Y Y Y (.inr ⟨rfl,rfl⟩) ?_;refine a2 (fun e17=>?_) (fun e17=>?_)
 ·exact ar (c:=congrArg bP (by simp_all))
 ·refine akF (c:=by exact (show _=false from rfl)) ?_;refine ac (c:=r_samedc dc0 dc0) ?_;refine ac (c:=r_samelms a b h9 ha) ?_;refine a2 (fun e42=>?_) (fun e42=>?_)
  ·exact ar (c:=congrArg bP (by simp_all))
  ·refine ac (c:=r_samems p q hp) ?_;refine a2 (fun e49=>?_) (fun e49=>?_)
   ·exact ar (c:=congrArg bP (by simp_all))
   ·refine au ?_;refine pl (ι:=Unit) (fun _=>[(2,.pv (iP 1)),(3,.box 3 0),(4,.box 4 0),(7,.pv (iP 0))]) (fun _=>[(3,.box 46 [.pv (lmsP a),.pv (iP 0),.pv (iP 0),.pv (bP false),.pv (.nat 0),.pv (.nat 0),.pv (.rows 46 9 ndT []),.pv (bP e),.pv (mmsP p)]),(4,.box 46 [.pv (lmsP b),.pv (iP 0),.pv (iP 0),.pv (bP false),.pv (.nat 0),.pv (.nat 0),.pv (.rows 46 9 ndT []),.pv (bP f),.pv (mmsP q)])]) [46] (fun _=>0) () (ai Y (ai Y (ai Y (ai Y trivial)))) (ai Y (ai Y trivial)) (fun _=>rfl) ?_;intro _;refine akF (c:=by exact (show _=false from rfl)) ?_;exact ar (c:=congrArg bP (by simp_all))
theorem r_sameens (a b:List En) (h9:a.length≤1000000) (ha:∀x∈a,x.path.length≤1000000∧x.lems.length≤1000000∧(∀m∈x.lems,m.proof.length≤1000000)∧x.proof.length≤1000000):PCalls Tryz.prog [] 14 [ensP a,ensP b] (bP (eqL enEq a b)):=by
 refine pcA [] Tryz.func14 (fun D=>?_);refine a2 (fun e10=>?_) (fun e10=>?_)
 ·have hn:=len_ne e10;exact ar (c:=congrArg bP (eqL_ne hn).symm)
 ·have hl:=len_eq e10;refine au ?_;refine pl (ι:={i:Nat // i≤a.length∧∀j,j < i→enEq (atZ a (j:Int)) (atZ b (j:Int))=true}) (fun i=>[(0,.pv (ensP a)),(1,.pv (ensP b)),(5,.pv (iP (i.1:Int)))]) (fun i=>[]) [] (fun i=>a.length - i.1) ⟨0,nq _,fun j hj=>absurd hj (Nat.not_lt_zero j)⟩ (ai Y (ai Y (ai Y trivial))) trivial (fun _=>rfl) ?_;intro ⟨i,hi0,hg⟩;refine a2 (fun e14=>?_) (fun e14=>?_)
  ·have hi:i < a.length:=lt_of e14;have hib:i < b.length:=hl▸hi;have hx:=ha _ (mg (get_of hi));refine ax (c:=(getmap (get_of hi))) ?_;refine ax (c:=(getmap (get_of hib))) ?_;refine ac (c:=r_samepath _ _ hx.1) ?_;refine a2 (fun e29=>?_) (fun e29=>?_)
   ·replace e29:=not_t e29;exact ar (c:=congrArg bP (eqL_bad hi (by simp only[enEq,e10,e14,e29,sb])).symm)
   ·replace e29:=not_f e29;refine ax (c:=(getmap (get_of hi))) ?_;refine ax (c:=(getmap (get_of hib))) ?_;refine ac (c:=r_samenode _ _ _ _ _ _ hx.2.1 hx.2.2.1 hx.2.2.2) ?_;refine a2 (fun e42=>?_) (fun e42=>?_)
    ·exact ar (c:=congrArg bP (eqL_bad hi (by simp only[Bool.not_eq_true',Bool.not_eq_false'] at e42;simp only[enEq,e10,e14,e29,e42,sb])).symm)
    ·refine aa (c:=ari_succ (by show i≤_;omega)) ?_;refine au ?_;exact pe ⟨i+1,hi,upto_succ (p:=fun j=>enEq (atZ a (j:Int)) (atZ b (j:Int))=true) hg (by simp only[Bool.not_eq_true',Bool.not_eq_false'] at e42;simp only[enEq,e10,e14,e29,e42,sb])⟩ (ai Y (ai Y (ai Y trivial))) trivial Y (by show a.length - (i+1) < a.length - i;omega)
  ·have hj:a.length≤i:=ge_of e14;exact ar (c:=congrArg bP (eqL_ok hl hj hg).symm)
theorem spl_take {α:Type}:∀(vs:List α) (l:List α) (p m:Nat),p+vs.length≤m→(spl l p vs).take m=spl (l.take m) p vs
 | [],l,p,m,h=>rfl
 | v::vs,l,p,m,h=>by
  rw[List.length_cons] at h;rw[spl,spl,spl_take vs (l.set p v) (p+1) m om,List.take_set]
theorem spl_flat {α:Type} {k:Nat}:∀(vs:List α) {us:List (List α)} {i j:Nat} {u:List α},(∀u∈us,u.length=k)→us[i]?=some u→j+vs.length≤k→spl us.flatten (i*k+j) vs=(us.set i (spl u j vs)).flatten
 | [],us,i,j,u,hk,h,hj=>by
  rw[spl,spl,List.set_getElem?_self' h]
 | v::vs,us,i,j,u,hk,h,hj=>by
  rw[List.length_cons] at hj;have hi:=(gs h).1;have hu:=hk u (mg h);have h2:(us.set i (u.set j v))[i]?=some (u.set j v):=List.getElem?_set_self hi;have h3:∀x∈us.set i (u.set j v),x.length=k:=fun x hx=>by
   rcases List.mem_or_eq_of_mem_set hx with e | e
   ·exact hk x e
   ·rw[e,List.length_set,hu]
  have:=spl_flat vs (i:=i) (j:=j+1) h3 h2 om;rw[spl,spl,flatten_set hk h om,show i*k+j+1=i*k+(j+1) from rfl,this,List.set_set]
theorem PV.RepL.spl {w:World} {X:Nat→Prop}:∀{qs:List PV} {vs:List Value} {ps:List PV} {us:List Value} {j:Nat},PV.RepL w X ps us→PV.RepL w X qs vs→PV.RepL w X (Proofs.YtbhbainhmfjpdaaGreatDoor.spl ps j qs) (Proofs.YtbhbainhmfjpdaaGreatDoor.spl us j vs)
 | [],vs,ps,us,j,h,k=>by rw[PV.RepL] at k;subst k;exact h
 | q::qs,vs,ps,us,j,h,k=>by
  rw[PV.RepL] at k;obtain⟨v,vs',rfl,h1,h2⟩:=k;have:=PV.RepL.spl (j:=j+1) (h.set (j:=j) h1) h2;exact this
section
variable {C:Cx} {tys:List Nat} {o:Oper} {st:St} {t t2:Nat} {x y:Operand} {k:IntKind} {m n z:Int}
theorem opE_storeN {tab:Tab} (hT:TblOk C.P tab) {l:Lay} {id e k:Nat} {ts:List Nat} {xs:List (List PV)} {i j off:Nat} {r ps:List PV} {s:SV} (ho:o.op=.store t x y) (hl:tab.get t=some l) (hx:ev st x=some (.elt id off)) (hy:ev st y=some s) (hco:coSV st s=some (.agg ps)) (hs:s.ids=[]) (hre:st.res id=some (.tok e k ts xs)) (hoff:off=i*k+j) (hr:xs[i]?=some r) (hln:Nat.beq ps.length l.zero.length=true) (hjk:j+ps.length≤k) (hcl:ps.all (fun p=>p.cell&&p.ty.all fun t=>ts.contains t)=true) (he:st.tys.contains e=true) (hdn:o.dst=none):OpE C st.tys o st ⟨.any,some (id,.tok e k ts (xs.set i (spl r j ps))),[id],false⟩:=by
 subst hoff;have lk:=Tab.get_ok hT hl;have hln:=Nat.eq_of_beq_eq_true hln;refine⟨fun i r e=>by injection e with e;injection e with e1 e2;subst e1 e2;exact⟨mf ..,List.contains_iff_mem.1 he⟩,fun st1 h1 h2 _ a w ⟨B,T,hi⟩=>?_⟩;have ag:Agree o [id] st st1:=⟨h1,h2⟩;rw[← h2 id (mf ..)] at hre;rw[← ag.ev (by rw[ho];simp[Op.operands])] at hx hy;have x1:=(ev_rep hi hx).1;have y0:=(ev_rep hi hy).1;have y1:=Co.rep hi ((coSV_ok hco).move (st1:=st1) fun i hi=>by rw[hs] at hi;cases hi) y0 (X:=Own0 C st1 B T) fun b hb=>⟨hb,fun ⟨i,hi,_⟩=>by rw[hs] at hi;cases hi⟩
 rw[SV.Rep] at x1;rw[PV.Rep] at y1;obtain⟨g',hg',x1⟩:=x1;obtain⟨vs,yv,hvs⟩:=y1;have hvl:=hvs.len;obtain⟨us,o1,o2,o3,o4,o5,o6⟩:=hi.inn id _ hre;obtain⟨u,hu1,hu2⟩:=o2.at hr;have hrows:=o2.rows fun r hr=>(o3 r hr).1
 have hil:=(gs hr).1;have hcell:∀c∈ps,c.cell=true:=fun c hc=>by
  have:=List.all_eq_true.1 hcl c hc;rw[be] at this;exact this.1
 have h1c:∀v∈vs,v.oneCell'=true:=hvs.one hcell;obtain⟨hl0,h0 | ⟨g,cap,cur,hv,hb,hh,g1,g2,g3,ht⟩⟩:=o1
 ·exact absurd h0.2 om
 have hg:g'=g:=by
  have:(T id).A=some ⟨g,0,none⟩:=by injection hv
  rw[this] at hg';injection hg' with hg';injection hg' with hg';exact hg'.symm
 subst hg;have hbk:Bk w g' e cur:=hh;have hfl:us.flatten.length=(T id).n*k:=by rw[flatten_len hrows,o2.len,o4]
 have hik:i*k+k≤(T id).n*k:=by
  have:=Nat.mul_le_mul_right k (show i+1≤(T id).n by omega);rw[Nat.add_mul,Nat.one_mul] at this;exact this
 have hcur:(T id).n*k≤cur.toList.length:=by
  have:=congrArg List.length ht;rw[List.length_take,hfl] at this;omega
 obtain⟨w',s1,s2,s3⟩:=rstore (P:=C.P) vs 0 (i*k+j) g' e w cur.toList (by rw[Array.toArray_toList];exact hbk) om h1c;rw[Nat.add_zero] at s2;have hsz:¬(a.eval y).cells.size≠l.zero.length:=by rw[yv];show ¬(vs.toArray.size≠_);rw[List.size_toArray,hvl,hln];simp
 have run:(execOp a.eval o).run C.P w=.ok .skip w':=by
  simp only[execOp,ho,x1,Instr.storeAt,Instr.sureAddr,Sem.run_bind,Sem.run_pure,Result.andThen_ok,storeVar,rsize lk.size,if_neg hsz];have hc:(a.eval y).cells.toList=vs:=by rw[yv];show vs.toArray.toList=vs;simp
  rw[hc];simp[s1]
 unfold doesAt;rw[run,hdn];refine inv_elt hi hre (us':=us.set i (spl u j vs)) ?_ (s3.wide fun b _ e=>by rw[e,hv];rfl) (o2.set (hu2.spl hvs)) (fun r' hr'=>?_) (by rw[List.length_set])
 ·have hfl':(us.set i (spl u j vs)).flatten=spl us.flatten (i*k+j) vs:=(spl_flat vs hrows hu1 om).symm;refine⟨by rw[hfl',spl_len,hfl],.inr ⟨g',cap,_,hv,hb,s2,g1,g2,?_,?_⟩⟩
  ·rw[List.size_toArray,spl_len];simpa using g3
  ·rw[hfl',← ht,← spl_take vs _ _ _ om]
 ·rcases List.mem_or_eq_of_mem_set hr' with h3 | h3
  ·exact o3 r' h3
  ·subst h3;have h4:=o3 r (mg hr);refine⟨by rw[spl_len];exact h4.1,?_⟩;have key:∀(qs l:List PV) (p:Nat),(∀c∈qs,c.cell=true∧∀t∈c.ty,t∈ts)→(∀c∈l,c.cell=true∧∀t∈c.ty,t∈ts)→∀c∈spl l p qs,c.cell=true∧∀t∈c.ty,t∈ts:=fun qs=>by
    induction qs with
    | nil=>intro l p _ h;exact h
    | cons q qs ih=>
     intro l p hq hl;rw[spl];refine ih _ _ (fun c hc=>hq c (List.mem_cons_of_mem _ hc)) fun c hc=>?_
     rcases List.mem_or_eq_of_mem_set hc with e | e
     ·exact hl c e
     ·rw[e];exact hq q (mf ..)
   exact key ps r j (fun c hc=>by
    have:=List.all_eq_true.1 hcl c hc;rw[be,List.all_eq_true] at this;exact⟨this.1,fun t ht=>List.contains_iff_mem.1 (this.2 t ht)⟩) h4.2
theorem opE_loadN {tab:Tab} (hT:TblOk C.P tab) {l:Lay} {id e k:Nat} {ts:List Nat} {xs:List (List PV)} {i j off:Nat} {r ps:List PV} (ho:o.op=.load t x) (hl:tab.get t=some l) (hag:l.agg=true) (hx:ev st x=some (.elt id off)) (hre:st.res id=some (.tok e k ts xs)) (hoff:off=i*k+j) (hr:xs[i]?=some r) (hps:(r.drop j).take l.zero.length=ps) (hjk:j+l.zero.length≤k) (hd:∀d,o.dst=some d→d < C.N):OpE C st.tys o st (valE (.pv (.agg ps)) [id]):=by
 subst hoff;have lk:=Tab.get_ok hT hl;obtain⟨d,hu,hdr⟩:=lk.agg;refine opE_val hd fun st1 ag a w B T hi=>?_
 rw[← ag.ev (by rw[ho];simp[Op.operands])] at hx;rw[← ag.2 id (List.mem_append_left _ (List.mem_singleton.2 rfl))] at hre;have h1:=(ev_rep hi hx).1;rw[SV.Rep] at h1;obtain⟨g',hg',h1⟩:=h1;obtain⟨us,o1,o2,o3,o4,o5,o6⟩:=hi.inn id _ hre;obtain⟨u,hu1,hu2⟩:=o2.at hr;have hrows:=o2.rows fun r hr=>(o3 r hr).1
 have hul:=hrows u (mg hu1);have hil:=(gs hr).1;obtain⟨hl0,h0 | ⟨g,cap,cur,hv,hb,hh,g1,g2,g3,ht⟩⟩:=o1
 ·exact absurd h0.2 om
 have hg:g'=g:=by
  have:(T id).A=some ⟨g,0,none⟩:=by injection hv
  rw[this] at hg';injection hg' with hg';injection hg' with hg';exact hg'.symm
 subst hg;have hbk:Bk w g' e cur:=hh;have hrep:PV.RepL w (Own0 C st1 B T) ps ((u.drop j).take l.zero.length):=by rw[← hps];exact (hu2.drop j).take _
 refine⟨.agg ((u.drop j).take l.zero.length).toArray,?_,by rw[SV.Rep,PV.Rep];exact⟨_,rfl,hrep⟩,fun i hi=>by cases (show i∈([]:List Nat) from hi)⟩;simp only[execOp,ho,h1,Instr.loadAt,Instr.sureAddr,Sem.run_bind,Sem.run_pure,Result.andThen_ok];have:=rloadVarN (P:=C.P) (w:=w) (n:=0) (us:=(u.drop j).take l.zero.length) (a:=⟨g',i*k+j,none⟩) hu (hdr.trans hag) (by rw[lk.size,List.length_take,List.length_drop,hul];exact congrArg some om) (fun q v hq=>by
  have hq2:=(gs hq).1;rw[List.length_take,List.length_drop,hul] at hq2;rw[List.getElem?_take_of_lt om,List.getElem?_drop] at hq;have h6:us.flatten[i*k+(j+q)]?=some v:=by rw[flatten_at hrows hu1 om,hq]
  rw[add_mk,hbk.cell,← Array.getElem?_toList];rw[← ht,List.getElem?_take] at h6;split at h6
  ·rw[Nat.add_assoc];exact h6
  ·cases h6)
 simp only[this,Result.andThen_ok]
theorem opE_quo (ho:o.op=.binOp .quo t x y t2) (hx:ev st x=some (.pv (.raw (.int k m)))) (hy:ev st y=some (.pv (.raw (.int k n)))) (hn:n≠0) (hd:∀d,o.dst=some d→d < C.N):OpE C st.tys o st (valE (.pv (.raw (.int k (k.wrap (m.tdiv n))))) []):=by
 refine opE_bin ho hx hy (fun w=>?_) hd;simp[binOp,Op.intDiv,eqGuard,hn]
theorem opE_remZ (ho:o.op=.binOp .rem t x y t2) (hx:ev st x=some (.pv (.raw (.int k m)))) (hy:ev st y=some (.pv (.raw (.int k n)))) (hn:n≠0) (hz:m.tmod n=z) (hd:∀d,o.dst=some d→d < C.N):OpE C st.tys o st (valE (.pv (.raw (.int k z))) []):=hz▸opE_rem ho hx hy hn hd
theorem opE_quoZ (ho:o.op=.binOp .quo t x y t2) (hx:ev st x=some (.pv (.raw (.int k m)))) (hy:ev st y=some (.pv (.raw (.int k n)))) (hn:n≠0) (hz:k.wrap (m.tdiv n)=z) (hd:∀d,o.dst=some d→d < C.N):OpE C st.tys o st (valE (.pv (.raw (.int k z))) []):=hz▸opE_quo ho hx hy hn hd
theorem opE_convZ {s d:Nat} {j:IntKind} {ds:TypeDesc} (ho:o.op=.convert s d x) (hx:ev st x=some (.pv (.raw (.int k m)))) (hs:C.P.underlying s=some ds) (hu:C.P.underlying d=some (.int j)) (hz:j.wrap m=z) (hd:∀d,o.dst=some d→d < C.N):OpE C st.tys o st (valE (.pv (.raw (.int j z))) []):=hz▸opE_conv ho hx hs hu hd
end
theorem rem_u (a n:Nat):((a:Int).tmod (n:Int))=((a % n:Nat):Int):=rfl
theorem quo_u (a n:Nat) (h:a < 65536):IntKind.wrap .u16 ((a:Int).tdiv (n:Int))=((a / n:Nat):Int):=by
 have h1:a / n≤a:=Nat.div_le_self a n;show IntKind.wrap .u16 ((a / n:Nat):Int)=_;generalize a / n=b at h1;unfold IntKind.wrap;simp only[show IntKind.bits .u16=16 from rfl,show IntKind.signed .u16=false from rfl,Bool.false_and,Bool.false_eq_true,if_false];omega
theorem conv_u (a:Nat) (h:a < 1000000):IntKind.wrap .i64 (a:Int)=(a:Int):=i64_wrap om om
theorem r_grow0T {s:Sc} {a b:Nat} (h:GrowOk a b 0 s) (hv:∀p∈s.q.g.units,∀t∈p.terms,0≤t.1∧t.1≤1000) (hg:s.q.goal.S 3 8) (hgv:∀t∈s.q.goal.terms,0≤t.1∧t.1≤1000):PCalls Tryz.prog TF 25 [scP s,iP 0,bP true] (.tup [ndP (growR 0 s true).1,ratP (growR 0 s true).2]):=by
 have hb:(boundedR s).Va a b:=h _ (nr _);have hq:(boundedR s).q=s.q:=(bounded_q s _).1;have hlen:=bounded_len s s.q.g.units.length;refine pcA [85,46,35,42] Tryz.func25 (fun D=>?_);refine akT (c:=by exact (show _=true from rfl)) ?_;refine ac (c:=r_bounded h hv) ?_;refine ac (c:=r_above hb hg hgv) ?_;refine au ?_;refine ro0 Y Y Y (fun hd=>opE_sub tab_ok Y Y Y (.inr ⟨_,rfl,show _=some (SV.pv (iP ((0:Nat):Int))) from rfl⟩) (.inl ⟨rfl,rfl⟩) (by rw[List.length_map];exact nq _) (nr _) Y dx hd) ?_;exact ar (c:=by rw[List.take_length,← List.map_drop];rfl)
theorem r_grow0F {s:Sc} {a b:Nat} (h:GrowOk a b 0 s) (hv:∀p∈s.q.g.units,∀t∈p.terms,0≤t.1∧t.1≤1000) (hg:s.q.goal.S 3 8) (hgv:∀t∈s.q.goal.terms,0≤t.1∧t.1≤1000):PCalls Tryz.prog TF 25 [scP s,iP 0,bP false] (.tup [ndP (growR 0 s false).1,ratP (growR 0 s false).2]):=by
 have hb:(boundedR s).Va a b:=h _ (nr _);have hq:(boundedR s).q=s.q:=(bounded_q s _).1;have hlen:=bounded_len s s.q.g.units.length;refine pcA [85,46,35,42] Tryz.func25 (fun D=>?_);refine akT (c:=by exact (show _=true from rfl)) ?_;refine ac (c:=r_bounded h hv) ?_;refine ac (c:=r_above hb hg hgv) ?_;refine au ?_;refine ro0 Y Y Y (fun hd=>opE_sub tab_ok Y Y Y (.inr ⟨_,rfl,rfl⟩) (.inl ⟨rfl,rfl⟩) (by rw[List.length_map];rw[List.length_map];exact hlen) (nr _) Y dx hd) ?_;exact ar (c:=by rw[List.take_length,← List.map_drop];rw[List.length_map];rfl)
theorem r_growST {k:Nat} {s:Sc} (hp9:s.path.length≤100) (hk9:k≤1000) (ihA:PCalls Tryz.prog TF 25 [scP (s.dec 1 k),iP (k:Int),bP false] (.tup [ndP (growR k (s.dec 1 k) false).1,ratP (growR k (s.dec 1 k) false).2])) (ihB:PCalls Tryz.prog TF 25 [scP (s.dec 2 k),iP (k:Int),bP false] (.tup [ndP (growR k (s.dec 2 k) false).1,ratP (growR k (s.dec 2 k) false).2])) (hA:(growR k (s.dec 1 k) false).2.S 1000) (hB:(growR k (s.dec 2 k) false).2.S 1000):PCalls Tryz.prog TF 25 [scP s,iP ((k+1:Nat):Int),bP true] (.tup [ndP (growR (k+1) s true).1,ratP (growR (k+1) s true).2]):=by
 simp only[growR];unfold Sc.dec at*;rw[← scR_eq] at ihA ihB;generalize growR k ⟨s.q,s.path++[⟨1,(k:Int),Q.zero⟩],s.lems⟩ false=A at*;generalize growR k ⟨s.q,s.path++[⟨2,(k:Int),Q.zero⟩],s.lems⟩ false=B at*;obtain⟨⟨l1,d1,k1,e1,p1⟩,v1⟩:=A;obtain⟨⟨l2,d2,k2,e2,p2⟩,v2⟩:=B;simp only at hA hB;refine pcA [85,46,35,42] Tryz.func25 (fun D=>?_);refine akF (c:=by exact (show _=false from beq_eq_false_iff_ne.2 om)) ?_;refine aa (c:=ari_back om) ?_;refine aa (c:=ari_back om) ?_;refine au ?_;refine rp0 el_Decision (by simp;omega) Y Y Y Y Y Y Y Y ?_;refine au ?_;refine rp0 el_Decision (by simp;omega) Y Y Y Y Y Y Y Y ?_;refine aa (c:=ari_back om) ?_;refine ac (c:=ihA) ?_;refine au ?_;refine rp0 el_Decision (by simp;omega) Y Y Y Y Y Y Y Y ?_;refine au ?_;refine rp0 el_Decision (by simp;omega) Y Y Y Y Y Y Y Y ?_;refine aa (c:=ari_back om) ?_;refine ac (c:=ihB) ?_;refine ac (c:=r_min (hA.sm dx) (hB.sm dx) hA.ok hB.neg.ok ((hA.add hB.neg).sm dx)) ?_;exact ar (c:=rfl)
theorem r_growSF {k:Nat} {s:Sc} (hp9:s.path.length≤100) (hk9:k≤1000) (ihA:PCalls Tryz.prog TF 25 [scP (s.dec 1 k),iP (k:Int),bP false] (.tup [ndP (growR k (s.dec 1 k) false).1,ratP (growR k (s.dec 1 k) false).2])) (ihB:PCalls Tryz.prog TF 25 [scP (s.dec 2 k),iP (k:Int),bP false] (.tup [ndP (growR k (s.dec 2 k) false).1,ratP (growR k (s.dec 2 k) false).2])) (hA:(growR k (s.dec 1 k) false).2.S 1000) (hB:(growR k (s.dec 2 k) false).2.S 1000):PCalls Tryz.prog TF 25 [scP s,iP ((k+1:Nat):Int),bP false] (.tup [ndP (growR (k+1) s false).1,ratP (growR (k+1) s false).2]):=by
 simp only[growR];unfold Sc.dec at*;rw[← scR_eq] at ihA ihB;generalize growR k ⟨s.q,s.path++[⟨1,(k:Int),Q.zero⟩],s.lems⟩ false=A at*;generalize growR k ⟨s.q,s.path++[⟨2,(k:Int),Q.zero⟩],s.lems⟩ false=B at*;obtain⟨⟨l1,d1,k1,e1,p1⟩,v1⟩:=A;obtain⟨⟨l2,d2,k2,e2,p2⟩,v2⟩:=B;simp only at hA hB;refine pcA [85,46,35,42] Tryz.func25 (fun D=>?_);refine akF (c:=by exact (show _=false from beq_eq_false_iff_ne.2 om)) ?_;refine aa (c:=ari_back om) ?_;refine aa (c:=ari_back om) ?_;refine au ?_;refine rp0 el_Decision (by simp;omega) Y Y Y Y Y Y Y Y ?_;refine au ?_;refine rp0 el_Decision (by simp;omega) Y Y Y Y Y Y Y Y ?_;refine aa (c:=ari_back om) ?_;refine ac (c:=ihA) ?_;refine au ?_;refine rp0 el_Decision (by simp;omega) Y Y Y Y Y Y Y Y ?_;refine au ?_;refine rp0 el_Decision (by simp;omega) Y Y Y Y Y Y Y Y ?_;refine aa (c:=ari_back om) ?_;refine ac (c:=ihB) ?_;refine ac (c:=r_min (hA.sm dx) (hB.sm dx) hA.ok hB.neg.ok ((hA.add hB.neg).sm dx)) ?_;exact ar (c:=rfl)
theorem r_growF:∀(k:Nat) {s:Sc} {a b:Nat},k≤1000→GrowOk a b k s→(∀p∈s.q.g.units,∀t∈p.terms,0≤t.1∧t.1≤1000)→s.q.goal.S 3 8→(∀t∈s.q.goal.terms,0≤t.1∧t.1≤1000)→PCalls Tryz.prog TF 25 [scP s,iP (k:Int),bP false] (.tup [ndP (growR k s false).1,ratP (growR k s false).2])
 | 0,s,a,b,hk,h,hv,hg,hgv=>r_grow0F h hv hg hgv
 | k+1,s,a,b,hk,h,hv,hg,hgv=>r_growSF h.2.2.2.2 om (r_growF k om h.1 hv hg hgv) (r_growF k om h.2.1 hv hg hgv) h.2.2.1 h.2.2.2.1
theorem r_growT {k:Nat} {s:Sc} {a b:Nat} (hk:k≤1000) (h:GrowOk a b k s) (hv:∀p∈s.q.g.units,∀t∈p.terms,0≤t.1∧t.1≤1000) (hg:s.q.goal.S 3 8) (hgv:∀t∈s.q.goal.terms,0≤t.1∧t.1≤1000):PCalls Tryz.prog TF 25 [scP s,iP (k:Int),bP true] (.tup [ndP (growR k s true).1,ratP (growR k s true).2]):=by
 cases k with
 | zero=>exact r_grow0T h hv hg hgv
 | succ k=>exact r_growST h.2.2.2.2 om (r_growF k om h.1 hv hg hgv) (r_growF k om h.2.1 hv hg hgv) h.2.2.1 h.2.2.2.1
def spC (u:Nat):Q:=quot (decide (((u % 7:Nat):Int) - 3 < 0)) (((u % 7:Nat):Int) - 3).natAbs 2
theorem spC_S (u:Nat):(spC u).S 1:=by
 have h:(((u % 7:Nat):Int) - 3).natAbs < 10:=by omega
 have h1:(limbs (((u % 7:Nat):Int) - 3).natAbs).length≤1:=limbs_len_le (nk h dx);exact quot_S _ h1 dx (limbs_len_le (k:=1) dx)
def spM (p:List Mm) (i:Nat) (c:Q):List Mm:=p.set i ((atZ p (i:Int)).1,Q.add (atZ p (i:Int)).2 c)
def spL (l:List Lm) (i:Nat) (c:Q):List Lm:=l.set i ⟨(atZ l (i:Int)).unit,(atZ l (i:Int)).upper,Q.add (atZ l (i:Int)).value c,(atZ l (i:Int)).proof⟩
def spN:Nat→Nd→Nat→Nd
 | 0,.mk ls d ks e p,u=>bif decide (0 < (p.length:Int))&&decide (((u % 4:Nat):Int) < 2) then .mk ls d ks e (spM p (u / 4 % p.length) (spC u)) else bif decide (0 < (ls.length:Int)) then .mk (spL ls (u / 4 % ls.length) (spC u)) d ks e p else .mk ls d ks e p
 | k+1,.mk ls d ks e p,u=>match ks[u % 2]? with
  | some c=>.mk ls d (ks.set (u % 2) (spN k c (u / 2))) e p
  | none=>.mk ls d ks e p
theorem kidC {ks:List Nd} {i:Nat} {c:Nd} (h:ks[i]?=some c):(ndCs ks)[i]?=some (ndC c):=by rw[ndCs_map];exact getmap h
theorem spl_zero {α:Type} {l m:List α} (h:m.length=l.length):spl l 0 m=m:=by
 have:=spl_all m l [] (by simpa using h) rfl;simpa using this
theorem ndC_len (n:Nd):(ndC n).length=9:=by cases n;rfl
theorem kid_set {ks:List Nd} {i:Nat} {c c':Nd}:([]++ndCs ks).set i (spl (ndC c) 0 (ndC c'))=ndCs (ks.set i c'):=by
 rw[List.nil_append,spl_zero (by rw[ndC_len,ndC_len]),ndCs_map,ndCs_map,List.map_set]
theorem spM_map {p:List Mm} {i:Nat} {c:Q}:([]++p.map mmC).set i (spl (mmC (atZ p (i:Int))) 4 (qC (Q.add (atZ p (i:Int)).2 c)))=(spM p i c).map mmC:=by
 rw[List.nil_append,spM,List.map_set];rfl
theorem spL_map {p:List Lm} {i:Nat} {c:Q}:([]++p.map lmC).set i (spl (lmC (atZ p (i:Int))) 2 (qC (Q.add (atZ p (i:Int)).value c)))=(spL p i c).map lmC:=by
 rw[List.nil_append,spL,List.map_set];rfl
theorem r_spS {ls:List Lm} {d:Dc} {ks:List Nd} {e:Bool} {p:List Mm} {u:Nat} {c c1:Nd} (h2:ks.length=2) (hc:ks[u % 2]?=some c) (hu:u < 65536) (ih:PCalls Tryz.prog TU 11 [ndP c,.raw (.int .u16 ((u / 2:Nat):Int))] (ndP c1)):PCalls Tryz.prog TU 11 [ndP (.mk ls d ks e p),.raw (.int .u16 (u:Int))] (ndP (.mk ls d (ks.set (u % 2) c1) e p)):=by
 have hk:=kidC hc;have hs:=kid_set (ks:=ks) (i:=u % 2) (c:=c) (c':=c1);have hl:([]++ndCs ks).length=2:=by rw[List.nil_append,ndCs_map,List.length_map,h2]
 obtain⟨l1,d1,k1,e1,p1⟩:=c;obtain⟨l2,d2,k2,e2,p2⟩:=c1;refine pcA [46,35] Tryz.func11 (fun D=>?_);refine akT (c:=by exact (show _=true from by rw[show (ndCs ks).length=2 from hl];rfl)) ?_;refine rn Y (pi Y ?_);refine pr0 (qg 1 ?_);refine ro0 Y Y Y (fun hd=>opE_remZ Y Y Y dx (rem_u u 2) hd) ?_;refine ro0 Y Y Y (fun hd=>opE_convZ (ds:=.int .u16) (j:=.i64) Y Y (by kernel_rfl) (by kernel_rfl) (conv_u _ om) hd) ?_;refine au ?_;refine rp0 el_Node (by rw[show (ndCs ks).length=2 from hl];decide) Y Y Y Y Y Y Y Y ?_;refine ax (c:=hk) ?_;refine qg 2 ?_;refine ro0 Y Y Y (fun hd=>opE_quoZ Y Y Y dx (quo_u u 2 hu) hd) ?_;refine ac (c:=ih) ?_;refine ro0 Y Y Y (fun hd=>opE_idxE (i:=u % 2) tab_ok Y Y Y Y Y Y dx Y hk hd) ?_;refine ro0 Y Y Y (fun hd=>opE_storeN (i:=u % 2) (j:=0) tab_ok Y Y Y Y Y Y Y Y hk Y (nr 9) Y Y Y) ?_;exact ar (c:=congrArg (fun x=>PV.agg [lmsP ls,iP d.kind,iP d.index,bP d.at_.neg,.nat d.at_.num,.nat d.at_.den,.rows 46 9 ndT x,bP e,mmsP p]) hs)
theorem r_spL {ls:List Lm} {d:Dc} {e:Bool} {p:List Mm} {u:Nat} (hu:u < 65536) (hp:∀m∈p,m.2.S 5000) (hl:∀m∈ls,m.value.S 5000) (p9:p.length≤100000) (l9:ls.length≤100000):PCalls Tryz.prog TU 11 [ndP (.mk ls d [] e p),.raw (.int .u16 (u:Int))] (ndP (spN 0 (.mk ls d [] e p) u)):=by
 have hc:=spC_S u;rw[spN];refine pcA [46,35,98,100] Tryz.func11 (fun D=>?_);refine akF (c:=by exact (show _=false from rfl)) ?_;refine rn Y (pj Y ?_);refine pk (pr0 (qg 1 ?_));refine ro0 Y Y Y (fun hd=>opE_remZ Y Y Y dx (rem_u u 7) hd) ?_;refine ro0 Y Y Y (fun hd=>opE_convZ (ds:=.int .u16) (j:=.i64) Y Y (by kernel_rfl) (by kernel_rfl) (conv_u _ om) hd) ?_;refine aa (c:=ari_sub om om om om) ?_;refine ac (c:=r_frac (((u % 7:Nat):Int) - 3) 2 om om dx dx) ?_;refine a2 (fun e48=>?_) (fun e48=>?_)
 ·rw[List.length_map] at e48;refine qg 1 ?_;refine ro0 Y Y Y (fun hd=>opE_remZ Y Y Y dx (rem_u u 4) hd) ?_;refine a2 (fun e52=>?_) (fun e52=>?_)
  ·have hp0:0 < p.length:=by have:=of_decide_eq_true e48;omega
   have hi:u / 4 % p.length < p.length:=Nat.mod_lt _ hp0;have hm:=hp _ (mg (get_of hi));refine pr0 (qg 1 ?_);refine ro0 Y Y Y (fun hd=>opE_quoZ Y Y Y dx (quo_u u 4 hu) hd) ?_;refine ro0 Y Y Y (fun hd=>opE_convZ (ds:=.int .u16) (j:=.i64) Y Y (by kernel_rfl) (by kernel_rfl) (conv_u _ om) hd) ?_;refine qg 3 ?_;refine ro0 Y Y Y (fun hd=>opE_remZ Y Y Y (by rw[List.length_map];omega) ((congrArg (fun n:Nat=>Int.tmod ((u / 4:Nat):Int) (n:Int)) (List.length_map ..)).trans (rem_u (u / 4) p.length)) hd) ?_;refine au ?_;refine rp0 el_Mult (by rw[List.length_map];exact nt (Nat.add_le_add_left p9 _) dx) Y Y Y Y Y Y Y Y ?_;refine qg 2 ?_;refine rn Y (pr0 (qg 6 ?_));refine ro0 Y Y Y (fun hd=>opE_idxE (i:=u / 4 % p.length) tab_ok Y Y Y Y Y Y dx Y (getmap (get_of hi)) hd) ?_;refine qg 1 ?_;refine ro0 Y Y Y (fun hd=>opE_loadN (i:=u / 4 % p.length) (j:=4) tab_ok Y Y Y Y Y Y (getmap (get_of hi)) Y dx hd) ?_;refine ac (c:=r_add (hm.sm dx) (hc.sm dx) hm.ok hc.ok) ?_;refine ro0 Y Y Y (fun hd=>opE_idxE (i:=u / 4 % p.length) tab_ok Y Y Y Y Y Y dx Y (getmap (get_of hi)) hd) ?_;refine qg 1 ?_;refine ro0 Y Y Y (fun hd=>opE_storeN (i:=u / 4 % p.length) (j:=4) tab_ok Y Y Y Y Y Y Y Y (getmap (get_of hi)) Y (nr 7) Y Y Y) ?_;exact ar (c:=by rw[e48,e52];exact congrArg (fun x=>PV.agg [lmsP ls,iP d.kind,iP d.index,bP d.at_.neg,.nat d.at_.num,.nat d.at_.den,.rows 46 9 ndT [],bP e,.rows 98 7 [200] x]) spM_map)
  ·refine a2 (fun e82=>?_) (fun e82=>?_)
   ·rw[List.length_map] at e82;have hp0:0 < ls.length:=by have:=of_decide_eq_true e82;omega
    have hi:u / 4 % ls.length < ls.length:=Nat.mod_lt _ hp0;have hm:=hl _ (mg (get_of hi));refine pr0 (qg 1 ?_);refine ro0 Y Y Y (fun hd=>opE_quoZ Y Y Y dx (quo_u u 4 hu) hd) ?_;refine ro0 Y Y Y (fun hd=>opE_convZ (ds:=.int .u16) (j:=.i64) Y Y (by kernel_rfl) (by kernel_rfl) (conv_u _ om) hd) ?_;refine qg 3 ?_;refine ro0 Y Y Y (fun hd=>opE_remZ Y Y Y (by rw[List.length_map];omega) ((congrArg (fun n:Nat=>Int.tmod ((u / 4:Nat):Int) (n:Int)) (List.length_map ..)).trans (rem_u (u / 4) ls.length)) hd) ?_;refine au ?_;refine rp0 el_Lemma (by rw[List.length_map];exact nt (Nat.add_le_add_left l9 _) dx) Y Y Y Y Y Y Y Y ?_;refine qg 2 ?_;refine rn Y (pr0' (qg 6 ?_));refine ro0 Y Y Y (fun hd=>opE_idxE (i:=u / 4 % ls.length) tab_ok Y Y Y Y Y Y dx Y (getmap (get_of hi)) hd) ?_;refine qg 1 ?_;refine ro0 Y Y Y (fun hd=>opE_loadN (i:=u / 4 % ls.length) (j:=2) tab_ok Y Y Y Y Y Y (getmap (get_of hi)) Y dx hd) ?_;refine ac (c:=r_add (hm.sm dx) (hc.sm dx) hm.ok hc.ok) ?_;refine ro0 Y Y Y (fun hd=>opE_idxE (i:=u / 4 % ls.length) tab_ok Y Y Y Y Y Y dx Y (getmap (get_of hi)) hd) ?_;refine qg 1 ?_;refine ro0 Y Y Y (fun hd=>opE_storeN (i:=u / 4 % ls.length) (j:=2) tab_ok Y Y Y Y Y Y Y Y (getmap (get_of hi)) Y (show 2+3≤6 from by decide) Y Y Y) ?_;exact ar (c:=by rw[e48,e52,e82];exact congrArg (fun x=>PV.agg [.rows 100 6 [200,98] x,iP d.kind,iP d.index,bP d.at_.neg,.nat d.at_.num,.nat d.at_.den,.rows 46 9 ndT [],bP e,mmsP p]) spL_map)
   ·rw[List.length_map] at e82;exact ar (c:=by rw[e48,e52,e82];rfl)
 ·rw[List.length_map] at e48;refine a2 (fun e82=>?_) (fun e82=>?_)
  ·rw[List.length_map] at e82;have hp0:0 < ls.length:=by have:=of_decide_eq_true e82;omega
   have hi:u / 4 % ls.length < ls.length:=Nat.mod_lt _ hp0;have hm:=hl _ (mg (get_of hi));refine pr0 (qg 1 ?_);refine ro0 Y Y Y (fun hd=>opE_quoZ Y Y Y dx (quo_u u 4 hu) hd) ?_;refine ro0 Y Y Y (fun hd=>opE_convZ (ds:=.int .u16) (j:=.i64) Y Y (by kernel_rfl) (by kernel_rfl) (conv_u _ om) hd) ?_;refine qg 3 ?_;refine ro0 Y Y Y (fun hd=>opE_remZ Y Y Y (by rw[List.length_map];omega) ((congrArg (fun n:Nat=>Int.tmod ((u / 4:Nat):Int) (n:Int)) (List.length_map ..)).trans (rem_u (u / 4) ls.length)) hd) ?_;refine au ?_;refine rp0 el_Lemma (by rw[List.length_map];exact nt (Nat.add_le_add_left l9 _) dx) Y Y Y Y Y Y Y Y ?_;refine qg 2 ?_;refine rn Y (pr0' (qg 6 ?_));refine ro0 Y Y Y (fun hd=>opE_idxE (i:=u / 4 % ls.length) tab_ok Y Y Y Y Y Y dx Y (getmap (get_of hi)) hd) ?_;refine qg 1 ?_;refine ro0 Y Y Y (fun hd=>opE_loadN (i:=u / 4 % ls.length) (j:=2) tab_ok Y Y Y Y Y Y (getmap (get_of hi)) Y dx hd) ?_;refine ac (c:=r_add (hm.sm dx) (hc.sm dx) hm.ok hc.ok) ?_;refine ro0 Y Y Y (fun hd=>opE_idxE (i:=u / 4 % ls.length) tab_ok Y Y Y Y Y Y dx Y (getmap (get_of hi)) hd) ?_;refine qg 1 ?_;refine ro0 Y Y Y (fun hd=>opE_storeN (i:=u / 4 % ls.length) (j:=2) tab_ok Y Y Y Y Y Y Y Y (getmap (get_of hi)) Y (show 2+3≤6 from by decide) Y Y Y) ?_;exact ar (c:=by rw[e48,e82];exact congrArg (fun x=>PV.agg [.rows 100 6 [200,98] x,iP d.kind,iP d.index,bP d.at_.neg,.nat d.at_.num,.nat d.at_.den,.rows 46 9 ndT [],bP e,mmsP p]) spL_map)
  ·rw[List.length_map] at e82;exact ar (c:=by rw[e48,e82];rfl)
def sgnR (s:Bool) (a:Nat):Rat:=bif s then -(a:Rat) else (a:Rat)
def Q.r (q:Q):Rat:=sgnR q.neg q.num / (q.un:Rat)
theorem nat_ne {n:Nat} (h:0 < n):(n:Rat)≠0:=by
 have:n≠0:=by omega
 exact_mod_cast this
theorem Q.un_ne (q:Q):(q.un:Rat)≠0:=nat_ne q.un_pos
theorem sgnR_zero (s:Bool):sgnR s 0=0:=by cases s<;>simp[sgnR]
theorem sgnR_mul (s t:Bool) (a b:Nat):sgnR (s != t) (a*b)=sgnR s a*sgnR t b:=by
 cases s<;>cases t<;>simp only[sgnR,bne_self_eq_false,cond_true,cond_false,Rat.natCast_mul,Bool.true_bne,Bool.false_bne,Bool.not_false,Bool.not_true,bne]<;>first | grind | (simp;grind)
theorem quot_r (s:Bool) (a:Nat) {b:Nat} (hb:0 < b):(quot s a b).r=sgnR s a / (b:Rat):=by
 unfold quot;split
 ·rename_i h0
  subst h0;rw[sgnR_zero];show sgnR false 0 / _=_;rw[sgnR_zero];grind
 ·rename_i h0
  have hg:=Nat.gcd_pos_of_pos_left b (Nat.pos_of_ne_zero h0);obtain⟨x,hx⟩:=Nat.gcd_dvd_left a b;obtain⟨y,hy⟩:=Nat.gcd_dvd_right a b;generalize Nat.gcd a b=g at*;subst hx hy;have hd2:0 < (g*y) / g:=by
   rw[Nat.mul_div_cancel_left _ hg];rcases Nat.eq_zero_or_pos y with h1 | h1
   ·rw[h1,Nat.mul_zero] at hb;omega
   ·exact h1
  unfold Q.r;rw[den0_un _ _ _ hd2];simp only;rw[Nat.mul_div_cancel_left _ hg,Nat.mul_div_cancel_left _ hg] at*;have hyr:=nat_ne hd2;have hgr:=nat_ne hg;cases s<;>simp only[sgnR,cond_true,cond_false,Rat.natCast_mul]<;>grind
theorem sadd_r (na:Bool) (a:Nat) (nb:Bool) (b:Nat):sgnR (sadd na a nb b).1 (sadd na a nb b).2=sgnR na a+sgnR nb b:=by
 unfold sadd;split
 ·rename_i h
  subst h;rcases Nat.eq_zero_or_pos (a+b) with h0 | h0
  ·have ha:a=0:=by omega
   have hb:b=0:=by omega
   subst ha hb;rw[sgnR_zero,sgnR_zero];grind
  ·rw[dt h0,Bool.and_true];cases na<;>simp only[sgnR,cond_true,cond_false,Rat.natCast_add]<;>grind
 ·rename_i h
  split
  ·rename_i hl
   obtain⟨c,rfl⟩:=Nat.exists_eq_add_of_le (Nat.le_of_lt hl);rw[Nat.add_sub_cancel_left];cases na<;>cases nb<;>simp only[sgnR,cond_true,cond_false,Rat.natCast_add]<;>first | grind | exact absurd rfl h
  ·rename_i hl
   obtain⟨c,rfl⟩:=Nat.exists_eq_add_of_le (Nat.le_of_not_lt hl);rw[Nat.add_sub_cancel_left];rcases Nat.eq_zero_or_pos c with h0 | h0
   ·subst h0;cases na<;>cases nb<;>simp[sgnR]<;>first | grind | exact absurd rfl h
   ·rw[dt h0,Bool.and_true];cases na<;>cases nb<;>simp only[sgnR,cond_true,cond_false,Rat.natCast_add]<;>first | grind | exact absurd rfl h
theorem sg_r (x:Q) {a:Nat} {k:Nat} (ha:a=x.num*k):sgnR (x.sg&&decide (0 < a)) a=sgnR x.neg a:=by
 rcases Nat.eq_zero_or_pos a with h0 | h0
 ·rw[h0,sgnR_zero,sgnR_zero]
 ·have:0 < x.num:=by
   rcases Nat.eq_zero_or_pos x.num with h1 | h1
   ·rw[ha,h1,Nat.zero_mul] at h0;omega
   ·exact h1
  unfold Q.sg;rw[dt h0,dt this,Bool.and_true,Bool.and_true]
theorem sgnR_k (s:Bool) (a k:Nat):sgnR s (a*k)=sgnR s a*(k:Rat):=by cases s<;>simp only[sgnR,cond_true,cond_false,Rat.natCast_mul]<;>grind
theorem Q.add_r (x y:Q):(Q.add x y).r=x.r+y.r:=by
 unfold Q.add;simp only;rw[quot_r _ _ (Nat.mul_pos x.un_pos y.un_pos),sadd_r,sg_r x rfl,sg_r y rfl,sgnR_k,sgnR_k];have h1:=x.un_ne;have h2:=y.un_ne;unfold Q.r;rw[Rat.natCast_mul]
 grind
theorem Q.mul_r (x y:Q):(Q.mul x y).r=x.r*y.r:=by
 unfold Q.mul;rw[quot_r _ _ (Nat.mul_pos x.un_pos y.un_pos),sgnR_mul];have h1:=x.un_ne;have h2:=y.un_ne;unfold Q.r;rw[Rat.natCast_mul]
 grind
theorem Q.neg_r (x:Q):x.neg'.r=-x.r:=by
 show (quot (!x.neg) x.num x.un).r=_;rw[quot_r _ _ x.un_pos];have h1:=x.un_ne;unfold Q.r;cases x.neg<;>simp only[sgnR,cond_true,cond_false,Bool.not_true,Bool.not_false]<;>grind
theorem zero_r:Q.zero.r=0:=by
 show sgnR false 0 / _=_;rw[sgnR_zero];grind
theorem one_r:Q.one.r=1:=by
 show sgnR false 1 / ((1:Nat):Rat)=_;simp only[sgnR,cond_false];grind
theorem mone_r:Q.mone.r=-1:=by
 show sgnR true 1 / ((1:Nat):Rat)=_;simp only[sgnR,cond_true];grind
theorem Q.div_r (x y:Q) (h:y.num≠0):(Q.div x y).r=x.r / y.r:=by
 unfold Q.div;rw[quot_r _ _ (Nat.mul_pos x.un_pos (Nat.pos_of_ne_zero h)),sgnR_k];have h1:=x.un_ne;have h2:=y.un_ne;have h3:=nat_ne (Nat.pos_of_ne_zero h);unfold Q.r;rw[Rat.natCast_mul];cases x.neg<;>cases y.neg<;>simp only[sgnR,cond_true,cond_false,bne_self_eq_false,Bool.true_bne,Bool.false_bne,Bool.not_false,Bool.not_true,bne,beq_self_eq_true]<;>first | grind | (simp;grind)
theorem dz_bd {q:Q} {D:Nat} {z:Int} (h:q.Ok) (hD:0 < D) (he:q.r*(D:Rat)=(z:Rat)):q.num≤z.natAbs∧q.un≤D:=by
 have hu:=q.un_ne;have e1:sgnR q.neg q.num*(D:Rat)=(z:Rat)*(q.un:Rat):=by
  unfold Q.r at he
  grind
 have e2:sgnR q.neg q.num=(((bif q.neg then -(q.num:Int) else (q.num:Int)):Int):Rat):=by
  have ec:((q.num:Int):Rat)=(q.num:Rat):=Rat.intCast_natCast _;cases q.neg<;>simp only[sgnR,cond_true,cond_false]
  ·exact ec.symm
  ·rw[Rat.intCast_neg,ec]
 rw[e2] at e1;have e3:(bif q.neg then -(q.num:Int) else (q.num:Int))*(D:Int)=z*(q.un:Int):=by exact_mod_cast e1
 have e4:q.num*D=z.natAbs*q.un:=by
  have:=congrArg Int.natAbs e3;rw[Int.natAbs_mul,Int.natAbs_mul] at this;cases hn:q.neg<;>rw[hn] at this<;>simpa using this
 have hc:Nat.Coprime q.un q.num:=by rw[Nat.coprime_comm];exact h.cop
 have hdvd:q.un ∣ D:=hc.dvd_of_dvd_mul_left (show q.un ∣ q.num*D from ⟨z.natAbs,by rw[e4,Nat.mul_comm]⟩);refine⟨?_,Nat.le_of_dvd hD hdvd⟩;obtain⟨e,rfl⟩:=hdvd;have he0:0 < e:=by
  rcases Nat.eq_zero_or_pos e with g | g
  ·rw[g] at hD;simp at hD
  ·exact g
 have e5:q.num*e=z.natAbs:=by
  apply Nat.eq_of_mul_eq_mul_right q.un_pos
  rw[← e4,Nat.mul_assoc,Nat.mul_comm e]
 rw[← e5];exact Nat.le_mul_of_pos_right _ he0
structure Q.Dz (q:Q) (D M:Nat):Prop where
 ok:q.Ok
 ex:∃z:Int,q.r*(D:Rat)=(z:Rat)∧z.natAbs≤M
theorem Q.Dz.S {q:Q} {D M:Nat} (h:q.Dz D M) (hD:0 < D) (hD9:D < 18446744073709551616) (hM:M < 18446744073709551616):q.S 2:=by
 obtain⟨z,hz,hm⟩:=h.ex;obtain⟨h1,h2⟩:=dz_bd h.ok hD hz;have hb:∀n,n < 18446744073709551616→(limbs n).length≤2:=fun n hn=>limbs_len_le (k:=2) (by rw[show B32 ^ 2=18446744073709551616 from rfl];exact hn)
 exact⟨hb _ om,hb _ om,h.ok⟩
theorem canon_r (q:Q):(canonQ q).r=q.r:=quot_r _ _ q.un_pos
theorem num0_r {q:Q} (h:q.num=0):q.r=0:=by unfold Q.r;rw[h,sgnR_zero];grind
def valM (k:Rw→Rat):List Mm→Rat
 | []=>0
 | m::l=>m.2.r*k m.1+valM k l
theorem valM_app (k:Rw→Rat):∀(a b:List Mm),valM k (a++b)=valM k a+valM k b
 | [],b=>by rw[List.nil_append,valM];grind
 | m::a,b=>by rw[List.cons_append,valM,valM,valM_app k a b];grind
theorem plus_val (k:Rw→Rat) (l:List Mm) (r:Rw) (c:Q):valM k (plusR l r c)=valM k l+c.r*k r:=by
 unfold plusR;cases hz:sgQ c == 0 with
 | true=>
  have h0:c.num=0:=by
   have:=eq_of_beq hz;unfold sgQ isg at this;split at this
   ·assumption
   ·cases hn:c.neg<;>rw[hn] at this<;>simp at this
  rw[cond_true,num0_r h0];grind
 | false=>
  rw[cond_false];have e1:∀(x:Mm),valM k [x]=x.2.r*k x.1:=fun x=>by rw[valM,valM];grind
  cases hh:decide ((posR r l:Int) < (l.length:Int))&&rowEq (atZ l (posR r l:Int)).1 r with
  | true=>
   rw[be] at hh;have hi:posR r l < l.length:=by have:=of_decide_eq_true hh.1;omega
   have he:(atZ l (posR r l:Int)).1=r:=by have:=hh.2;rw[rowEq_eq] at this;exact of_decide_eq_true this
   generalize posR r l=i at*;have hl:l=l.take i++[atZ l (i:Int)]++l.drop (i+1):=by
    rw[atZ_nat (ge hi),List.append_assoc,List.singleton_append,← List.drop_eq_getElem_cons hi,List.take_append_drop]
   rw[cond_true,valM_app,valM_app,e1]
   conv=>rhs;rw[hl]
   rw[valM_app,valM_app,e1,he];simp only;rw[Q.add_r];grind
  | false=>
   rw[cond_false,valM_app,valM_app,e1]
   conv=>rhs;rw[← List.take_append_drop (posR r l) l]
   rw[valM_app];simp only;rw[canon_r];grind
theorem merge_val (k:Rw→Rat) (c:Q):∀(b a:List Mm),valM k (mergeR c a b)=valM k a+c.r*valM k b
 | [],a=>by rw[mergeR,valM];grind
 | m::b,a=>by rw[mergeR,merge_val k c b,plus_val,valM,Q.mul_r];grind
def kR (s:Sc) (r:Rw):Rat:=(formR s r).1.const.r
theorem sumGo_val {s:Sc}:∀{l:List Mm} {acc f:Fm},sumGo s l acc=some f→f.const.r=acc.const.r+valM (kR s) l
 | [],acc,f,h=>by rw[sumGo] at h;injection h with h;subst h;rw[valM];grind
 | m::l,acc,f,h=>by
  rw[sumGo] at h;cases hf:(formR s m.1).2 with
  | false=>rw[hf] at h;cases h
  | true=>
   rw[hf] at h;have:=sumGo_val (l:=l) h;rw[this,valM];show (Q.add acc.const (Q.mul (formR s m.1).1.const m.2)).r+_=_;rw[Q.add_r,Q.mul_r];unfold kR
   grind
theorem sumR_val (s:Sc) (l:List Mm):(sumR s l).1.const.r=0∨(sumR s l).1.const.r=valM (kR s) l:=by
 unfold sumR;cases canonR l with
 | false=>left;exact zero_r
 | true=>
  cases e:sumGo s l Fm.zero with
  | none=>left;exact zero_r
  | some f=>
   right
   show f.const.r=_;rw[sumGo_val e,show Fm.zero.const=Q.zero from rfl,zero_r];grind
theorem above_val {s:Sc}:∀{ts:List Tm} {acc L:List Mm},aboveGo s ts acc=some L→∃ws:List Rat,ws.length=ts.length∧valM (kR s) L=valM (kR s) acc+ws.sum∧∀(i:Nat) (t:Tm) (w:Rat),ts[i]?=some t→ws[i]?=some w→w=t.2.abs.r*valM (kR s) (moreR s t).1∧(moreR s t).2=true
 | [],acc,L,h=>by
  rw[aboveGo] at h;injection h with h;subst h;exact⟨[],rfl,by simp;grind,fun i t w hi=>by simp at hi⟩
 | t::ts,acc,L,h=>by
  rw[aboveGo] at h;cases hm:(moreR s t).2 with
  | false=>rw[hm] at h;cases h
  | true=>
   rw[hm] at h;obtain⟨ws,h1,h2,h3⟩:=above_val h;refine⟨(t.2.abs.r*valM (kR s) (moreR s t).1)::ws,by simp[h1],?_,fun i u w hi hw=>?_⟩
   ·rw[h2,merge_val,List.sum_cons];grind
   ·cases i with
    | zero=>simp at hi hw;subst hi hw;exact⟨rfl,hm⟩
    | succ i=>simp at hi hw;exact h3 i u w hi hw
def BestOk (ls:List Lm) (unit:Int) (p:Nat×Nat):Prop:=(p.1≠0→(atZ ls ((p.1 - 1:Nat):Int)).unit=unit∧(atZ ls ((p.1 - 1:Nat):Int)).upper=false)∧(p.2≠0→(atZ ls ((p.2 - 1:Nat):Int)).unit=unit∧(atZ ls ((p.2 - 1:Nat):Int)).upper=true)
theorem bestF_ok {ls:List Lm} {unit:Int} {p:Nat×Nat} {n:Nat} (h:BestOk ls unit p):BestOk ls unit (bestF ls unit p n):=by
 unfold bestF;cases hu:(atZ ls (n:Int)).unit != unit with
 | true=>exact h
 | false=>
  have hu':(atZ ls (n:Int)).unit=unit:=by simpa using hu
  simp only[cond_false];refine⟨?_,?_⟩
  ·simp only;cases hc:!(atZ ls (n:Int)).upper&&(((p.1:Int) == 0)||decide (0 < cmpR (atZ ls (n:Int)).value (atZ ls ((p.1 - 1:Nat):Int)).value)) with
   | true=>
    rw[be] at hc;intro _;simp only[cond_true,Nat.add_sub_cancel];exact⟨hu',not_t hc.1⟩
   | false=>exact h.1
  ·simp only;cases hc:(atZ ls (n:Int)).upper&&(((p.2:Int) == 0)||decide (cmpR (atZ ls (n:Int)).value (atZ ls ((p.2 - 1:Nat):Int)).value < 0)) with
   | true=>
    rw[be] at hc;intro _;simp only[cond_true,Nat.add_sub_cancel];exact⟨hu',hc.1⟩
   | false=>exact h.2
theorem bestR_ok (ls:List Lm) (unit:Int):BestOk ls unit (bestR ls unit):=by
 have:∀i,BestOk ls unit ((List.range i).foldl (bestF ls unit) (0,0)):=fun i=>by
  induction i with
  | zero=>exact⟨fun h=>absurd rfl h,fun h=>absurd rfl h⟩
  | succ i ih=>rw[List.range_succ,List.foldl_append];exact bestF_ok ih
 exact this _
theorem lemma_best {ls:List Lm} {unit:Int} {k:Nat} {up:Bool} (h0:k≠0) (h1:k≤ls.length) (hu:(atZ ls ((k - 1:Nat):Int)).unit=unit) (hp:(atZ ls ((k - 1:Nat):Int)).upper=up):lemmaQ ls (k:Int) unit up=(canonQ (atZ ls ((k - 1:Nat):Int)).value,true):=by
 have e:((k:Int) - 1)=((k - 1:Nat):Int):=by omega
 unfold lemmaQ;rw[e,df (by omega:¬((k:Int) < 1)),df (by omega:¬((ls.length:Int) < (k:Int))),hu,hp];simp
theorem sub_const_r (f g:Fm):(Fm.subR f g).const.r=f.const.r - g.const.r:=by
 show (Q.add f.const (Q.mul g.const Q.mone)).r=_;rw[Q.add_r,Q.mul_r,mone_r];grind
theorem scale_const_r (f:Fm) (q:Q):(Fm.scaleR f q).const.r=f.const.r*q.r:=Q.mul_r _ _
theorem k_lo {s:Sc} {v:Int} (h0:0≤v) (h1:v < s.q.rg.lo.length):kR s ⟨1,v,0,0⟩=-(atZ s.q.rg.lo v).r:=by
 unfold kR formR;rw[dt h1];have:decide (v < 0)=false:=df om;simp only[this];show (Fm.subR (varR v) (numR (atZ s.q.rg.lo v))).const.r=_;rw[sub_const_r,show (varR v).const=Q.zero from rfl,show (numR (atZ s.q.rg.lo v)).const=atZ s.q.rg.lo v from rfl,zero_r];grind
theorem k_hi {s:Sc} {v:Int} (h0:0≤v) (h1:v < s.q.rg.hi.length):kR s ⟨2,v,0,0⟩=(atZ s.q.rg.hi v).r:=by
 unfold kR formR;rw[dt h1];have:decide (v < 0)=false:=df om;simp only[this];show (Fm.subR (numR (atZ s.q.rg.hi v)) (varR v)).const.r=_;rw[sub_const_r,show (varR v).const=Q.zero from rfl,show (numR (atZ s.q.rg.hi v)).const=atZ s.q.rg.hi v from rfl,zero_r];grind
theorem k_unit {s:Sc} {r:Rw} (h5:5≤r.kind) (h0:0≤r.index) (h1:r.index < s.q.g.units.length):kR s r=(bif (unitF (varR (s.q.g.inputs+r.index)) (atZ s.q.g.units r.index) (lemmaQ s.lems r.lo r.index false) (lemmaQ s.lems r.hi r.index true) (onQ s r (lemmaQ s.lems r.lo r.index false)) (offQ s r (lemmaQ s.lems r.hi r.index true)) r).2 then (unitF (varR (s.q.g.inputs+r.index)) (atZ s.q.g.units r.index) (lemmaQ s.lems r.lo r.index false) (lemmaQ s.lems r.hi r.index true) (onQ s r (lemmaQ s.lems r.lo r.index false)) (offQ s r (lemmaQ s.lems r.hi r.index true)) r).1.const.r else 0):=by
 unfold kR formR;rw[dt h5,cond_true];unfold unitQ;rw[df (by omega:¬r.index < 0),df (by omega:¬((s.q.g.units.length:Int)≤r.index)),Bool.or_self,cond_false];cases (unitF (varR (s.q.g.inputs+r.index)) (atZ s.q.g.units r.index) (lemmaQ s.lems r.lo r.index false) (lemmaQ s.lems r.hi r.index true) (onQ s r (lemmaQ s.lems r.lo r.index false)) (offQ s r (lemmaQ s.lems r.hi r.index true)) r).2 with
 | true=>rfl
 | false=>exact zero_r
theorem k_zero {s:Sc} {j:Int} (h0:0≤j) (h1:j < s.q.g.units.length):kR s ⟨5,j,0,0⟩=0:=by
 rw[k_unit (by show (5:Int)≤_;simp) h0 h1];show (bif true then (varR (s.q.g.inputs+j)).const.r else 0)=0;exact zero_r
theorem k_offeq {s:Sc} {j hi:Int} (h0:0≤j) (h1:j < s.q.g.units.length):kR s ⟨10,j,0,hi⟩=0:=by
 rw[k_unit (by show (5:Int)≤_;simp) h0 h1];show (bif offQ s ⟨10,j,0,hi⟩ _ then (Fm.scaleR (varR (s.q.g.inputs+j)) Q.mone).const.r else 0)=0;cases offQ s ⟨10,j,0,hi⟩ (lemmaQ s.lems hi j true) with
 | true=>rw[cond_true,scale_const_r,show (varR (s.q.g.inputs+j)).const=Q.zero from rfl,zero_r];grind
 | false=>rfl
theorem k_upper {s:Sc} {j hi:Int} {u:Q} (h0:0≤j) (h1:j < s.q.g.units.length) (hu:lemmaQ s.lems hi j true=(u,true)):kR s ⟨12,j,0,hi⟩=u.r - (atZ s.q.g.units j).const.r:=by
 rw[k_unit (by show (5:Int)≤_;simp) h0 h1];simp only[hu];show (bif true&&true then (Fm.subR (numR u) (atZ s.q.g.units j)).const.r else 0)=_;exact sub_const_r _ _
theorem k_oneq {s:Sc} {j lo:Int} {l:Q} (h0:0≤j) (h1:j < s.q.g.units.length) (hl:lemmaQ s.lems lo j false=(l,true)) (hs:decide (0≤sgQ l)=true):kR s ⟨8,j,lo,0⟩=(atZ s.q.g.units j).const.r:=by
 rw[k_unit (by show (5:Int)≤_;simp) h0 h1];have ho:onQ s ⟨8,j,lo,0⟩ (l,true)=true:=by
  unfold onQ;simp only[hs];simp
 simp only[hl,ho];show (bif true then (Fm.subR (atZ s.q.g.units j) (varR (s.q.g.inputs+j))).const.r else 0)=_;rw[cond_true,sub_const_r,show (varR (s.q.g.inputs+j)).const=Q.zero from rfl,zero_r];grind
theorem k_tri {s:Sc} {j lo hi:Int} {l u:Q} (h0:0≤j) (h1:j < s.q.g.units.length) (hl:lemmaQ s.lems lo j false=(l,true)) (hu:lemmaQ s.lems hi j true=(u,true)) (hs:decide (sgQ l < 0)=true) (ht:decide (0 < sgQ u)=true):kR s ⟨13,j,lo,hi⟩=((atZ s.q.g.units j).const.r - l.r)*u.r:=by
 rw[k_unit (by show (5:Int)≤_;simp) h0 h1];simp only[hl,hu];show (bif true&&(true&&(decide (sgQ l < 0)&&decide (0 < sgQ u))) then (Fm.subR (Fm.scaleR (Fm.subR (atZ s.q.g.units j) (numR l)) u) (Fm.scaleR (varR (s.q.g.inputs+j)) (Q.add u l.neg'))).const.r else 0)=_;rw[hs,ht];simp only[Bool.and_self,cond_true];rw[sub_const_r,scale_const_r,scale_const_r,sub_const_r,show (varR (s.q.g.inputs+j)).const=Q.zero from rfl,zero_r,show (numR l).const=l from rfl];grind
theorem r_ne {q:Q} (h:q.num≠0):q.r≠0:=by
 have h1:=q.un_ne;have h2:=nat_ne (Nat.pos_of_ne_zero h);unfold Q.r;cases q.neg<;>simp only[sgnR,cond_true,cond_false]<;>grind
theorem least_val {s:Sc} {a b:Nat} (hs:s.Va a b) {v:Int} (h0:0≤v) (hv:v < ((s.q.g.inputs+s.q.g.units.length:Nat):Int)):valM (kR s) (atLeastR s v)=(if v < s.q.g.inputs then -(atZ s.q.rg.lo v).r else 0):=by
 unfold atLeastR;by_cases hi:v < s.q.g.inputs
 ·rw[dt hi,if_pos hi,cond_true,valM,valM];simp only;rw[k_lo h0 (by rw[hs.q.rg.lo];exact hi),one_r];grind
 ·rw[df hi,if_neg hi,cond_false,valM,valM];simp only;rw[k_zero om om];grind
def hiV (s:Sc) (v:Int):Rat:=
 if v < s.q.g.inputs then (atZ s.q.rg.hi v).r
 else if decide (sgQ (atZ s.lems (((bestR s.lems (v - s.q.g.inputs)).2 - 1:Nat):Int)).value≤0) then 0 else (atZ s.lems (((bestR s.lems (v - s.q.g.inputs)).2 - 1:Nat):Int)).value.r
theorem most_val {s:Sc} {a b:Nat} (hs:s.Va a b) {v:Int} (h0:0≤v) (hv:v < ((s.q.g.inputs+s.q.g.units.length:Nat):Int)) (hm:(atMostR s v).2=true):valM (kR s) (atMostR s v).1=hiV s v∧(¬v < s.q.g.inputs→(bestR s.lems (v - s.q.g.inputs)).2≠0∧(bestR s.lems (v - s.q.g.inputs)).2≤s.lems.length):=by
 have one:∀(r:Rw),valM (kR s) [(r,Q.one)]=kR s r:=fun r=>by rw[valM,valM];simp only;rw[one_r];grind
 unfold atMostR at hm ⊢;unfold hiV;by_cases hi:v < s.q.g.inputs
 ·rw[dt hi,if_pos hi,cond_true,one,k_hi h0 (by rw[hs.q.rg.hi];exact hi)];exact⟨rfl,fun h=>absurd hi h⟩
 ·rw[df hi,if_neg hi] at*;obtain⟨b1,b2⟩:=bestR_le s.lems (v - s.q.g.inputs);obtain⟨o1,o2⟩:=bestR_ok s.lems (v - s.q.g.inputs);simp only[cond_false] at hm ⊢;generalize bestR s.lems (v - s.q.g.inputs)=p at*;cases h1:((p.1:Int) == 0) with
  | true=>rw[h1] at hm;simp at hm
  | false=>
   cases h2:((p.2:Int) == 0) with
   | true=>rw[h1,h2] at hm;simp at hm
   | false=>
    obtain⟨g1,l8⟩:=lem_at hs h1 b1;obtain⟨g2,u8⟩:=lem_at hs h2 b2;have n1:p.1≠0:=fun e=>by rw[e] at h1;simp at h1
    have n2:p.2≠0:=fun e=>by rw[e] at h2;simp at h2
    obtain⟨lu,lp⟩:=o1 n1;obtain⟨uu,up⟩:=o2 n2;have hl:=lemma_best n1 b1 lu lp;have hu:=lemma_best n2 b2 uu up;rw[l8.canon] at hl;rw[u8.canon] at hu;generalize (atZ s.lems ((p.1 - 1:Nat):Int)).value=l at*;generalize (atZ s.lems ((p.2 - 1:Nat):Int)).value=u at*;have hj0:0≤v - s.q.g.inputs:=by omega
    have hj1:v - s.q.g.inputs < s.q.g.units.length:=by omega
    refine⟨?_,fun _=>⟨n2,b2⟩⟩;simp only[Bool.or_self,cond_false];cases h3:decide (sgQ u≤0) with
    | true=>rw[cond_true,one,k_offeq hj0 hj1];rfl
    | false=>
     rw[cond_false];cases h4:decide (0≤sgQ l) with
     | true=>
      rw[cond_true,valM,one];simp only;rw[k_oneq hj0 hj1 hl h4,k_upper hj0 hj1 hu,one_r];simp;grind
     | false=>
      have h5:decide (sgQ l < 0)=true:=dt (by have:=of_decide_eq_false h4;omega);have h6:decide (0 < sgQ u)=true:=dt (by have:=of_decide_eq_false h3;omega);have hn:=span_pos l8.ok (of_decide_eq_false h3) (of_decide_eq_false h4);have hd:=r_ne hn;rw[cond_false,valM,valM,valM];simp only;rw[k_upper hj0 hj1 hu,k_tri hj0 hj1 hl hu h5 h6,Q.mul_r,Q.div_r _ _ hn,one_r];rw[Q.add_r,Q.neg_r] at hd ⊢;simp
      grind
def Rz (x:Rat) (D M:Nat):Prop:=∃z:Int,x*(D:Rat)=(z:Rat)∧z.natAbs≤M
theorem Rz.neg {x:Rat} {D M:Nat} (h:Rz x D M):Rz (-x) D M:=by
 obtain⟨z,h1,h2⟩:=h;exact⟨-z,by rw[Rat.intCast_neg,← h1];grind,by rw[Int.natAbs_neg];exact h2⟩
theorem Rz.add {x y:Rat} {D M N:Nat} (h:Rz x D M) (k:Rz y D N):Rz (x+y) D (M+N):=by
 obtain⟨z,h1,h2⟩:=h;obtain⟨w,k1,k2⟩:=k;exact⟨z+w,by rw[Rat.intCast_add,← h1,← k1];grind,nt (Int.natAbs_add_le ..) (Nat.add_le_add h2 k2)⟩
theorem Rz.mul {x y:Rat} {D E M N:Nat} (h:Rz x D M) (k:Rz y E N):Rz (x*y) (D*E) (M*N):=by
 obtain⟨z,h1,h2⟩:=h;obtain⟨w,k1,k2⟩:=k;exact⟨z*w,by rw[Rat.intCast_mul,Rat.natCast_mul,← h1,← k1];grind,by rw[Int.natAbs_mul];exact Nat.mul_le_mul h2 k2⟩
theorem Rz.zero (D M:Nat):Rz 0 D M:=⟨0,by simp,nq _⟩
theorem Rz.up {x:Rat} {D M N:Nat} (h:Rz x D M) (k:M≤N):Rz x D N:=by
 obtain⟨z,h1,h2⟩:=h;exact⟨z,h1,nt h2 k⟩
theorem Rz.scale {x:Rat} {D M:Nat} (h:Rz x D M) (k:Nat):Rz x (D*k) (M*k):=by
 obtain⟨z,h1,h2⟩:=h;have ec:((k:Int):Rat)=(k:Rat):=Rat.intCast_natCast _;exact⟨z*k,by rw[Rat.natCast_mul,Rat.intCast_mul,ec,← h1];grind,by rw[Int.natAbs_mul,Int.natAbs_natCast];exact Nat.mul_le_mul_right _ h2⟩
theorem Rz.sum {D M:Nat}:∀{l:List Rat},(∀x∈l,Rz x D M)→Rz l.sum D (l.length*M)
 | [],_=>by rw[List.sum_nil];exact Rz.zero _ _
 | x::l,h=>by
  rw[List.sum_cons,List.length_cons,Nat.add_mul,Nat.one_mul,Nat.add_comm (l.length*M)];exact (h x (mf ..)).add (Rz.sum fun y hy=>h y (List.mem_cons_of_mem _ hy))
theorem abs_r (q:Q):q.abs.r=q.r∨q.abs.r=-q.r:=by
 unfold Q.abs Q.r;have:(Q.mk false q.num q.den).un=q.un:=rfl;rw[this];cases q.neg with
 | false=>left;rfl
 | true=>right;simp only[sgnR,cond_true,cond_false];grind
theorem Rz.abs {q:Q} {D M:Nat} (h:Rz q.r D M):Rz q.abs.r D M:=by
 rcases abs_r q with e | e
 ·rw[e];exact h
 ·rw[e];exact h.neg
structure Sc.Dz (s:Sc) (D M:Nat):Prop where
 lo:∀q∈s.q.rg.lo,Rz q.r D M
 hi:∀q∈s.q.rg.hi,Rz q.r D M
 lems:∀m∈s.lems,Rz m.value.r D M
structure Fm.Dz (f:Fm) (n C:Nat):Prop where
 each:∀t∈f.terms,Rz t.2.r 4 C∧0≤t.1∧t.1 < (n:Int)
 const:Rz f.const.r 4 C
theorem more_dz {s:Sc} {a b D M:Nat} (hs:s.Va a b) (h:s.Dz D M) {t:Tm} (h0:0≤t.1) (hv:t.1 < ((s.q.g.inputs+s.q.g.units.length:Nat):Int)) (hm:(moreR s t).2=true):Rz (valM (kR s) (moreR s t).1) D M:=by
 unfold moreR at hm ⊢;cases hd:decide (0 < sgQ t.2) with
 | true=>
  rw[cond_true];simp only;rw[least_val hs h0 hv];split
  ·rename_i hi
   exact (h.lo _ (atZ_mem h0 (by rw[hs.q.rg.lo];exact hi))).neg
  ·exact Rz.zero _ _
 | false=>
  rw[hd,cond_false] at hm;rw[cond_false];obtain⟨h1,h2⟩:=most_val hs h0 hv hm;rw[h1];unfold hiV;split
  ·rename_i hi
   exact h.hi _ (atZ_mem h0 (by rw[hs.q.rg.hi];exact hi))
  ·rename_i hi
   obtain⟨n2,b2⟩:=h2 hi;split
   ·exact Rz.zero _ _
   ·exact h.lems _ (mg (get_of (show _ - 1 < s.lems.length by omega)))
theorem above_dz {s:Sc} {a b D M C:Nat} (hs:s.Va a b) (h:s.Dz D M) {f:Fm} (hf:f.Dz (s.q.g.inputs+s.q.g.units.length) C):Rz (aboveR s f).1.r (4*D) (C*D+f.terms.length*(C*M)):=by
 unfold aboveR;cases e:aboveGo s f.terms [] with
 | none=>rw[show ((Q.zero,([]:List Mm),false):Q×List Mm×Bool).1=Q.zero from rfl,zero_r];exact Rz.zero _ _
 | some L=>
  simp only;rw[sub_const_r];have hc:Rz f.const.r (4*D) (C*D):=hf.const.scale D;rcases sumR_val s L with h1 | h1
  ·rw[h1];have:f.const.r - 0=f.const.r:=by grind
   rw[this];exact hc.up (Nat.le_add_right ..)
  ·rw[h1];obtain⟨ws,g1,g2,g3⟩:=above_val e;have hw:∀w∈ws,Rz w (4*D) (C*M):=fun w hw=>by
    obtain⟨i,hi,rfl⟩:=List.mem_iff_getElem.1 hw;have hi':i < f.terms.length:=by omega
    obtain⟨e1,e2⟩:=g3 i _ _ (ge hi') (ge hi);obtain⟨t1,t2,t3⟩:=hf.each _ (List.getElem_mem hi');rw[e1];exact (Rz.abs t1).mul (more_dz hs h t2 t3 e2)
   have hsum:=Rz.sum hw;rw[g1] at hsum;have:f.const.r - valM (kR s) L=f.const.r+-(ws.sum):=by rw[g2,valM];grind
   rw[this];exact hc.add hsum.neg
theorem rz_S {q:Q} {D M:Nat} (h:q.Ok) (hz:Rz q.r D M) (hD:0 < D) (hD9:D < 79228162514264337593543950336) (hM:M < 79228162514264337593543950336):q.S 3:=by
 obtain⟨z,hz,hm⟩:=hz;obtain⟨h1,h2⟩:=dz_bd h hD hz;have hb:∀n,n < 79228162514264337593543950336→(limbs n).length≤3:=fun n hn=>limbs_len_le (k:=3) (by rw[show B32 ^ 3=79228162514264337593543950336 from rfl];exact hn)
 exact⟨hb _ om,hb _ om,h⟩
theorem above_ok (s:Sc) (f:Fm):(aboveR s f).1.Ok:=by
 unfold aboveR;cases aboveGo s f.terms [] with
 | none=>exact (by decide:Q.zero.Ok)
 | some L=>exact Q.add_ok ..
theorem scale_dz {p:Fm} {n C:Nat} (h:p.Dz n C) (hc:p.Cn):(Fm.scaleR p Q.mone).Dz n C where
 each t ht:=by
  refine⟨?_,scale_vars hc (P:=fun v=>0≤v∧v < (n:Int)) (fun t ht=>(h.each t ht).2) t ht⟩;exact scaleT_all (P:=fun x=>Rz x.r 4 C) p.terms [] (fun x hx=>by cases hx) (fun x hx=>by
   show Rz (Q.mul x.2 Q.mone).r 4 C;rw[Q.mul_r,mone_r];have:x.2.r*-1=-x.2.r:=by grind
   rw[this];exact (h.each x hx).1.neg) t ht
 const:=by
  show Rz (Q.mul p.const Q.mone).r 4 C;rw[Q.mul_r,mone_r];have:p.const.r*-1=-p.const.r:=by grind
  rw[this];exact h.const.neg
def MM (D M:Nat):Nat→Nat
 | 0=>M
 | j+1=>16*(4 ^ j*D)+128*MM D M j
theorem bounded_dz {s:Sc} {a D M:Nat} (hs:s.Va a 3) (hl:s.lems.length≤900) (hz:s.Dz D M) (hu:∀p∈s.q.g.units,p.Dz (s.q.g.inputs+s.q.g.units.length) 16) (hD:0 < D):∀j,j≤s.q.g.units.length→4 ^ j*D < 79228162514264337593543950336→MM D M j < 79228162514264337593543950336→(boundedN s j).Va a 3∧(boundedN s j).Dz (4 ^ j*D) (MM D M j)∧(boundedN s j).lems.length≤s.lems.length+2*j
 | 0,_,_,_=>⟨hs,by rw[Nat.pow_zero,Nat.one_mul];exact hz,nr _⟩
 | j+1,hj,h1,h2=>by
  have hp:4 ^ (j+1)*D=4*(4 ^ j*D):=by rw[Nat.pow_succ,Nat.mul_comm (4 ^ j),Nat.mul_assoc]
  have hDj:0 < 4 ^ j*D:=Nat.mul_pos (Nat.pow_pos dx) hD;have hM:MM D M (j+1)=16*(4 ^ j*D)+128*MM D M j:=rfl;obtain⟨v1,z1,l1⟩:=bounded_dz hs hl hz hu hD j om om om;obtain⟨q1,q2⟩:=bounded_q s j;have hn9:=hs.n9;have hja:j < s.q.g.units.length:=hj;generalize ht:boundedN s j=t at*;have hmem:atZ s.q.g.units (j:Int)∈s.q.g.units:=mg (get_of hja);have hpS:=hs.q.us _ hmem;have hpD:=hu _ hmem;have hlen:(atZ s.q.g.units (j:Int)).terms.length≤8:=nt hpS.len hn9;have new:∀f:Fm,f.Dz (s.q.g.inputs+s.q.g.units.length) 16→f.terms.length≤8→Rz (aboveR t f).1.r (4*(4 ^ j*D)) (MM D M (j+1)):=fun f hf hfl=>by
   have:=above_dz v1 z1 (f:=f) (C:=16) (by rw[q1];exact hf);refine this.up ?_;rw[hM];have:=Nat.mul_le_mul_right (16*MM D M j) hfl;omega
  have hA:=new _ hpD hlen;have hB:=new _ (scale_dz hpD hpS.cn) (nt (scaleT_len ..) (by simpa using hlen));have ev:∀m∈(boundedN s (j+1)).lems,m.value.Ok∧Rz m.value.r (4*(4 ^ j*D)) (MM D M (j+1)):=fun m hm=>by
   have hm':m∈(bStep t j).lems:=by rw[← ht];exact hm
   unfold bStep addLm at hm';simp only[List.mem_append,q1] at hm';rcases hm' with hm' | hm' | hm'
   ·refine⟨(v1.lems m hm').ok,?_⟩;have:=(z1.lems m hm').scale 4;rw[Nat.mul_comm _ 4] at this;exact this.up (by rw[hM];omega)
   ·cases hc:(aboveR t (atZ s.q.g.units (j:Int))).2.2 with
    | false=>rw[hc] at hm';cases hm'
    | true=>
     rw[hc] at hm';rw[mj hm'];exact⟨above_ok ..,hA⟩
   ·cases hc:(aboveR t (Fm.scaleR (atZ s.q.g.units (j:Int)) Q.mone)).2.2 with
    | false=>rw[hc] at hm';cases hm'
    | true=>
     rw[hc] at hm';rw[mj hm'];refine⟨quot_ok _ _ (Q.un_pos _),?_⟩;show Rz (Q.neg' _).r _ _;rw[Q.neg_r];exact hB.neg
  obtain⟨q3,q4⟩:=bounded_q s (j+1);have hlen2:(boundedN s (j+1)).lems.length≤s.lems.length+2*(j+1):=by
   have e:(boundedN s (j+1)).lems=(bStep t j).lems:=by rw[← ht];rfl
   rw[e];unfold bStep addLm;simp only[List.length_append];cases (aboveR t (atZ t.q.g.units (j:Int))).2.2<;>cases (aboveR t (Fm.scaleR (atZ t.q.g.units (j:Int)) Q.mone)).2.2<;>simp<;>omega
  refine⟨⟨by rw[q3];exact hs.q,by rw[q4];exact hs.path,by rw[q4];exact hs.p9,fun m hm=>rz_S (ev m hm).1 (ev m hm).2 om om h2,by omega,hs.b1,hs.b9,hs.a9,by rw[q3];exact hs.n9⟩,⟨?_,?_,?_⟩,hlen2⟩
  ·rw[q3,hp];intro q hq;have:=(hz.lo q hq);exact z_up (z1.lo q (by rw[q1];exact hq)) hM
  ·rw[q3,hp];intro q hq;exact z_up (z1.hi q (by rw[q1];exact hq)) hM
  ·rw[hp];exact fun m hm=>(ev m hm).2
where
 z_up {x:Rat} {D' M' M2 X:Nat} (h:Rz x D' M') (hM:M2=X+128*M'):Rz x (4*D') M2:=by
  have:=h.scale 4;rw[Nat.mul_comm _ 4] at this;exact this.up om
theorem above_dz2 {s:Sc} {a b D M C m K:Nat} (hs:s.Va a b) (h:s.Dz D M) {f:Fm} (hf:∀t∈f.terms,Rz t.2.r 4 C∧0≤t.1∧t.1 < ((s.q.g.inputs+s.q.g.units.length:Nat):Int)) (hc:Rz f.const.r (4*D*m) K):Rz (aboveR s f).1.r (4*D*m) (K+f.terms.length*(C*M)*m):=by
 unfold aboveR;cases e:aboveGo s f.terms [] with
 | none=>rw[show ((Q.zero,([]:List Mm),false):Q×List Mm×Bool).1=Q.zero from rfl,zero_r];exact Rz.zero _ _
 | some L=>
  simp only;rw[sub_const_r];rcases sumR_val s L with h1 | h1
  ·rw[h1];have:f.const.r - 0=f.const.r:=by grind
   rw[this];exact hc.up (Nat.le_add_right ..)
  ·rw[h1];obtain⟨ws,g1,g2,g3⟩:=above_val e;have hw:∀w∈ws,Rz w (4*D) (C*M):=fun w hw=>by
    obtain⟨i,hi,rfl⟩:=List.mem_iff_getElem.1 hw;have hi':i < f.terms.length:=by omega
    obtain⟨e1,e2⟩:=g3 i _ _ (ge hi') (ge hi);obtain⟨t1,t2,t3⟩:=hf _ (List.getElem_mem hi');rw[e1];exact (Rz.abs t1).mul (more_dz hs h t2 t3 e2)
   have hsum:=(Rz.sum hw).scale m;rw[g1] at hsum;have:f.const.r - valM (kR s) L=f.const.r+-(ws.sum):=by rw[g2,valM];grind
   rw[this];exact hc.add hsum.neg
theorem minR_or (x y:Q):minR x y=canonQ x∨minR x y=canonQ y:=by
 unfold minR;cases decide (isg (Q.add x y.neg').neg (Q.add x y.neg').num≤0)
 ·exact .inr rfl
 ·exact .inl rfl
structure GrowIn (s:Sc) (a D M m K:Nat):Prop where
 va:s.Va a 3
 len:s.lems.length≤900
 dz:s.Dz D M
 us:∀p∈s.q.g.units,p.Dz (s.q.g.inputs+s.q.g.units.length) 16
 pos:0 < D
 goal:∀t∈s.q.goal.terms,Rz t.2.r 4 16∧0≤t.1∧t.1 < ((s.q.g.inputs+s.q.g.units.length:Nat):Int)
 gl:s.q.goal.terms.length≤8
 const:Rz s.q.goal.const.r (4*(4 ^ s.q.g.units.length*D)*m) K
 mp:0 < m
 b1:4*(4 ^ s.q.g.units.length*D)*m < 79228162514264337593543950336
 b2:∀j,j≤s.q.g.units.length→MM D M j < 79228162514264337593543950336
 b3:K+8*(16*MM D M s.q.g.units.length)*m < 79228162514264337593543950336
theorem GrowIn.dec {s:Sc} {a D M m K k:Nat} {kind:Int} (h:GrowIn s a D M m K) (hp:s.path.length≤100) (ha:1≤a):GrowIn (s.dec kind k) a D M m K:=
 ⟨⟨h.va.q,fun d hd=>by
   rcases List.mem_append.1 hd with e | e
   ·exact h.va.path d e
   ·rw[mj e];exact sz_zero.up ha,by show (s.path++_).length≤1000;simp;omega,h.va.lems,h.va.l9,h.va.b1,h.va.b9,h.va.a9,h.va.n9⟩,
  h.len,⟨h.dz.lo,h.dz.hi,h.dz.lems⟩,h.us,h.pos,h.goal,h.gl,h.const,h.mp,h.b1,h.b2,h.b3⟩
theorem GrowIn.bd {s:Sc} {a D M m K:Nat} (h:GrowIn s a D M m K) (j:Nat) (hj:j≤s.q.g.units.length):(boundedN s j).Va a 3∧(boundedN s j).Dz (4 ^ j*D) (MM D M j):=by
 have h4:4 ^ j*D≤4 ^ s.q.g.units.length*D:=Nat.mul_le_mul_right _ (Nat.pow_le_pow_right dx hj);have h5:4*(4 ^ s.q.g.units.length*D)≤4*(4 ^ s.q.g.units.length*D)*m:=Nat.le_mul_of_pos_right _ h.mp;have hb1:=h.b1;obtain⟨v,z,_⟩:=bounded_dz h.va h.len h.dz h.us h.pos j hj om (h.b2 j hj);exact⟨v,z⟩
theorem GrowIn.ok {a D M m K:Nat} (ha:1≤a):∀(k:Nat) {s:Sc} {root:Bool},GrowIn s a D M m K→s.path.length+k≤100→GrowOk a 3 k s∧(growR k s root).2.S 3∧Rz (growR k s root).2.r (4*(4 ^ s.q.g.units.length*D)*m) (K+8*(16*MM D M s.q.g.units.length)*m)
 | 0,s,root,h,hp=>by
  refine⟨fun j hj=>(h.bd j hj).1,?_⟩;obtain⟨v,z⟩:=h.bd s.q.g.units.length (nr _);have hq:=(bounded_q s s.q.g.units.length).1;have:=above_dz2 (s:=boundedR s) (f:=s.q.goal) (C:=16) v z (fun t ht=>by
   have:=h.goal t ht;show Rz t.2.r 4 16∧0≤t.1∧t.1 < (((boundedN s s.q.g.units.length).q.g.inputs+(boundedN s s.q.g.units.length).q.g.units.length:Nat):Int);rw[hq];exact this) h.const
  have this:=this.up (N:=K+8*(16*MM D M s.q.g.units.length)*m) (Nat.add_le_add_left (Nat.mul_le_mul_right _ (Nat.mul_le_mul_right _ h.gl)) _);exact⟨rz_S (above_ok ..) this (Nat.mul_pos (Nat.mul_pos dx (Nat.mul_pos (Nat.pow_pos dx) h.pos)) h.mp) h.b1 h.b3,this⟩
 | k+1,s,root,h,hp=>by
  obtain⟨a1,a2,a3⟩:=GrowIn.ok ha k (root:=false) (h.dec (kind:=1) (k:=k) om ha) (by show (s.path++_).length+k≤100;simp;omega);obtain⟨b1,b2,b3⟩:=GrowIn.ok ha k (root:=false) (h.dec (kind:=2) (k:=k) om ha) (by show (s.path++_).length+k≤100;simp;omega);refine⟨⟨a1,b1,a2.up dx,b2.up dx,by omega⟩,?_⟩;show (minR _ _).S 3∧Rz (minR _ _).r _ _;rcases minR_or (growR k (s.dec 1 k) false).2 (growR k (s.dec 2 k) false).2 with e | e
  ·rw[e,a2.canon];exact⟨a2,a3⟩
  ·rw[e,b2.canon];exact⟨b2,b3⟩
theorem srt_of:∀{l:List Tm},(∀(i:Nat) (s t:Tm),l[i]?=some s→l[i+1]?=some t→s.1 < t.1)→Srt' l
 | [],_=>by simp[Srt']
 | [t],_=>by simp[Srt']
 | s::t::l,h=>by
  have ih:Srt' (t::l):=srt_of fun i a b ha hb=>h (i+1) a b (by simpa using ha) (by simpa using hb)
  have hst:=h 0 s t rfl rfl;rw[Srt',List.pairwise_cons];refine⟨fun u hu=>?_,ih⟩;rcases List.mem_cons.1 hu with e | e
  ·rw[e];exact hst
  ·have:=(List.pairwise_cons.1 ih).1 u e;omega
theorem cn_of {f:Fm} {v:Nat} (h:f.Ok v):f.Cn:=⟨srt_of h.asc,fun t ht=>⟨(h.each t ht).2.2.2,(h.each t ht).2.2.1⟩,h.const⟩
theorem srt_len:∀{l:List Tm} {a b:Int},Srt' l→(∀t∈l,a≤t.1∧t.1 < b)→a≤b→(l.length:Int)≤b - a
 | [],a,b,_,_,h=>by simp;omega
 | t::l,a,b,hs,h,hab=>by
  rw[Srt',List.pairwise_cons] at hs;have ht:=h t (mf ..);have:=srt_len (l:=l) (a:=t.1+1) (b:=b) hs.2 (fun u hu=>⟨by have:=hs.1 u hu;omega,(h u (List.mem_cons_of_mem _ hu)).2⟩) om;rw[List.length_cons];omega
theorem ok_len {f:Fm} {v:Nat} (h:f.Ok v):f.terms.length≤v:=by
 have:=srt_len (a:=0) (b:=(v:Int)) (cn_of h).srt (fun t ht=>⟨(h.each t ht).1,(h.each t ht).2.1⟩) om;omega
theorem tiny_S {q:Q} (h:q.Tiny):q.S 1:=small_S (nj h.num dx) (by unfold Q.un;split;decide;exact nj h.den dx) h.ok
theorem smallF_S {f:Fm} {v:Nat} (h:f.Small v):f.S 1 v:=⟨cn_of h.ok,fun t ht=>tiny_S (h.num t ht),tiny_S h.const,ok_len h.ok⟩
theorem qt_rz {q:Q} (h:q.Qt):Rz q.r 4 16:=by
 obtain⟨e,he⟩:=h.un;have hu:=q.un_ne;have hcast:(4:Rat)=(q.un:Rat)*(e:Rat):=by
  have:((4:Nat):Rat)=((q.un*e:Nat):Rat):=by rw[← he]
  rw[Rat.natCast_mul] at this;exact_mod_cast this
 have hle:e≤4:=Nat.le_of_dvd dx ⟨q.un,by rw[Nat.mul_comm];exact he⟩;have hn:=h.num;have hb:q.num*e≤16:=nt (Nat.mul_le_mul hn hle) dx;have ec:∀n:Nat,((n:Int):Rat)=(n:Rat):=fun n=>Rat.intCast_natCast _
 cases hs:q.neg with
 | false=>
  refine⟨((q.num*e:Nat):Int),?_,by rw[Int.natAbs_natCast];exact hb⟩;rw[ec,Rat.natCast_mul];unfold Q.r;rw[hs];simp only[sgnR,cond_false];show (q.num:Rat) / (q.un:Rat)*4=_;rw[hcast];grind
 | true=>
  refine⟨-((q.num*e:Nat):Int),?_,by rw[Int.natAbs_neg,Int.natAbs_natCast];exact hb⟩;rw[Rat.intCast_neg,ec,Rat.natCast_mul];unfold Q.r;rw[hs];simp only[sgnR,cond_true];show -(q.num:Rat) / (q.un:Rat)*4=_;rw[hcast];grind
theorem r_pos {q:Q} (h:q.neg=false) (h0:0 < q.num):0 < q.r:=by
 unfold Q.r;rw[h];simp only[sgnR,cond_false];have h1:(0:Rat) < (q.num:Rat):=by exact_mod_cast h0
 have h2:(0:Rat) < (q.un:Rat):=by exact_mod_cast q.un_pos
 rw[Rat.div_def];exact Rat.mul_pos h1 (Rat.inv_pos.2 h2)
theorem isg_le {q:Q} (h:q.r≤0):sgQ q≤0:=by
 apply Classical.byContradiction
 intro hc;obtain⟨h1,h2⟩:=isg_pos hc;have:=r_pos h1 h2
 grind
theorem abs_nonneg (q:Q):0≤q.abs.r:=by
 rcases Nat.eq_zero_or_pos q.num with h | h
 ·rw[num0_r (q:=q.abs) h];grind
 ·have:=r_pos (q:=q.abs) rfl h
  grind
theorem box_le (a q:Q):isg (Q.add a (Q.add a q.abs).neg').neg (Q.add a (Q.add a q.abs).neg').num≤0:=by
 refine isg_le (q:=Q.add a (Q.add a q.abs).neg') ?_;rw[Q.add_r,Q.neg_r,Q.add_r];have:=abs_nonneg q
 grind
theorem r_neg' {q:Q} (h:q.neg=true) (h0:0 < q.num):q.r < 0:=by
 have:q.r=-(Q.mk false q.num q.den).r:=by
  unfold Q.r;have:(Q.mk false q.num q.den).un=q.un:=rfl;rw[this,h];simp only[sgnR,cond_true,cond_false];grind
 have hp:=r_pos (q:=Q.mk false q.num q.den) rfl h0
 grind
theorem sign_cases (q:Q):(q.sign=0∧q.num=0)∨(q.sign=1∧q.neg=false∧0 < q.num)∨(q.sign=-1∧q.neg=true∧0 < q.num):=by
 unfold Q.sign;by_cases h:q.num=0
 ·left;exact⟨if_pos h,h⟩
 ·rw[if_neg h];cases hn:q.neg with
  | false=>right;left;exact⟨rfl,rfl,by omega⟩
  | true=>right;right;exact⟨rfl,rfl,by omega⟩
theorem lt_r {x y:Q} (hx:x.neg=false) (hy:y.neg=false) (h:y.num*x.un < x.num*y.un):y.r < x.r:=by
 have h1:=x.un_ne;have h2:=y.un_ne;have p1:(0:Rat) < (x.un:Rat):=by exact_mod_cast x.un_pos
 have p2:(0:Rat) < (y.un:Rat):=by exact_mod_cast y.un_pos
 have h3:((y.num*x.un:Nat):Rat) < ((x.num*y.un:Nat):Rat):=by exact_mod_cast h
 rw[Rat.natCast_mul,Rat.natCast_mul] at h3;have e:x.r - y.r=((x.num:Rat)*y.un - y.num*x.un)*((x.un:Rat)⁻¹*(y.un:Rat)⁻¹):=by
  unfold Q.r;rw[hx,hy];simp only[sgnR,cond_false]
  grind
 have:0 < x.r - y.r:=by
  rw[e];exact Rat.mul_pos (by grind) (Rat.mul_pos (Rat.inv_pos.2 p1) (Rat.inv_pos.2 p2))
 grind
theorem pos_neg_r {q:Q} (h:q.neg=true):q.r=-(Q.mk false q.num q.den).r:=by
 unfold Q.r;have:(Q.mk false q.num q.den).un=q.un:=rfl;rw[this,h];simp only[sgnR,cond_true,cond_false];grind
theorem cmp_le {x y:Q} (h:x.r≤y.r):Q.cmpQ x y≤0:=by
 unfold Q.cmpQ;split
 ·decide
 ·rename_i g1
  split
  ·rename_i g2
   exfalso
   rcases sign_cases x with ⟨a1,a2⟩ | ⟨a1,a2,a3⟩ | ⟨a1,a2,a3⟩<;>rcases sign_cases y with ⟨b1,b2⟩ | ⟨b1,b2,b3⟩ | ⟨b1,b2,b3⟩<;>first | omega | skip
   ·have:=num0_r a2;have:=r_neg' b2 b3;grind
   ·have:=r_pos a2 a3;have:=num0_r b2;grind
   ·have:=r_pos a2 a3;have:=r_neg' b2 b3;grind
  ·rename_i g2
   rcases sign_cases x with ⟨a1,a2⟩ | ⟨a1,a2,a3⟩ | ⟨a1,a2,a3⟩<;>rcases sign_cases y with ⟨b1,b2⟩ | ⟨b1,b2,b3⟩ | ⟨b1,b2,b3⟩<;>first | omega | skip
   ·rw[a2,b2,Nat.zero_mul,Nat.zero_mul];simp[cmpI,isg,cmpN]
   ·have pa:=Nat.mul_pos a3 y.un_pos;have pb:=Nat.mul_pos b3 x.un_pos;unfold Q.sg;rw[a2,b2];simp only[Bool.false_and];unfold cmpI isg;rw[if_neg (Nat.ne_of_gt pa),if_neg (Nat.ne_of_gt pb)];simp only[Bool.false_eq_true,if_false];rw[if_neg om,if_neg om,if_neg om];unfold cmpN;split
    ·decide
    ·split
     ·rename_i hlt
      exfalso
      have:=lt_r a2 b2 hlt
      grind
     ·decide
   ·have pa:=Nat.mul_pos a3 y.un_pos;have pb:=Nat.mul_pos b3 x.un_pos;unfold Q.sg;rw[a2,b2,dt a3,dt b3,dt pa,dt pb];simp only[Bool.and_self];unfold cmpI isg;rw[if_neg (Nat.ne_of_gt pa),if_neg (Nat.ne_of_gt pb)];simp only[if_true];rw[if_neg om,if_neg om,if_pos om];unfold cmpN;split
    ·decide
    ·split
     ·rename_i hlt
      exfalso
      have:=lt_r (x:=Q.mk false y.num y.den) (y:=Q.mk false x.num x.den) rfl rfl hlt;rw[pos_neg_r a2,pos_neg_r b2] at h
      grind
     ·decide
theorem boxQ_spec:∀(n:Nat) (r:List Nat),(boxQ n r).1.1.length=n∧(boxQ n r).1.2.length=n∧∀(i:Nat) (a b:Q),(boxQ n r).1.1[i]?=some a→(boxQ n r).1.2[i]?=some b→a.Qt∧∃q:Q,q.Qt∧b=Q.add a q.abs
 | 0,r=>⟨rfl,rfl,fun i a b h=>by simp[boxQ] at h⟩
 | n+1,r=>by
  rw[boxQ_succ];obtain⟨h1,h2,h3⟩:=boxQ_spec n (numQ (numQ r).2).2;refine⟨by simp[h1],by simp[h2],fun i a b ha hb=>?_⟩;cases i with
  | zero=>simp at ha hb;subst ha hb;exact⟨numQ_qt _,_,numQ_qt _,rfl⟩
  | succ i=>exact h3 i a b (by simpa using ha) (by simpa using hb)
theorem unitsQ_form:∀(n v:Nat) (r:List Nat) (f:Fm),f∈(unitsQ n v r).1→∃v' r',f=(formQ v' r').1
 | 0,v,r,f,h=>by cases h
 | n+1,v,r,f,h=>by
  have h:f∈(formQ v r).1::(unitsQ n (v+1) (formQ v r).2).1:=h;rcases List.mem_cons.1 h with e | e
  ·exact⟨_,_,e⟩
  ·exact unitsQ_form n _ _ f e
theorem form_dz {f:Fm} {v n:Nat} {r:List Nat} (he:f=(formQ v r).1) (h:f.Ok n):f.Dz n 16:=by
 subst he;have hq:=formQ_qt v r;exact⟨fun t ht=>⟨qt_rz (hq.each t ht),(h.each t ht).1,(h.each t ht).2.1⟩,qt_rz hq.const⟩
theorem rz_S2 {q:Q} {D M:Nat} (h:q.Ok) (hz:Rz q.r D M) (hD:0 < D) (hD9:D < 18446744073709551616) (hM:M < 18446744073709551616):q.S 2:=Q.Dz.S ⟨h,hz⟩ hD hD9 hM
theorem region_va (n:Nat) (r:List Nat) (h0:1≤n) (h9:n≤3):(regionQ n r).1.Va n 2∧(∀q∈(regionQ n r).1.lo,Rz q.r 4 32)∧∀q∈(regionQ n r).1.hi,Rz q.r 4 32:=by
 obtain⟨h1,h2,h3⟩:=boxQ_spec n r;have lo:∀q∈(boxQ n r).1.1,q.Qt:=fun q hq=>by
  obtain⟨i,hi,rfl⟩:=List.mem_iff_getElem.1 hq;exact (h3 i _ _ (ge hi) (ge om)).1
 have hi:∀q∈(boxQ n r).1.2,q.Ok∧Rz q.r 4 32:=fun q hq=>by
  obtain⟨i,hi,rfl⟩:=List.mem_iff_getElem.1 hq;obtain⟨a1,p,a2,a3⟩:=h3 i _ _ (ge om) (ge hi);rw[a3];exact⟨Q.add_ok ..,by rw[Q.add_r];exact (qt_rz a1).add (Rz.abs (qt_rz a2))⟩
 refine⟨⟨h0,by omega,h1,h2,fun q hq=>rz_S2 (lo q hq).ok (qt_rz (lo q hq)) dx dx dx,fun q hq=>rz_S2 (hi q hq).1 (hi q hq).2 dx dx dx,fun i a b ha hb=>?_,?_,fun f hf=>?_,by decide⟩,fun q hq=>(qt_rz (lo q hq)).up dx,fun q hq=>(hi q hq).2⟩
 ·obtain⟨_,p,_,rfl⟩:=h3 i a b ha hb;refine⟨box_le a p,cmp_le ?_⟩;rw[Q.add_r];have:=abs_nonneg p
  grind
 ·show (outsQ _ _ _).1.length≤256;rw[outsQ_len];have:=nx_lt (n:=3) dx (boxQ n r).2;omega
 ·have:=outsQ_all _ _ _ f hf;exact⟨this.ok,(smallF_S this).up dx (nr _)⟩
theorem query_va (r:List Nat):(queryQ r).1.Va 2∧(∀p∈(queryQ r).1.g.units,p.Dz ((queryQ r).1.g.inputs+(queryQ r).1.g.units.length) 16)∧(queryQ r).1.goal.Dz ((queryQ r).1.g.inputs+(queryQ r).1.g.units.length) 16∧(queryQ r).1.g.inputs≤3∧(queryQ r).1.g.units.length≤4:=by
 have hg:=graphQ_ok r;obtain⟨h1,h2,h3⟩:=region_va (graphQ r).1.inputs (graphQ r).2 hg.i0 hg.i9;have hgoal:=formQ_small ((graphQ r).1.inputs+(graphQ r).1.units.length) (regionQ (graphQ r).1.inputs (graphQ r).2).2;have hu:∀f∈(graphQ r).1.units,f.Ok ((graphQ r).1.inputs+(graphQ r).1.units.length)∧f.S 2 ((graphQ r).1.inputs+(graphQ r).1.units.length):=fun f hf=>by
  obtain⟨j,hj,rfl⟩:=List.mem_iff_getElem.1 hf;have hs:=hg.us j _ (ge hj);exact⟨hs.ok.mono om,(smallF_S hs).up dx om⟩
 refine⟨⟨hg.va,fun f hf=>(hu f hf).2,h1,hgoal.ok,(smallF_S hgoal).up dx (nr _)⟩,fun p hp=>?_,form_dz rfl hgoal.ok,hg.i9,hg.u9⟩;obtain⟨v',r',e⟩:=unitsQ_form _ _ _ p hp;exact form_dz e (hu p hp).1
theorem scope_va (r:List Nat):(⟨(queryQ r).1,[],[]⟩:Sc).Va 2 3∧(⟨(queryQ r).1,[],[]⟩:Sc).Dz 4 32:=by
 obtain⟨h1,h2,h3,h4,h5⟩:=query_va r;have hg:=graphQ_ok r;obtain⟨_,g2,g3⟩:=region_va (graphQ r).1.inputs (graphQ r).2 hg.i0 hg.i9;exact⟨⟨h1,fun d hd=>(by cases hd),nq _,fun m hm=>(by cases hm),nq _,by decide,by decide,nr _,by show (queryQ r).1.g.inputs+(queryQ r).1.g.units.length≤8;omega⟩,⟨g2,g3,fun m hm=>(by cases hm)⟩⟩
theorem nums1:∀u,u < 5→∀j,j < u+1→4 ^ j*4 < 79228162514264337593543950336∧MM 4 32 j < 79228162514264337593543950336:=by decide
theorem nums2:∀u,u < 5→(∀j,j < u+1→MM (4 ^ u*4) (MM 4 32 u) j < 79228162514264337593543950336)∧4*(4 ^ u*(4 ^ u*4))*1 < 79228162514264337593543950336∧79228162514264337593543+8*(16*MM (4 ^ u*4) (MM 4 32 u) u)*1 < 79228162514264337593543950336:=by decide
def scope1 (q:Qr):Sc:=boundedR ⟨q,[],[]⟩
theorem grow_in {q:Qr} {K:Nat} (h:(⟨q,[],[]⟩:Sc).Va 2 3) (hz:(⟨q,[],[]⟩:Sc).Dz 4 32) (hu:∀p∈q.g.units,p.Dz (q.g.inputs+q.g.units.length) 16) (hg:∀t∈q.goal.terms,Rz t.2.r 4 16∧0≤t.1∧t.1 < ((q.g.inputs+q.g.units.length:Nat):Int)) (u4:q.g.units.length≤4) (hc:Rz q.goal.const.r (4*(4 ^ q.g.units.length*(4 ^ q.g.units.length*4))*1) K) (hK:K≤79228162514264337593543):GrowIn (scope1 q) 2 (4 ^ q.g.units.length*4) (MM 4 32 q.g.units.length) 1 K:=by
 have n1:=nums1 q.g.units.length om q.g.units.length om;obtain⟨n2,n3,n4⟩:=nums2 q.g.units.length om;obtain⟨v,z,l⟩:=bounded_dz (s:=⟨q,[],[]⟩) h (nq _) hz hu dx q.g.units.length (nr _) n1.1 n1.2;have hq:(scope1 q).q=q:=(bounded_q ⟨q,[],[]⟩ q.g.units.length).1;refine⟨v,?_,z,by rw[hq];exact hu,Nat.mul_pos (Nat.pow_pos dx) dx,by rw[hq];exact hg,by rw[hq];exact nt h.q.goal.len h.n9,by rw[hq];exact hc,by decide,by rw[hq];exact n3,fun j hj=>?_,by rw[hq];omega⟩
 ·have:(scope1 q).lems.length≤0+2*q.g.units.length:=l;omega
 ·rw[hq] at hj;exact n2 j om
def splitsQ (L:List Nat) (units:Nat):Nat:=if 0 < L.length then min (atZ L ((L.length - 1:Nat):Int) % 3) units else 0
def Qr.raise (q:Qr) (least:Q):Qr:=⟨q.g,q.rg,⟨q.goal.terms,Q.add q.goal.const least.neg'⟩⟩
def treeQ (L:List Nat):Qr:=
 bif decide (sgQ (growR (splitsQ L (queryQ L).1.g.units.length) (scope1 (queryQ L).1) true).2 < 0) then (queryQ L).1.raise (growR (splitsQ L (queryQ L).1.g.units.length) (scope1 (queryQ L).1) true).2 else (queryQ L).1
def treeN (L:List Nat):Nd:=(growR (splitsQ L (queryQ L).1.g.units.length) (scope1 (treeQ L)) true).1
theorem nums3:∀u,u < 5→16*(4 ^ u*(4 ^ u*4)*1)+(16*(4 ^ u*(4 ^ u*4)*1)+8*(16*MM (4 ^ u*4) (MM 4 32 u) u)*1)≤79228162514264337593543:=by decide
theorem tree_in1 (L:List Nat):GrowIn (scope1 (queryQ L).1) 2 (4 ^ (queryQ L).1.g.units.length*4) (MM 4 32 (queryQ L).1.g.units.length) 1 (16*(4 ^ (queryQ L).1.g.units.length*(4 ^ (queryQ L).1.g.units.length*4)*1)):=by
 obtain⟨h1,h2,h3,h4,h5⟩:=query_va L;obtain⟨s1,s2⟩:=scope_va L;have n3:=nums3 (queryQ L).1.g.units.length om;refine grow_in s1 s2 h2 h3.each h5 ?_ om;have:=h3.const.scale (4 ^ (queryQ L).1.g.units.length*(4 ^ (queryQ L).1.g.units.length*4)*1);rw[← Nat.mul_assoc] at this;exact this
theorem scope1_q (q:Qr):(scope1 q).q=q∧(scope1 q).path=[]:=bounded_q ⟨q,[],[]⟩ _
theorem splits_le (L:List Nat) (n:Nat):splitsQ L n≤n:=by
 unfold splitsQ;split
 ·exact Nat.min_le_right _ _
 ·exact nq _
theorem tree_one (L:List Nat):GrowOk 2 3 (splitsQ L (queryQ L).1.g.units.length) (scope1 (queryQ L).1)∧(growR (splitsQ L (queryQ L).1.g.units.length) (scope1 (queryQ L).1) true).2.S 3∧Rz (growR (splitsQ L (queryQ L).1.g.units.length) (scope1 (queryQ L).1) true).2.r (4*(4 ^ (queryQ L).1.g.units.length*(4 ^ (queryQ L).1.g.units.length*4))*1) (16*(4 ^ (queryQ L).1.g.units.length*(4 ^ (queryQ L).1.g.units.length*4)*1)+8*(16*MM (4 ^ (queryQ L).1.g.units.length*4) (MM 4 32 (queryQ L).1.g.units.length) (queryQ L).1.g.units.length)*1):=by
 have h:=tree_in1 L;obtain⟨_,_,_,_,h5⟩:=query_va L;have:=GrowIn.ok dx (splitsQ L (queryQ L).1.g.units.length) (root:=true) h (by
  rw[(scope1_q _).2];have:=splits_le L (queryQ L).1.g.units.length;show 0+_≤100;omega)
 rw[(scope1_q _).1] at this;exact this
theorem treeQ_same (L:List Nat):(treeQ L).g=(queryQ L).1.g∧(treeQ L).rg=(queryQ L).1.rg∧(treeQ L).goal.terms=(queryQ L).1.goal.terms:=by
 unfold treeQ;cases decide (sgQ (growR (splitsQ L (queryQ L).1.g.units.length) (scope1 (queryQ L).1) true).2 < 0)<;>exact⟨rfl,rfl,rfl⟩
theorem tree_two (L:List Nat):(⟨treeQ L,[],[]⟩:Sc).Va 2 3∧(⟨treeQ L,[],[]⟩:Sc).Dz 4 32∧GrowOk 2 3 (splitsQ L (queryQ L).1.g.units.length) (scope1 (treeQ L))∧(treeQ L).goal.S 3 8:=by
 obtain⟨q1,q2,q3,q4,q5⟩:=query_va L;obtain⟨s1,s2⟩:=scope_va L;obtain⟨g1,g2,g3⟩:=tree_one L;have n3:=nums3 (queryQ L).1.g.units.length om;have n2:=(nums2 (queryQ L).1.g.units.length om).2.1;obtain⟨e1,e2,e3⟩:=treeQ_same L;have h16:Rz (queryQ L).1.goal.const.r (4*(4 ^ (queryQ L).1.g.units.length*(4 ^ (queryQ L).1.g.units.length*4))*1) (16*(4 ^ (queryQ L).1.g.units.length*(4 ^ (queryQ L).1.g.units.length*4)*1)):=by
  have:=q3.const.scale (4 ^ (queryQ L).1.g.units.length*(4 ^ (queryQ L).1.g.units.length*4)*1);rw[← Nat.mul_assoc] at this;exact this
 have hc:(treeQ L).goal.const.S 3∧Rz (treeQ L).goal.const.r (4*(4 ^ (queryQ L).1.g.units.length*(4 ^ (queryQ L).1.g.units.length*4))*1) 79228162514264337593543:=by
  unfold treeQ;cases decide (sgQ (growR (splitsQ L (queryQ L).1.g.units.length) (scope1 (queryQ L).1) true).2 < 0) with
  | false=>exact⟨q1.goal.const.ok |> fun ho=>rz_S ho h16 (Nat.mul_pos (Nat.mul_pos dx (Nat.mul_pos (Nat.pow_pos dx) (Nat.mul_pos (Nat.pow_pos dx) dx))) dx) n2 om,h16.up om⟩
  | true=>
   have hr:Rz (Q.add (queryQ L).1.goal.const (growR (splitsQ L (queryQ L).1.g.units.length) (scope1 (queryQ L).1) true).2.neg').r (4*(4 ^ (queryQ L).1.g.units.length*(4 ^ (queryQ L).1.g.units.length*4))*1) 79228162514264337593543:=by
    rw[Q.add_r,Q.neg_r];exact (h16.add g3.neg).up n3
   exact⟨rz_S (Q.add_ok ..) hr (Nat.mul_pos (Nat.mul_pos dx (Nat.mul_pos (Nat.pow_pos dx) (Nat.mul_pos (Nat.pow_pos dx) dx))) dx) n2 dx,hr⟩
 have hgS:(treeQ L).goal.S 3 8:=⟨⟨by rw[e3];exact q1.goal.cn.srt,by rw[e3];exact q1.goal.cn.nz,hc.1.ok⟩,fun t ht=>by
  rw[e3] at ht;exact tq_S (q3.each t ht).1 (q1.goal.each t ht).ok,hc.1,by rw[e3];exact nt q1.goal.len (by show (queryQ L).1.g.inputs+(queryQ L).1.g.units.length≤8;omega)⟩
 have hva:(⟨treeQ L,[],[]⟩:Sc).Va 2 3:=by
  refine⟨⟨by rw[e1];exact q1.g,by rw[e1];exact q1.us,by rw[e1,e2];exact q1.rg,⟨by rw[e3];exact q1.ok.asc,by rw[e3,e1];exact q1.ok.each,hc.1.ok⟩,⟨hgS.cn,fun t ht=>(hgS.each t ht).up dx,hc.1.up dx,by rw[e3,e1];exact q1.goal.len⟩⟩,fun d hd=>(by cases hd),nq _,fun m hm=>(by cases hm),nq _,by decide,by decide,nr _,by show (treeQ L).g.inputs+(treeQ L).g.units.length≤8;rw[e1];omega⟩
 have hdz:(⟨treeQ L,[],[]⟩:Sc).Dz 4 32:=⟨by show ∀q∈(treeQ L).rg.lo,_;rw[e2];exact s2.lo,by show ∀q∈(treeQ L).rg.hi,_;rw[e2];exact s2.hi,fun m hm=>(by cases hm)⟩;refine⟨hva,hdz,?_,hgS⟩;have gi:=grow_in hva hdz (by rw[e1];exact q2) (by rw[e3,e1];exact q3.each) (by rw[e1];exact q5) (by rw[e1];exact hc.2) (nr _);exact (GrowIn.ok dx (splitsQ L (queryQ L).1.g.units.length) (root:=true) gi (by
  rw[(scope1_q _).2];have:=splits_le L (queryQ L).1.g.units.length;show 0+_≤100;omega)).1
where
 tq_S {q:Q} (h:Rz q.r 4 16) (ho:q.Ok):q.S 3:=rz_S ho h dx dx dx
end Go.Proofs.YtbhbainhmfjpdaaGreatDoor
