/- Walks of the search and of what it calls, part 14. -/
import Derived.Test.YtbhbainhmfjpdaaGreatDoorMm
import Derived.WideMake
import Derived.Laws.EntriesVeiled
import Derived.Laws.LoneSync
import Derived.Carry
set_option linter.unusedVariables false
set_option linter.unusedSectionVars false
set_option linter.unusedSimpArgs false
set_option maxRecDepth 100000
set_option maxHeartbeats 8000000
namespace Go.Proofs.YtbhbainhmfjpdaaGreatDoor
open Go.RowKit
structure PfOk (l:List Mm):Prop where
 each:∀m∈l,m.2.S 500
 len:l.length≤16
structure LmOk (m:Lm):Prop where
 value:m.value.S 8
 proof:PfOk m.proof
theorem PfOk.sum {s:Sc} {a b:Nat} {l:List Mm} (h:PfOk l) (hs:s.Va a b):(sumR s l).1.S 8700 144:=by
 have:=Nat.mul_le_mul_right (41+500) h.len;have h2:=h.len;exact (a8w hs h.each).up om om
def dv (s:Sc) (f:Fm) (l:List Mm):Bool:=bif (sumR s l).2 != 0 then false else ((((Fm.subR f (sumR s l).1).terms.length:Int) == 0)&&decide (0≤sgQ (Fm.subR f (sumR s l).1).const))
def ff (s:Sc) (l:List Mm):Bool:=((sumR s l).2 == 0)&&((((sumR s l).1.terms.length:Int) == 0)&&decide (sgQ (sumR s l).1.const < 0))
def lemF (q:Qr) (m:Lm):Fm:=bif m.upper then Fm.scaleR (Fm.subR (atZ q.g.units m.unit) (numR m.value)) Q.mone else Fm.subR (atZ q.g.units m.unit) (numR m.value)
def gz (s:Sc) (m:Lm):Bool:=bif decide (m.unit < 0)||decide ((s.q.g.units.length:Int)≤m.unit) then false else dv s (lemF s.q m) m.proof
def badL (s:Sc) (i:Nat):Bool:=!gz ⟨s.q,s.path,s.lems.take i⟩ (atZ s.lems (i:Int))
def uo (s:Sc):Bool:=!(s.path.any fun d=>!dj s.q d)&&!((List.range s.lems.length).any (badL s))
theorem a2p {n i:Nat} {f:Nat→Bool} (hi:i < n) (h:f i=true):(List.range n).any f=true:=List.any_eq_true.2 ⟨i,List.mem_range.2 hi,h⟩
theorem xw {n i:Nat} {f:Nat→Bool} (h:∀j,j < i→f j=false) (hi:n≤i):(List.range n).any f=false:=by
 rw[List.any_eq_false];intro j hj;rw[h j (by have:=List.mem_range.1 hj;omega)];exact Bool.false_ne_true
theorem Fm.Cn.ok {f:Fm} {n:Nat} (h:f.Cn) (hv:∀t∈f.terms,0≤t.1∧t.1 < (n:Int)):f.Ok n:=by
 refine⟨fun i s t hs ht=>?_,fun t ht=>⟨(hv t ht).1,(hv t ht).2,(h.nz t ht).2,(h.nz t ht).1⟩,h.const⟩;obtain⟨h1,rfl⟩:=gs hs;obtain⟨h2,rfl⟩:=gs ht;exact List.pairwise_iff_getElem.1 h.srt i (i+1) h1 h2 (Nat.lt_succ_self i)
theorem a7c {f g:Fm} (h:f.Cn) (k:g.Cn) {P:Int→Prop} (hf:∀t∈f.terms,P t.1) (hg:∀t∈g.terms,P t.1):∀t∈(Fm.addR f g).terms,P t.1:=fun t ht=>by
 by_cases h1:∃u∈f.terms,u.1=t.1
 ·obtain⟨u,hu,e⟩:=h1;rw[← e];exact hf u hu
 ·by_cases h2:∃u∈g.terms,u.1=t.1
  ·obtain⟨u,hu,e⟩:=h2;rw[← e];exact hg u hu
  ·exfalso
   have h3:cfL f.terms t.1=Q.zero:=f6 fun u hu e=>h1 ⟨u,hu,e⟩
   have h4:cfL g.terms t.1=Q.zero:=f6 fun u hu e=>h2 ⟨u,hu,e⟩
   have h5:=h.add_cf k t.1;rw[h3,h4,a55 (h.addR k).srt ht] at h5;have:=((h.addR k).nz t ht).2;rw[h5] at this;exact this rfl
theorem acw {f g:Fm} (h:f.Cn) (k:g.Cn) {P:Int→Prop} (hf:∀t∈f.terms,P t.1) (hg:∀t∈g.terms,P t.1):∀t∈(Fm.subR f g).terms,P t.1:=a7c h k.scaleR hf (js k hg)
theorem am9 {q:Q} (h:q.Ok):(numR q).Cn:=⟨List.Pairwise.nil,(fun t ht=>by cases ht),h⟩
theorem abk {q:Qr} {a:Nat} {m:Lm} (h:q.Va a) (h0:0≤m.unit) (h1:m.unit < q.g.units.length) (hv:m.value.S 8) (ha:a≤2) (h9:q.g.inputs+q.g.units.length≤8):(lemF q m).S 20 8∧(lemF q m).Ok (q.g.inputs+q.g.units.length):=by
 have hm:=bi h0 h1;have hp:(atZ q.g.units m.unit).S 2 8:=(h.us _ hm).up ha h9;have hs:(Fm.subR (atZ q.g.units m.unit) (numR m.value)).S 12 8:=hp.subR (dm hv);have hvar:∀t∈(atZ q.g.units m.unit).terms,0≤t.1∧t.1 < ((q.g.inputs+q.g.units.length:Nat):Int):=fun t ht=>by
  obtain⟨j,hj⟩:=List.mem_iff_getElem?.1 hm;have hjl:=(gs hj).1;have:=(h.g.us j _ hj).ok.each t ht;exact⟨this.1,by have:=this.2.1;omega⟩
 have hsv:∀t∈(Fm.subR (atZ q.g.units m.unit) (numR m.value)).terms,0≤t.1∧t.1 < ((q.g.inputs+q.g.units.length:Nat):Int):=acw (P:=fun v=>0≤v∧v < ((q.g.inputs+q.g.units.length:Nat):Int)) hp.cn (am9 hv.ok) hvar fun t ht=>by cases ht
 unfold lemF;cases m.upper with
 | false=>exact⟨hs.up dx dx,hs.cn.ok hsv⟩
 | true=>exact⟨(hs.scaleR ez).up dx dx,hs.cn.scaleR.ok (js (P:=fun v=>0≤v∧v < ((q.g.inputs+q.g.units.length:Nat):Int)) hs.cn hsv)⟩
theorem alf {s:Sc} {l:List Mm} {a b n:Nat} (h:s.Va a b) (hl:∀m∈l,m.2.S n) (h9:l.length≤40) (hn9:n≤9000) (hK:1+l.length*(41+n)≤9000):PCalls Tryz.prog TF 139 [scP s,mmsP l] (.tup [fmP (sumR s l).1,iP (sumR s l).2]):=by
 refine pcA [85,37,98] Tryz.func139 (fun D=>?_);refine ac (c:=a4t (n:=n) hl om om) ?_;refine a2 (fun e13=>?_) (fun e13=>?_)
 ·replace e13:=gq e13;exact ar (c:=by rw[xj e13];rfl)
 ·replace e13:=i7 e13;refine au ?_;refine pwk ?_;refine pl (ι:={p:Nat×Fm // p.1≤l.length∧fi s (l.drop p.1) p.2=fi s l Fm.zero∧p.2.S (1+p.1*(41+n)) (p.1*9)}) (fun p=>[(2,.box 2 0),(4,.box 4 0),(6,.box 6 0),(15,.pv (mmsP l)),(16,.pv (iP ((l.map mmC).length:Int))),(17,.pv (iP p.1.1))]) (fun p=>[(2,.box 85 [.pv (iP s.q.g.inputs),.pv (b7 s.q.g.units),.pv (b7 s.q.g.outputs),.pv (cz s.q.rg.lo),.pv (cz s.q.rg.hi),.pv (b7 s.q.rg.rows),.pv (bu s.q.goal.terms),.pv (bP s.q.goal.const.neg),.pv (.nat s.q.goal.const.num),.pv (.nat s.q.goal.const.den),.pv (dcsP s.path),.pv (lmsP s.lems)]),(4,.box 37 [.pv (bu []),.pv (.raw (.bool false)),.pv (.nat 0),.pv (.nat 0)]),(6,.box 37 [.pv (bu p.1.2.terms),.pv (bP p.1.2.const.neg),.pv (.nat p.1.2.const.num),.pv (.nat p.1.2.const.den)])]) [85,37,98] (fun p=>l.length - p.1.1) ⟨(0,Fm.zero),nq _,rfl,fm_zero_S.up om om⟩ (c6 Y Y Y Y Y Y trivial) (c3 Y Y Y trivial) (fun _=>rfl) ?_;intro ⟨(i,acc),hi0,hg,ha⟩;simp only at hi0 hg ha;refine a2 (fun e18=>?_) (fun e18=>?_)
  ·have hi:i < l.length:=db e18;have hm:=hl _ (mg (ah hi));have hf:=h.formS (r:=(atZ l (i:Int)).1);have hii:=Nat.mul_le_mul_right (41+n) (show i+1≤l.length from hi);rw[Nat.add_mul,Nat.one_mul] at hii;refine ax (c:=(aj (ah hi))) ?_;refine ac (c:=alr _ h) ?_;refine a2 (fun e29=>?_) (fun e29=>?_)
   ·replace e29:=gq e29;exact ar (c:=by rw[a5j e13 hi hg e29];rfl)
   ·replace e29:=i7 e29;refine ac (c:=rj hf hm dx om dx) ?_;refine ac (c:=aam ha (hf.scaleR hm) om om om dx) ?_;refine aa (c:=ae (by show i≤_;omega)) ?_;refine au ?_;exact pe ⟨(i+1,Fm.addR acc (Fm.scaleR (bq s (atZ l (i:Int)).1).1 (atZ l (i:Int)).2)),hi,a5i hi hg e29,(ha.addR (hf.scaleR hm)).up (by show _≤1+(i+1)*(41+n);rw[Nat.add_mul,Nat.one_mul];omega) (by show i*9+9≤(i+1)*9;omega)⟩ (c6 Y Y Y Y Y Y trivial) (c3 Y Y Y trivial) Y (by show l.length - (i+1) < l.length - i;omega)
  ·have hj:l.length≤i:=dw e18;exact ar (c:=by rw[a8v e13 hj hg];rfl)
theorem vw {s:Sc} {f:Fm} {l:List Mm} {a b v:Nat} (h:s.Va a b) (hf:f.S 100 8) (hv:f.Ok v) (hv9:v≤9223372036854775807) (hl:PfOk l):PCalls Tryz.prog TF 85 [scP s,fmP f,mmsP l] (bP (dv s f l)):=by
 have hs:=hl.sum h;have hr:=hf.subR hs;refine pcA [85,37] Tryz.func85 (fun D=>?_);refine ac (c:=alf (n:=500) h hl.each (by have:=hl.len;omega) dx (by have:=hl.len;omega)) ?_;refine a2 (fun e18=>?_) (fun e18=>?_)
 ·exact ar (c:=by (try simp only[List.length_map] at *);simp only[dv,e18,sb]<;>rfl)
 ·refine ac (c:=a12 (v:=9223372036854775807) (hf.lo dx dx) (hv.mono hv9)) ?_;refine ac (c:=ng hf hs dx dx dx dx) ?_;refine a2 (fun e30=>?_) (fun e30=>?_)
  ·refine ac (c:=a0z (hr.const.sm dx)) ?_;exact ar (c:=by (try simp only[List.length_map] at *);simp only[dv,e18,e30,sb]<;>rfl)
  ·exact ar (c:=by (try simp only[List.length_map] at *);simp only[dv,e18,e30,sb]<;>rfl)
theorem a2w {s:Sc} {l:List Mm} {a b:Nat} (h:s.Va a b) (hl:PfOk l):PCalls Tryz.prog TF 84 [scP s,mmsP l] (bP (ff s l)):=by
 have hs:=hl.sum h;refine pcA [85,37] Tryz.func84 (fun D=>?_);refine ac (c:=alf (n:=500) h hl.each (by have:=hl.len;omega) dx (by have:=hl.len;omega)) ?_;refine a2 (fun e15=>?_) (fun e15=>?_)
 ·refine a2 (fun e21=>?_) (fun e21=>?_)
  ·refine ac (c:=a0z (hs.const.sm dx)) ?_;exact ar (c:=by (try simp only[List.length_map] at *);simp only[ff,e15,e21,sb]<;>rfl)
  ·exact ar (c:=by (try simp only[List.length_map] at *);simp only[ff,e15,e21,sb]<;>rfl)
 ·exact ar (c:=by (try simp only[List.length_map] at *);simp only[ff,e15,sb]<;>rfl)
abbrev scL (q:Qr) (path:List Dc) (rows:List (List PV)):PV:=.agg [iP q.g.inputs,b7 q.g.units,b7 q.g.outputs,cz q.rg.lo,cz q.rg.hi,b7 q.rg.rows,bu q.goal.terms,bP q.goal.const.neg,.nat q.goal.const.num,.nat q.goal.const.den,dcsP path,.rows 100 6 [200,98] rows]
theorem aec {s:Sc} {m:Lm} {a b:Nat} (h:s.Va a b) (hm:LmOk m):PCalls Tryz.prog TF 138 [scP s,lmP m] (bP (gz s m)):=by
 refine pcA [85,100,37] Tryz.func138 (fun D=>?_);refine a2 (fun e9=>?_) (fun e9=>?_)
 ·exact ar (c:=by (try simp only[List.length_map] at *);simp only[gz,e9,sb]<;>rfl)
 ·have g0:=uw e9;refine a2 (fun e19=>?_) (fun e19=>?_)
  ·exact ar (c:=by (try simp only[List.length_map] at *);simp only[gz,e9,e19,sb]<;>rfl)
  ·have g1:=yu e19;obtain⟨k1,k2⟩:=abk h.q g0 g1 hm.value h.a9 h.n9;have hp:(atZ s.q.g.units m.unit).S 2 8:=(h.q.us _ (bi g0 g1)).up h.a9 h.n9;have hs:(Fm.subR (atZ s.q.g.units m.unit) (numR m.value)).S 12 8:=hp.subR (dm hm.value);refine ac (c:=lz (hm.value.sm dx) hm.value.ok) ?_;refine ac (c:=m7 h.q (by have:=h.n9;omega)) ?_;refine ay (z:=toN g0) (c:=(aj (dy g0 g1))) ?_;refine ac (c:=ng hp (dm hm.value) dx dx dx dx) ?_;refine a2 (fun e44=>?_) (fun e44=>?_)
   ·have ef:Fm.scaleR (Fm.subR (atZ s.q.g.units m.unit) (numR m.value)) Q.mone=lemF s.q m:=by unfold lemF;rw[e44];rfl
    refine ac (c:=p_of (-1) dx dx) ?_;refine ac (c:=rj (q:=Q.mone) hs ez dx dx dx) ?_;refine ac (c:=vw (f:=Fm.scaleR (Fm.subR (atZ s.q.g.units m.unit) (numR m.value)) Q.mone) h (ef▸k1.up dx dx) (ef▸k2) (by have:=h.n9;omega) hm.proof) ?_;exact ar (c:=by rw[ef];(try simp only[List.length_map] at *);simp only[gz,e9,e19,e44,sb]<;>rfl)
   ·have ef:Fm.subR (atZ s.q.g.units m.unit) (numR m.value)=lemF s.q m:=by unfold lemF;rw[e44];rfl
    refine ac (c:=vw (f:=Fm.subR (atZ s.q.g.units m.unit) (numR m.value)) h (ef▸k1.up dx dx) (ef▸k2) (by have:=h.n9;omega) hm.proof) ?_;exact ar (c:=by rw[ef];(try simp only[List.length_map] at *);simp only[gz,e9,e19,e44,sb]<;>rfl)
theorem aeb {q:Qr} {path:List Dc} {ls:List Lm} {rows:List (List PV)} {m:Lm} {a b:Nat} (e:rows=ls.map lmC) (h:(⟨q,path,ls⟩:Sc).Va a b) (hm:LmOk m):PCalls Tryz.prog TF 138 [scL q path rows,lmP m] (bP (gz ⟨q,path,ls⟩ m)):=by
 subst e;exact aec h hm
theorem Sc.Va.take {s:Sc} {a b:Nat} (h:s.Va a b) (i:Nat):(⟨s.q,s.path,s.lems.take i⟩:Sc).Va a b:=
 ⟨h.q,h.path,h.p9,fun m hm=>h.lems m (List.mem_of_mem_take hm),nt (by rw[List.length_take];exact Nat.min_le_right ..) h.l9,h.b1,h.b9,h.a9,h.n9⟩
theorem alv {q:Qr} {d:Dc} {a n:Nat} (h:q.Va a) (h4:q.g.inputs+q.g.units.length≤400) (hd:d.at_.S n) (hn:n≤10000):PCalls Tryz.prog TU 137 [qyP q,dcP d] (bP (dj q d)):=by
 refine pcA [39,42] Tryz.func137 (fun D=>?_);refine ac (c:=m7 h h4) ?_;refine ac (c:=aal hd hn) ?_;exact ar (c:=rfl)
theorem ae7 {s:Sc} {d:Dc} {a b:Nat} (h:s.Va a b) (hd:d.at_.S a):PCalls Tryz.prog TU 136 [dcP d,.ptr 85 (scC s)] (bP (!dj s.q d)):=by
 refine pcA [42] Tryz.func136 (fun D=>?_);refine ac (c:=alv h.q (by have:=h.n9;omega) hd (by have:=h.a9;omega)) ?_;exact ar (c:=rfl)
theorem a6b {s:Sc} {a b:Nat} (h:s.Va a b) (hl:∀m∈s.lems,LmOk m):PCalls Tryz.prog TF 83 [scP s] (bP (uo s)):=by
 refine pcA [85,100] Tryz.func83 (fun D=>?_);refine ac (c:=m7 h.q (by have:=h.n9;omega)) ?_;refine au ?_;refine rmk Y Y Y Y ?_;refine ac (c:=y9 (F:=fun d=>!dj s.q d) (by have:=h.p9;omega) fun d hd=>ae7 (s:=s) h (h.path d hd)) ?_;refine a2 (fun e14=>?_) (fun e14=>?_)
 ·exact ar (c:=by unfold uo;simp[e14])
 ·refine au ?_;refine pl (ι:={i:Nat // i≤s.lems.length∧∀j,j < i→badL s j=false}) (fun i=>[(1,.box 1 0),(2,.pv (bP false)),(16,.pv (lmsP s.lems)),(17,.pv (iP ((s.lems.map lmC).length:Int))),(18,.pv (iP i.1))]) (fun _=>[(1,.box 85 [.pv (iP s.q.g.inputs),.pv (b7 s.q.g.units),.pv (b7 s.q.g.outputs),.pv (cz s.q.rg.lo),.pv (cz s.q.rg.hi),.pv (b7 s.q.rg.rows),.pv (bu s.q.goal.terms),.pv (bP s.q.goal.const.neg),.pv (.nat s.q.goal.const.num),.pv (.nat s.q.goal.const.den),.pv (dcsP s.path),.pv (lmsP s.lems)])]) [85,100] (fun i=>s.lems.length - i.1) ⟨0,nq _,fun j hj=>by omega⟩ (c5 Y Y Y Y Y trivial) (ai Y trivial) (fun _=>rfl) ?_;intro ⟨i,hi0,hnb⟩;refine a2 (fun e19=>?_) (fun e19=>?_)
  ·have hi:i < s.lems.length:=db e19;have hm:=hl _ (mg (ah hi));refine ax (c:=(aj (ah hi))) ?_;refine au ?_;refine ro0 Y Y Y (fun hd=>f5 al Y Y Y (.inl ⟨rfl,rfl⟩) (.inr ⟨_,rfl,rfl⟩) (nq _) (by rw[List.length_map];exact hi0) Y dx hd) ?_;refine ac (c:=aeb (ls:=s.lems.take i) (List.map_take ..).symm (h.take i) hm) ?_;refine a2 (fun e34=>?_) (fun e34=>?_)
   ·replace e34:=gq e34;exact ar (c:=by unfold uo;rw[a2p hi (show badL s i=true by unfold badL;rw[e34];rfl)];simp)
   ·replace e34:=i7 e34;refine aa (c:=ae (by have:=h.l9;show i≤_;omega)) ?_;refine au ?_;exact pe ⟨i+1,hi,kv hnb (by unfold badL;rw[e34];rfl)⟩ (c5 Y Y Y Y Y trivial) (ai Y trivial) Y (by show s.lems.length - (i+1) < s.lems.length - i;omega)
  ·have hj:s.lems.length≤i:=dw e19;exact ar (c:=by unfold uo;rw[xw hnb hj];simp[e14])
theorem aaj (m n:Nat):PCalls Tryz.prog [] 222 [.nat m,.nat n] (bP (decide (m=n))):=⟨by kernel_rfl,fun w X us h1 h2 h3=>by
 obtain⟨u,v,rfl,g1,g2⟩:=a44 h3;obtain⟨x,rfl,hx⟩:=rz g1;obtain⟨y,rfl,hy⟩:=rz g2;exact (an2 w x y m n hx hy).mono fun e w' ⟨he,G⟩=>⟨_,he,nc _,G⟩⟩
theorem ald (x y:Q):PCalls Tryz.prog [] 184 [ratP x,ratP y] (bP (decide (x=y))):=by
 refine pcA [35] Tryz.func184 (fun D=>?_);refine au ?_;refine re0 (x.neg == y.neg) Y Y Y Y Y Y (.inl ⟨rfl,rfl⟩) ?_;refine a2 (fun e10=>?_) (fun e10=>?_)
 ·refine ac (c:=aaj _ _) ?_;refine a2 (fun e17=>?_) (fun e17=>?_)
  ·refine ac (c:=aaj _ _) ?_;exact ar (c:=by rw[Q.dec_eq];(try simp only[List.length_map] at *);simp only[bP,e10,e17,sb]<;>rfl)
  ·exact ar (c:=by rw[Q.dec_eq];(try simp only[List.length_map] at *);simp only[bP,e10,e17,sb]<;>rfl)
 ·exact ar (c:=by rw[Q.dec_eq];(try simp only[List.length_map] at *);simp only[bP,e10,sb]<;>rfl)
def dcEq (a b:Dc):Bool:=a.kind == b.kind&&(a.index == b.index&&decide (a.at_=b.at_))
theorem ajq {a b:Dc}:dcEq a b=decide (a=b):=by
 obtain⟨k,i,q⟩:=a;obtain⟨k',i',q'⟩:=b;unfold dcEq;rw[Bool.eq_iff_iff];simp
theorem ale (x y:Dc):PCalls Tryz.prog [] 131 [dcP x,dcP y] (bP (dcEq x y)):=by
 refine pcA [42] Tryz.func131 (fun D=>?_);refine a2 (fun e10=>?_) (fun e10=>?_)
 ·refine a2 (fun e17=>?_) (fun e17=>?_)
  ·refine ac (c:=ald _ _) ?_;exact ar (c:=by (try simp only[List.length_map] at *);simp only[dcEq,e10,e17,sb]<;>rfl)
  ·exact ar (c:=by (try simp only[List.length_map] at *);simp only[dcEq,e10,e17,sb]<;>rfl)
 ·exact ar (c:=by (try simp only[List.length_map] at *);simp only[dcEq,e10,sb]<;>rfl)
def Nd.Wf:Nat→Nd→Prop
 | 0,.mk _ d ks _ _=>d=dc0∧ks=[]
 | k+1,.mk _ d ks e p=>e=false∧p=[]∧1≤d.kind∧d.kind≤4∧∃a b,ks=[a,b]∧Nd.Wf k a∧Nd.Wf k b
def szK:Nat→Nat
 | 0=>1
 | k+1=>1+szK k+szK k
theorem a5h:∀k,k≤10→szK k≤2047:=by decide
theorem ahj:∀k,1≤szK k
 | 0=>nr _
 | k+1=>by rw[szK];omega
theorem aib {ls:List Lm} {e:Bool} {p:List Mm} {depth most:Int} (h:1≤most):PCalls Tryz.prog [] 74 [ndP (.mk ls dc0 [] e p),iP depth,iP most] (.tup [iP 1,bP true]):=by
 refine pcA [46] Tryz.func74 (fun D=>?_);refine akF (c:=by exact (show _=false from df om)) ?_;refine akT (c:=by exact rfl) ?_;refine ac (c:=ale dc0 dc0) ?_;exact ar (c:=rfl)
theorem aia {ls:List Lm} {d:Dc} {a b:Nd} {depth most A:Int} (h:1≤most) (h1:1≤d.kind) (h2:d.kind≤4) (hd:1≤depth) (hd9:depth≤100000) (hm9:most≤1000000) (hA:0≤A) (hA9:A≤1000000) (ia:PCalls Tryz.prog [] 74 [ndP a,iP (depth - 1),iP (most - 1)] (.tup [iP A,bP true])) (ib:PCalls Tryz.prog [] 74 [ndP b,iP (depth - 1),iP (most - 1 - A)] (.tup [iP A,bP true])):PCalls Tryz.prog [] 74 [ndP (.mk ls d [a,b] false []),iP depth,iP most] (.tup [iP (1+A+A),bP true]):=by
 obtain⟨l1,d1,k1,e1,p1⟩:=a;obtain⟨l2,d2,k2,e2,p2⟩:=b;refine pcA [46] Tryz.func74 (fun D=>?_);refine akF (c:=by exact (show _=false from df om)) ?_;refine akF (c:=by exact (show _=false from rfl)) ?_;refine akF (c:=by exact (show _=false from rfl)) ?_;refine akF (c:=by exact (show _=false from df om)) ?_;refine akF (c:=by exact (show _=false from df om)) ?_;refine akF (c:=by exact (show _=false from rfl)) ?_;refine akF (c:=by exact (show _=false from beq_eq_false_iff_ne.2 om)) ?_;refine au ?_;refine ro0 Y Y Y (fun hd=>jf (i:=0) al Y Y Y Y Y dx Y Y hd) ?_;refine aa (c:=cw om om om om) ?_;refine aa (c:=cw om om om om) ?_;refine ac (c:=ia) ?_;refine au ?_;refine ro0 Y Y Y (fun hd=>jf (i:=1) al Y Y Y Y Y dx Y Y hd) ?_;refine aa (c:=cw om om om om) ?_;refine aa (c:=cw om om om om) ?_;refine aa (c:=cw om om om om) ?_;refine ac (c:=ib) ?_;refine aa (c:=jg om om om om) ?_;refine aa (c:=jg om om om om) ?_;exact ar (c:=rfl)
theorem aae:∀(k:Nat) {n:Nd} {depth most:Int},n.Wf k→(k:Int)≤depth→(szK k:Int)≤most→depth≤100000→most≤1000000→k≤10→PCalls Tryz.prog [] 74 [ndP n,iP depth,iP most] (.tup [iP (szK k),bP true])
 | 0,.mk ls d ks e p,depth,most,h,_,hm,_,_,_=>by
  obtain⟨rfl,rfl⟩:=h;exact aib hm
 | k+1,.mk ls d ks e p,depth,most,h,hd,hm,hd9,hm9,hk=>by
  obtain⟨rfl,rfl,h1,h2,a,b,rfl,ha,hb⟩:=h;have hs:=a5h k om;have hs0:=ahj k;rw[szK] at hm;have:=aia (ls:=ls) (d:=d) (a:=a) (b:=b) (depth:=depth) (most:=most) (A:=(szK k:Int)) om h1 h2 om hd9 hm9 om om (aae k ha om om om om om) (aae k hb om om om om om);exact this
theorem ae6 {n:Nd} {k:Nat} (h:n.Wf k) (hk:k≤10):PCalls Tryz.prog [] 36 [ndP n] (bP true):=by
 obtain⟨ls,d,ks,e,p⟩:=n;have hs:=a5h k hk;refine pcA [46] Tryz.func36 (fun D=>?_);refine au ?_;refine rc0 (aae k h om om dx dx hk) Y Y Y Y Y Y Y ?_;exact ar (c:=rfl)
structure En where
 path:List Dc
 lems:List Lm
 empty:Bool
 proof:List Mm
 deriving Inhabited
abbrev enT:List Nat:=[42,100,98,200,46]
def enC (x:En):List PV:=[dcsP x.path,lmsP x.lems,iP 0,iP 0,bP false,.nat 0,.nat 0,.rows 46 9 ndT [],bP x.empty,mmsP x.proof]
abbrev enP (x:En):PV:=.agg (enC x)
abbrev ensP (l:List En):PV:=.rows 77 10 enT (l.map enC)
def En.sc (q:Qr) (x:En):Sc:=⟨q,x.path,x.lems⟩
structure EnOk (x:En):Prop where
 lems:∀m∈x.lems,LmOk m
 proof:PfOk x.proof
def bz (q:Qr) (x:En):Bool:=uo (x.sc q)&&(bif x.empty then ff (x.sc q) x.proof else dv (x.sc q) q.goal x.proof)
theorem aar {q:Qr} {x:En} {a b:Nat} (h:(x.sc q).Va a b) (hx:EnOk x) (hg:q.goal.S 100 8):PCalls Tryz.prog TF 39 [qyP q,enP x] (bP (bz q x)):=by
 refine pcA [39,77,85] Tryz.func39 (fun D=>?_);refine ac (c:=a6b (s:=x.sc q) h hx.lems) ?_;refine a2 (fun e15=>?_) (fun e15=>?_)
 ·replace e15:=gq e15;exact ar (c:=by (try simp only[List.length_map] at *);simp only[bz,e15,sb]<;>rfl)
 ·replace e15:=i7 e15;refine a2 (fun e18=>?_) (fun e18=>?_)
  ·refine ac (c:=a2w (s:=x.sc q) h hx.proof) ?_;exact ar (c:=by (try simp only[List.length_map] at *);simp only[bz,e15,e18,sb]<;>rfl)
  ·refine ac (c:=vw (s:=x.sc q) h hg h.q.ok (by have:=h.n9;show q.g.inputs+q.g.units.length≤_;have:q.g.inputs+q.g.units.length≤8:=h.n9;omega) hx.proof) ?_;exact ar (c:=by (try simp only[List.length_map] at *);simp only[bz,e15,e18,sb]<;>rfl)
def addM (one:Int→List Bool→List Bool):List Mm→List Bool→List Bool
 | [],is=>is
 | m::l,is=>addM one l (one m.1.hi (one m.1.lo is))
def hitM (ls:List Lm) (n:Int) (is:List Bool):Bool:=decide (1≤n)&&(decide (n≤(ls.length:Int))&&!atZ is (n - 1))
def oneM (ls:List Lm):Nat→Int→List Bool→List Bool
 | 0,_,is=>is
 | k+1,n,is=>bif hitM ls n is then addM (oneM ls k) (atZ ls (n - 1)).proof (is.set (n - 1).toNat true) else is
def cntF (is:List Bool):Nat:=is.countP fun b=>!b
theorem zb {is:List Bool} {i:Nat} (h:is[i]?=some false):cntF (is.set i true)+1=cntF is:=by
 induction is generalizing i with
 | nil=>simp at h
 | cons b is ih=>
  cases i with
  | zero=>simp at h;subst h;simp[cntF]
  | succ i=>
   have:=ih (i:=i) (by simpa using h);simp only[cntF,List.set_cons_succ,List.countP_cons] at this ⊢;omega
theorem jh {α:Type} [Inhabited α] {l:List α} {z:Int} {n:Nat} (h1:1≤z) (h2:z≤(n:Int)) (hl:l.length=n):l[(z - 1).toNat]?=some (atZ l (z - 1)):=by
 have h:=dy (l:=l) (z:=z - 1) om om;exact h
theorem zi {one:Int→List Bool→List Bool} {n k:Nat} (h:∀x is,is.length=n→cntF is≤k→(one x is).length=n∧cntF (one x is)≤cntF is):∀(l:List Mm) (is:List Bool),is.length=n→cntF is≤k→(addM one l is).length=n∧cntF (addM one l is)≤cntF is
 | [],is,h1,h2=>⟨h1,nr _⟩
 | m::l,is,h1,h2=>by
  obtain⟨a1,a2⟩:=h m.1.lo is h1 h2;obtain⟨b1,b2⟩:=h m.1.hi _ a1 (nt a2 h2);obtain⟨c1,c2⟩:=zi h l _ b1 om;exact⟨c1,by rw[addM];omega⟩
theorem rm {ls:List Lm}:∀(k:Nat) (x:Int) (is:List Bool),is.length=ls.length→cntF is≤k→(oneM ls k x is).length=ls.length∧cntF (oneM ls k x is)≤cntF is
 | 0,x,is,h1,_=>⟨h1,nr _⟩
 | k+1,x,is,h1,h2=>by
  rw[oneM];cases hh:hitM ls x is with
  | false=>exact⟨h1,nr _⟩
  | true=>
   simp only[hitM,be,de,Bool.not_eq_true'] at hh;obtain⟨g1,g2,g3⟩:=hh;have h3:=jh (l:=is) g1 g2 h1;rw[g3] at h3;have h4:=zb h3;obtain⟨c1,c2⟩:=zi (rm k) (atZ ls (x - 1)).proof (is.set (x - 1).toNat true) (by rw[List.length_set];exact h1) om;exact⟨c1,by rw[cond_true];omega⟩
theorem acn {one:Int→List Bool→List Bool} {l:List Mm} {i:Nat} {is:List Bool} (hi:i < l.length):addM one (l.drop i) is=addM one (l.drop (i+1)) (one (atZ l (i:Int)).1.hi (one (atZ l (i:Int)).1.lo is)):=by
 have e:l.drop i=atZ l (i:Int)::l.drop (i+1):=by rw[bm (ge hi),List.drop_eq_getElem_cons hi]
 rw[e,addM]
abbrev bsC (is:List Bool):List (List PV):=is.map fun b=>[bP b]
abbrev mkR (ls:List Lm) (is:List Bool):List (Nat×Res):=[(1000,.box 154 [.pv (lmsP ls),.tok 1001]),(1001,.tok 4 1 [] (bsC is))]
theorem ani {is:List Bool} {i:Nat}:(bsC is).set i [bP true]=bsC (is.set i true):=(List.map_set ..).symm
theorem alh {ls:List Lm} {n:Int} {is is2:List Bool} (h9:ls.length≤100000) (hl:is.length=ls.length) (hh:hitM ls n is=true) (ih:MCalls Tryz.prog [] 81 [.box 1000 0,.pv (mmsP (atZ ls (n - 1)).proof)] (mkR ls (is.set (n - 1).toNat true)) (mkR ls is2) (.tup [])):MCalls Tryz.prog [] 134 [.box 1000 0,.pv (iP n)] (mkR ls is) (mkR ls is2) (.tup []):=by
 simp only[hitM,be,de,Bool.not_eq_true'] at hh;obtain⟨g1,g2,g3⟩:=hh;refine pcm [154,4] (by kernel_rfl) Tryz.func134 Y Y (fun D hG=>?_);refine akT (c:=by exact (show _=true from dt g1)) ?_;refine akT (c:=by exact (show _=true from dt (by rw[List.length_map];exact g2))) ?_;refine aa (c:=cw om om om om) ?_;refine ro0 Y Y Y (fun hd=>fv (i:=(n - 1).toNat) al Y Y Y Y Y Y dx (show n - 1=((n - 1).toNat:Int) by omega) (aj (f:=fun b=>[bP b]) (jh g1 g2 hl)) hd) ?_;refine ro0 Y Y Y (fun hd=>ca (i:=(n - 1).toNat) (j:=0) al Y Y Y Y Y Y (aj (f:=fun b=>[bP b]) (jh g1 g2 hl)) Y hd) ?_;refine a2 (fun e25=>?_) (fun e25=>?_)
 ·refine aa (c:=cw om om om om) ?_;refine ro0 Y Y Y (fun hd=>fv (i:=(n - 1).toNat) al Y Y Y Y Y Y dx (show n - 1=((n - 1).toNat:Int) by omega) (aj (f:=fun b=>[bP b]) (jh g1 g2 hl)) hd) ?_;refine ro0 Y Y Y (fun hd=>eb (i:=(n - 1).toNat) (j:=0) al Y Y Y Y Y Y Y (aj (f:=fun b=>[bP b]) (jh g1 g2 hl)) Y Y Y Y Y) ?_;refine aa (c:=cw om om om om) ?_;refine ay (z:=show n - 1=((n - 1).toNat:Int) by omega) (c:=(aj (jh g1 g2 rfl))) ?_;refine au ?_;refine rm0 [] [] hG (ih) Y Y Y Y Y Y (ai (Y) (ai (congrArg (fun x=>some (Res.tok _ _ _ x)) ani) trivial)) trivial trivial Y Y Y ?_;exact a7t Y Y ((c2 Y Y trivial))
 ·have e25:=e25;rw[g3] at e25;cases e25
theorem agt {ls:List Lm} {n:Int} {is:List Bool} (h9:ls.length≤100000) (hl:is.length=ls.length) (hh:hitM ls n is=false):MCalls Tryz.prog [] 134 [.box 1000 0,.pv (iP n)] (mkR ls is) (mkR ls is) (.tup []):=by
 refine pcm [154,4] (by kernel_rfl) Tryz.func134 Y Y (fun D hG=>?_);refine a2 (fun e6=>?_) (fun e6=>?_)
 ·have g1:=of_decide_eq_true e6;refine a2 (fun e15=>?_) (fun e15=>?_)
  ·have g2:n≤(ls.length:Int):=by have:=of_decide_eq_true e15;rw[List.length_map] at this;exact this
   refine aa (c:=cw om om om om) ?_;refine ro0 Y Y Y (fun hd=>fv (i:=(n - 1).toNat) al Y Y Y Y Y Y dx (show n - 1=((n - 1).toNat:Int) by omega) (aj (f:=fun b=>[bP b]) (jh g1 g2 hl)) hd) ?_;refine ro0 Y Y Y (fun hd=>ca (i:=(n - 1).toNat) (j:=0) al Y Y Y Y Y Y (aj (f:=fun b=>[bP b]) (jh g1 g2 hl)) Y hd) ?_;refine a2 (fun e25=>?_) (fun e25=>?_)
   ·exfalso
    have e25:(!atZ is (n - 1))=true:=e25;rw[hitM,dt g1,dt g2,e25] at hh;cases hh
   ·refine au ?_;exact a7t Y Y ((c2 Y Y trivial))
  ·refine au ?_;exact a7t Y Y ((c2 Y Y trivial))
 ·refine au ?_;exact a7t Y Y ((c2 Y Y trivial))
theorem agu {ls:List Lm} {l:List Mm} {is:List Bool} {k:Nat} (h9:l.length≤100000) (hl:is.length=ls.length) (hk:cntF is≤k) (one:∀(n:Int) (is:List Bool),is.length=ls.length→cntF is≤k→MCalls Tryz.prog [] 134 [.box 1000 0,.pv (iP n)] (mkR ls is) (mkR ls (oneM ls k n is)) (.tup [])):MCalls Tryz.prog [] 81 [.box 1000 0,.pv (mmsP l)] (mkR ls is) (mkR ls (addM (oneM ls k) l is)) (.tup []):=by
 refine pcm [98,154,4] (by kernel_rfl) Tryz.func81 Y Y (fun D hG=>?_);refine au ?_;refine pl (ι:={p:Nat×List Bool // p.1≤l.length∧addM (oneM ls k) (l.drop p.1) p.2=addM (oneM ls k) l is∧p.2.length=ls.length∧cntF p.2≤k}) (fun p=>[(0,.box 1000 0),(6,.pv (mmsP l)),(7,.pv (iP ((l.map mmC).length:Int))),(8,.pv (iP p.1.1))]) (fun p=>mkR ls p.1.2) [98,154,4] (fun p=>l.length - p.1.1) ⟨(0,is),nq _,rfl,hl,hk⟩ (c4 Y Y Y Y trivial) (c2 Y Y trivial) (fun _=>rfl) ?_;intro ⟨(i,is'),hi0,hg,hl1,hk1⟩;simp only at hi0 hg hl1 hk1;refine a2 (fun e9=>?_) (fun e9=>?_)
 ·have hi:i < l.length:=db e9;obtain⟨a1,a2⟩:=rm k (atZ l (i:Int)).1.lo is' hl1 hk1;obtain⟨b1,b2⟩:=rm k (atZ l (i:Int)).1.hi _ a1 (nt a2 hk1);refine ax (c:=(aj (ah hi))) ?_;refine au ?_;refine rm0 [(0,.box 1000 0),(6,.pv (mmsP l)),(7,.pv (iP ((l.map mmC).length:Int))),(8,.pv (iP (i:Int))),(5,.box 5 0)] [(5,.box 98 [.pv (iP (atZ l (i:Int)).1.kind),.pv (iP (atZ l (i:Int)).1.index),.pv (iP (atZ l (i:Int)).1.lo),.pv (iP (atZ l (i:Int)).1.hi),.pv (bP (atZ l (i:Int)).2.neg),.pv (.nat (atZ l (i:Int)).2.num),.pv (.nat (atZ l (i:Int)).2.den)])] hG (one (atZ l (i:Int)).1.lo is' hl1 hk1) Y Y Y Y Y Y (c2 Y Y trivial) (c5 Y Y Y Y Y trivial) (ai Y trivial) Y Y Y ?_;refine au ?_;refine rm0 [(0,.box 1000 0),(6,.pv (mmsP l)),(7,.pv (iP ((l.map mmC).length:Int))),(8,.pv (iP (i:Int)))] [] hG (one (atZ l (i:Int)).1.hi _ a1 (nt a2 hk1)) Y Y Y Y Y Y (c2 Y Y trivial) (c4 Y Y Y Y trivial) trivial Y Y Y ?_;refine aa (c:=ae (by show i≤_;omega)) ?_;refine au ?_;exact pe ⟨(i+1,oneM ls k (atZ l (i:Int)).1.hi (oneM ls k (atZ l (i:Int)).1.lo is')),hi,by rw[← hg,acn hi],b1,nt b2 (nt a2 hk1)⟩ (c4 Y Y Y Y trivial) (c2 Y Y trivial) Y (by show l.length - (i+1) < l.length - i;omega)
 ·have hj:l.length≤i:=dw e9;refine au ?_;exact a7t Y Y (ai Y (ai (congrArg (fun x=>some (Res.tok _ _ _ (bsC x))) (by have hg:=hg;rw[List.drop_of_length_le hj] at hg;exact hg)) trivial))
theorem ags {ls:List Lm} (h9:ls.length≤100000) (hp:∀m∈ls,m.proof.length≤100000):∀(k:Nat) (n:Int) (is:List Bool),is.length=ls.length→cntF is≤k→MCalls Tryz.prog [] 134 [.box 1000 0,.pv (iP n)] (mkR ls is) (mkR ls (oneM ls k n is)) (.tup [])
 | 0,n,is,hl,hk=>by
  cases hh:hitM ls n is with
  | false=>exact agt h9 hl hh
  | true=>
   simp only[hitM,be,de,Bool.not_eq_true'] at hh;obtain⟨g1,g2,g3⟩:=hh;have h3:=jh (l:=is) g1 g2 hl;rw[g3] at h3;have h4:=zb h3;omega
 | k+1,n,is,hl,hk=>by
  cases hh:hitM ls n is with
  | false=>rw[oneM,hh];exact agt h9 hl hh
  | true=>
   have hh':=hh;simp only[hitM,be,de,Bool.not_eq_true'] at hh;obtain⟨g1,g2,g3⟩:=hh;have h3:=jh (l:=is) g1 g2 hl;rw[g3] at h3;have h4:=zb h3;rw[oneM,hh'];exact alh h9 hl hh' (agu (hp _ (bi om om)) (by rw[List.length_set];exact hl) om (ags h9 hp k))
theorem a13 {l:List Mm} (h9:l.length≤1000000):NCalls Tryz.prog [] 78 [mmsP l] 98 7 [200] (l.map mmC):=by
 refine pcn [98] (by kernel_rfl) Tryz.func78 Y Y (fun D=>?_);refine au ?_;refine rz0 Y Y Y Y Y ⟨98,by kernel_rfl⟩ Y Y (fun hx=>?_) ?_
 ·refine au ?_;exact akk Y Y Y Y hx
 ·refine au ?_;refine rp0 gc (by simp;omega) Y Y Y Y Y Y Y Y ?_;refine au ?_;exact retn Y Y Y Y (Y)
theorem aek {l:List Dc} (h9:l.length≤1000000):NCalls Tryz.prog [] 77 [dcsP l] 42 5 [200] (l.map dcC):=by
 refine pcn [42] (by kernel_rfl) Tryz.func77 Y Y (fun D=>?_);refine au ?_;refine rz0 Y Y Y Y Y ⟨42,by kernel_rfl⟩ Y Y (fun hx=>?_) ?_
 ·refine au ?_;exact akk Y Y Y Y hx
 ·refine au ?_;refine rp0 el_Decision (by simp;omega) Y Y Y Y Y Y Y Y ?_;refine au ?_;exact retn Y Y Y Y (Y)
def reN (to:List Int) (x:Int):Int:=bif decide (1≤x)&&decide (x≤(to.length:Int)) then atZ to (x - 1) else x
def renM (to:List Int) (m:Mm):Mm:=(⟨m.1.kind,m.1.index,reN to m.1.lo,reN to m.1.hi⟩,m.2)
theorem pm {l:List Mm} {i:Nat} (m:Mm) {r:List PV} (h:r=mmC m):(l.map mmC).set i r=(l.set i m).map mmC:=by rw[h];exact (List.map_set ..).symm
theorem yo {l:List Mm} {i:Nat} {m:Mm} (h:l[i]?=some m) (m':Mm) (e:m'=m):l.map mmC=(l.set i m').map mmC:=by rw[e,List.set_getElem?_self' h]
theorem gh {to:List Int} {l:List Mm} {i:Nat} (hi:i < l.length):((l.take i).map (renM to)++l.drop i)[i]?=some (atZ l (i:Int)):=by
 rw[List.getElem?_append_right (by simp;omega)];simp only[List.length_map,List.length_take,Nat.min_eq_left (Nat.le_of_lt hi),Nat.sub_self];rw[List.getElem?_drop,Nat.add_zero,ah hi]
theorem jm {to:List Int} {l:List Mm} {i:Nat} (hi:i < l.length):((l.take i).map (renM to)++l.drop i).set i (renM to (atZ l (i:Int)))=(l.take (i+1)).map (renM to)++l.drop (i+1):=by
 have h1:((l.take i).map (renM to)).length=i:=by simp;omega
 rw[List.set_append_right _ _ om,h1,Nat.sub_self,List.drop_eq_getElem_cons hi,List.set_cons_zero,List.take_add_one,ah hi];simp
theorem xr {xs:List (List PV)} {i:Nat} {r r':List PV} (h:xs[i]?=some r):(xs.set i r')[i]?=some r':=by
 rw[List.getElem?_set_self (gs h).1]
theorem a04 {l:List Mm} {to:List Int} (h9:l.length≤1000000) (h8:to.length≤1000000):PCalls Tryz.prog [] 82 [mmsP l,z0 to] (mmsP (l.map (renM to))):=by
 refine pcA [98] Tryz.func82 (fun D=>?_);refine pa Y Y (pr0 (qg 1 ?_));refine rcn0 9 (a13 h9) Y Y Y Y Y Y Y Y ?_;refine au ?_;refine pl (ι:={i:Nat // i≤l.length}) (fun i=>[(1,.pv (z0 to)),(4,.nil 98 7 [200]),(5,.tok 9),(11,.pv (iP (l.length:Int))),(12,.pv (iP i.1))]) (fun i=>[(9,.tok 98 7 [200] (((l.take i.1).map (renM to)++l.drop i.1).map mmC))]) [98] (fun i=>l.length - i.1) ⟨0,nq _⟩ (c3 Y Y Y (ai (congrArg (fun n:Nat=>some (SV.pv (iP (n:Int)))) (List.length_map ..)) (ai Y trivial))) (ai Y trivial) (fun _=>rfl) ?_;intro ⟨i,hi0⟩;refine a2 (fun e13=>?_) (fun e13=>?_)
 ·have hi:i < l.length:=by have h:(i:Int) < (l.length:Int):=of_decide_eq_true e13;omega
  refine pk (ps (pb ?_));refine pa Y Y (pr0 (qg 2 ?_));refine ro0 Y Y Y (fun hd=>fv (i:=i) al Y Y Y Y Y Y dx Y (aj (gh hi)) hd) ?_;refine qg 2 ?_;refine rn Y (ps (pr0 (qg 3 ?_)));refine ro0 Y Y Y (fun hd=>ca (i:=i) (j:=2) al Y Y Y Y Y Y (aj (gh hi)) Y hd) ?_;refine a2 (fun e24=>?_) (fun e24=>?_)
  ·have g1:1≤(atZ l (i:Int)).1.lo:=of_decide_eq_true e24;refine qg 3 ?_;refine ro0 Y Y Y (fun hd=>ca (i:=i) (j:=2) al Y Y Y Y Y Y (aj (gh hi)) Y hd) ?_;refine a2 (fun e32=>?_) (fun e32=>?_)
   ·have g2:(atZ l (i:Int)).1.lo≤(to.length:Int):=by have:=of_decide_eq_true e32;rw[List.length_map] at this;exact this
    have g5:ariO .sub .i64 (atZ l (i:Int)).1.lo 1=some ((atZ l (i:Int)).1.lo - 1):=cw om om om om;refine pr0' (qg 5 ?_);refine ro0 Y Y Y (fun hd=>ca (i:=i) (j:=2) al Y Y Y Y Y Y (aj (gh hi)) Y hd) ?_;refine aa (c:=g5) ?_;refine ay (z:=show (atZ l (i:Int)).1.lo - 1=(((atZ l (i:Int)).1.lo - 1).toNat:Int) by omega) (c:=(aj (f:=fun x=>[iP x]) (jh g1 g2 rfl))) ?_;refine qg 3 ?_;refine ro0 Y Y Y (fun hd=>eb (i:=i) (j:=2) al Y Y Y Y Y Y Y (aj (gh hi)) Y Y Y Y Y) ?_;refine rn Y (pr0 (qg 3 ?_));refine ro0 Y Y Y (fun hd=>ca (i:=i) (j:=3) al Y Y Y Y Y Y (show (List.set (((l.take i).map (renM to)++l.drop i).map mmC) i (List.set (mmC (atZ l (i:Int))) 2 (iP (atZ to ((atZ l (i:Int)).1.lo - 1)))))[i]?=some (mmC ((⟨(atZ l (i:Int)).1.kind,(atZ l (i:Int)).1.index,atZ to ((atZ l (i:Int)).1.lo - 1),(atZ l (i:Int)).1.hi⟩,(atZ l (i:Int)).2):Mm)) from xr (r:=mmC (atZ l (i:Int))) (aj (gh hi))) Y hd) ?_;refine a2 (fun e49=>?_) (fun e49=>?_)
    ·have g3:1≤(atZ l (i:Int)).1.hi:=of_decide_eq_true e49;refine qg 3 ?_;refine ro0 Y Y Y (fun hd=>ca (i:=i) (j:=3) al Y Y Y Y Y Y (show (List.set (((l.take i).map (renM to)++l.drop i).map mmC) i (List.set (mmC (atZ l (i:Int))) 2 (iP (atZ to ((atZ l (i:Int)).1.lo - 1)))))[i]?=some (mmC ((⟨(atZ l (i:Int)).1.kind,(atZ l (i:Int)).1.index,atZ to ((atZ l (i:Int)).1.lo - 1),(atZ l (i:Int)).1.hi⟩,(atZ l (i:Int)).2):Mm)) from xr (r:=mmC (atZ l (i:Int))) (aj (gh hi))) Y hd) ?_;refine a2 (fun e57=>?_) (fun e57=>?_)
     ·have g4:(atZ l (i:Int)).1.hi≤(to.length:Int):=by have:=of_decide_eq_true e57;rw[List.length_map] at this;exact this
      have g6:ariO .sub .i64 (atZ l (i:Int)).1.hi 1=some ((atZ l (i:Int)).1.hi - 1):=cw om om om om;refine pr0' (qg 5 ?_);refine ro0 Y Y Y (fun hd=>ca (i:=i) (j:=3) al Y Y Y Y Y Y (show (List.set (((l.take i).map (renM to)++l.drop i).map mmC) i (List.set (mmC (atZ l (i:Int))) 2 (iP (atZ to ((atZ l (i:Int)).1.lo - 1)))))[i]?=some (mmC ((⟨(atZ l (i:Int)).1.kind,(atZ l (i:Int)).1.index,atZ to ((atZ l (i:Int)).1.lo - 1),(atZ l (i:Int)).1.hi⟩,(atZ l (i:Int)).2):Mm)) from xr (r:=mmC (atZ l (i:Int))) (aj (gh hi))) Y hd) ?_;refine aa (c:=g6) ?_;refine ay (z:=show (atZ l (i:Int)).1.hi - 1=(((atZ l (i:Int)).1.hi - 1).toNat:Int) by omega) (c:=(aj (f:=fun x=>[iP x]) (jh g3 g4 rfl))) ?_;refine qg 3 ?_;refine ro0 Y Y Y (fun hd=>eb (i:=i) (j:=3) al Y Y Y Y Y Y Y (show (List.set (((l.take i).map (renM to)++l.drop i).map mmC) i (List.set (mmC (atZ l (i:Int))) 2 (iP (atZ to ((atZ l (i:Int)).1.lo - 1)))))[i]?=some (mmC ((⟨(atZ l (i:Int)).1.kind,(atZ l (i:Int)).1.index,atZ to ((atZ l (i:Int)).1.lo - 1),(atZ l (i:Int)).1.hi⟩,(atZ l (i:Int)).2):Mm)) from xr (r:=mmC (atZ l (i:Int))) (aj (gh hi))) Y Y Y Y Y) ?_;refine aa (c:=ae (by show i≤_;omega)) ?_;refine au ?_;exact pe ⟨i+1,hi⟩ (c5 Y Y Y Y Y trivial) (ai (congrArg (fun x=>some (Res.tok _ _ _ x)) (((congrArg (fun x=>List.set x i _) (pm ((⟨(atZ l (i:Int)).1.kind,(atZ l (i:Int)).1.index,atZ to ((atZ l (i:Int)).1.lo - 1),(atZ l (i:Int)).1.hi⟩,(atZ l (i:Int)).2):Mm) Y)).trans ((pm (renM to (atZ l (i:Int))) (by rw[show renM to (atZ l (i:Int))=(⟨(atZ l (i:Int)).1.kind,(atZ l (i:Int)).1.index,atZ to ((atZ l (i:Int)).1.lo - 1),atZ to ((atZ l (i:Int)).1.hi - 1)⟩,(atZ l (i:Int)).2) from (by unfold renM reN;(try simp only[List.length_map] at *);simp only[e24,e32,e49,e57,sb])];rfl)).trans (by rw[List.set_set]))).trans (congrArg (List.map mmC) (jm hi)))) trivial) Y (by show l.length - (i+1) < l.length - i;omega)
     ·refine aa (c:=ae (by show i≤_;omega)) ?_;refine au ?_;exact pe ⟨i+1,hi⟩ (c5 Y Y Y Y Y trivial) (ai (congrArg (fun x=>some (Res.tok _ _ _ x)) ((pm (renM to (atZ l (i:Int))) (by rw[show renM to (atZ l (i:Int))=((⟨(atZ l (i:Int)).1.kind,(atZ l (i:Int)).1.index,atZ to ((atZ l (i:Int)).1.lo - 1),(atZ l (i:Int)).1.hi⟩,(atZ l (i:Int)).2):Mm) from (by unfold renM reN;(try simp only[List.length_map] at *);simp only[e24,e32,e49,e57,sb])];rfl)).trans (congrArg (List.map mmC) (jm hi)))) trivial) Y (by show l.length - (i+1) < l.length - i;omega)
    ·refine aa (c:=ae (by show i≤_;omega)) ?_;refine au ?_;exact pe ⟨i+1,hi⟩ (c5 Y Y Y Y Y trivial) (ai (congrArg (fun x=>some (Res.tok _ _ _ x)) ((pm (renM to (atZ l (i:Int))) (by rw[show renM to (atZ l (i:Int))=((⟨(atZ l (i:Int)).1.kind,(atZ l (i:Int)).1.index,atZ to ((atZ l (i:Int)).1.lo - 1),(atZ l (i:Int)).1.hi⟩,(atZ l (i:Int)).2):Mm) from (by unfold renM reN;(try simp only[List.length_map] at *);simp only[e24,e32,e49,sb])];rfl)).trans (congrArg (List.map mmC) (jm hi)))) trivial) Y (by show l.length - (i+1) < l.length - i;omega)
   ·refine pk (pr0 (qg 3 ?_));refine ro0 Y Y Y (fun hd=>ca (i:=i) (j:=3) al Y Y Y Y Y Y (aj (gh hi)) Y hd) ?_;refine a2 (fun e49=>?_) (fun e49=>?_)
    ·have g3:1≤(atZ l (i:Int)).1.hi:=of_decide_eq_true e49;refine qg 3 ?_;refine ro0 Y Y Y (fun hd=>ca (i:=i) (j:=3) al Y Y Y Y Y Y (aj (gh hi)) Y hd) ?_;refine a2 (fun e57=>?_) (fun e57=>?_)
     ·have g4:(atZ l (i:Int)).1.hi≤(to.length:Int):=by have:=of_decide_eq_true e57;rw[List.length_map] at this;exact this
      have g6:ariO .sub .i64 (atZ l (i:Int)).1.hi 1=some ((atZ l (i:Int)).1.hi - 1):=cw om om om om;refine pr0' (qg 5 ?_);refine ro0 Y Y Y (fun hd=>ca (i:=i) (j:=3) al Y Y Y Y Y Y (aj (gh hi)) Y hd) ?_;refine aa (c:=g6) ?_;refine ay (z:=show (atZ l (i:Int)).1.hi - 1=(((atZ l (i:Int)).1.hi - 1).toNat:Int) by omega) (c:=(aj (f:=fun x=>[iP x]) (jh g3 g4 rfl))) ?_;refine qg 3 ?_;refine ro0 Y Y Y (fun hd=>eb (i:=i) (j:=3) al Y Y Y Y Y Y Y (aj (gh hi)) Y Y Y Y Y) ?_;refine aa (c:=ae (by show i≤_;omega)) ?_;refine au ?_;exact pe ⟨i+1,hi⟩ (c5 Y Y Y Y Y trivial) (ai (congrArg (fun x=>some (Res.tok _ _ _ x)) ((pm (renM to (atZ l (i:Int))) (by rw[show renM to (atZ l (i:Int))=(⟨(atZ l (i:Int)).1.kind,(atZ l (i:Int)).1.index,(atZ l (i:Int)).1.lo,atZ to ((atZ l (i:Int)).1.hi - 1)⟩,(atZ l (i:Int)).2) from (by unfold renM reN;(try simp only[List.length_map] at *);simp only[e24,e32,e49,e57,sb])];rfl)).trans (congrArg (List.map mmC) (jm hi)))) trivial) Y (by show l.length - (i+1) < l.length - i;omega)
     ·refine aa (c:=ae (by show i≤_;omega)) ?_;refine au ?_;exact pe ⟨i+1,hi⟩ (c5 Y Y Y Y Y trivial) (ai (congrArg (fun x=>some (Res.tok _ _ _ x)) ((yo (gh hi) (renM to (atZ l (i:Int))) (by unfold renM reN;(try simp only[List.length_map] at *);simp only[e24,e32,e49,e57,sb])).trans (congrArg (List.map mmC) (jm hi)))) trivial) Y (by show l.length - (i+1) < l.length - i;omega)
    ·refine aa (c:=ae (by show i≤_;omega)) ?_;refine au ?_;exact pe ⟨i+1,hi⟩ (c5 Y Y Y Y Y trivial) (ai (congrArg (fun x=>some (Res.tok _ _ _ x)) ((yo (gh hi) (renM to (atZ l (i:Int))) (by unfold renM reN;(try simp only[List.length_map] at *);simp only[e24,e32,e49,sb])).trans (congrArg (List.map mmC) (jm hi)))) trivial) Y (by show l.length - (i+1) < l.length - i;omega)
  ·refine qg 8 ?_;refine rn Y (pj Y ?_);refine pk (pr0 (qg 3 ?_));refine ro0 Y Y Y (fun hd=>ca (i:=i) (j:=3) al Y Y Y Y Y Y (aj (gh hi)) Y hd) ?_;refine a2 (fun e49=>?_) (fun e49=>?_)
   ·have g3:1≤(atZ l (i:Int)).1.hi:=of_decide_eq_true e49;refine qg 3 ?_;refine ro0 Y Y Y (fun hd=>ca (i:=i) (j:=3) al Y Y Y Y Y Y (aj (gh hi)) Y hd) ?_;refine a2 (fun e57=>?_) (fun e57=>?_)
    ·have g4:(atZ l (i:Int)).1.hi≤(to.length:Int):=by have:=of_decide_eq_true e57;rw[List.length_map] at this;exact this
     have g6:ariO .sub .i64 (atZ l (i:Int)).1.hi 1=some ((atZ l (i:Int)).1.hi - 1):=cw om om om om;refine pr0' (qg 5 ?_);refine ro0 Y Y Y (fun hd=>ca (i:=i) (j:=3) al Y Y Y Y Y Y (aj (gh hi)) Y hd) ?_;refine aa (c:=g6) ?_;refine ay (z:=show (atZ l (i:Int)).1.hi - 1=(((atZ l (i:Int)).1.hi - 1).toNat:Int) by omega) (c:=(aj (f:=fun x=>[iP x]) (jh g3 g4 rfl))) ?_;refine qg 3 ?_;refine ro0 Y Y Y (fun hd=>eb (i:=i) (j:=3) al Y Y Y Y Y Y Y (aj (gh hi)) Y Y Y Y Y) ?_;refine aa (c:=ae (by show i≤_;omega)) ?_;refine au ?_;exact pe ⟨i+1,hi⟩ (c5 Y Y Y Y Y trivial) (ai (congrArg (fun x=>some (Res.tok _ _ _ x)) ((pm (renM to (atZ l (i:Int))) (by rw[show renM to (atZ l (i:Int))=(⟨(atZ l (i:Int)).1.kind,(atZ l (i:Int)).1.index,(atZ l (i:Int)).1.lo,atZ to ((atZ l (i:Int)).1.hi - 1)⟩,(atZ l (i:Int)).2) from (by unfold renM reN;(try simp only[List.length_map] at *);simp only[e24,e49,e57,sb])];rfl)).trans (congrArg (List.map mmC) (jm hi)))) trivial) Y (by show l.length - (i+1) < l.length - i;omega)
    ·refine aa (c:=ae (by show i≤_;omega)) ?_;refine au ?_;exact pe ⟨i+1,hi⟩ (c5 Y Y Y Y Y trivial) (ai (congrArg (fun x=>some (Res.tok _ _ _ x)) ((yo (gh hi) (renM to (atZ l (i:Int))) (by unfold renM reN;(try simp only[List.length_map] at *);simp only[e24,e49,e57,sb])).trans (congrArg (List.map mmC) (jm hi)))) trivial) Y (by show l.length - (i+1) < l.length - i;omega)
   ·refine aa (c:=ae (by show i≤_;omega)) ?_;refine au ?_;exact pe ⟨i+1,hi⟩ (c5 Y Y Y Y Y trivial) (ai (congrArg (fun x=>some (Res.tok _ _ _ x)) ((yo (gh hi) (renM to (atZ l (i:Int))) (by unfold renM reN;(try simp only[List.length_map] at *);simp only[e24,e49,sb])).trans (congrArg (List.map mmC) (jm hi)))) trivial) Y (by show l.length - (i+1) < l.length - i;omega)
 ·have hj:l.length≤i:=by have h:¬(i:Int) < (l.length:Int):=of_decide_eq_false e13;omega
  exact ar (c:=congrArg mmsP (by rw[List.take_of_length_le hj,List.drop_of_length_le hj,List.append_nil]))
def shN (by_:Nat) (x:Int):Int:=bif decide (x > 0) then x+(by_:Int) else x
def shM (by_:Nat) (m:Mm):Mm:=(⟨m.1.kind,m.1.index,shN by_ m.1.lo,shN by_ m.1.hi⟩,m.2)
theorem xq {b:Nat} {l:List Mm} {i:Nat} (hi:i < l.length):((l.take i).map (shM b)++l.drop i)[i]?=some (atZ l (i:Int)):=by
 rw[List.getElem?_append_right (by simp;omega)];simp only[List.length_map,List.length_take,Nat.min_eq_left (Nat.le_of_lt hi),Nat.sub_self];rw[List.getElem?_drop,Nat.add_zero,ah hi]
theorem a0k {b:Nat} {l:List Mm} {i:Nat} (hi:i < l.length):((l.take i).map (shM b)++l.drop i).set i (shM b (atZ l (i:Int)))=(l.take (i+1)).map (shM b)++l.drop (i+1):=by
 have h1:((l.take i).map (shM b)).length=i:=by simp;omega
 rw[List.set_append_right _ _ om,h1,Nat.sub_self,List.drop_eq_getElem_cons hi,List.set_cons_zero,List.take_add_one,ah hi];simp
theorem shM0 (m:Mm):shM 0 m=m:=by
 obtain⟨⟨k,i,lo,hi⟩,q⟩:=m;simp[shM,shN]
theorem aag {l:List Mm} {b:Nat} (h9:l.length≤1000000) (hb:b≤1000000) (hm:∀m∈l,m.1.lo≤1000000∧m.1.hi≤1000000):PCalls Tryz.prog [] 289 [mmsP l,iP b] (mmsP (l.map (shM b))):=by
 refine pcA [98] Tryz.func289 (fun D=>?_);refine pa Y Y (pr0 (qg 1 ?_));refine rcn0 9 (a13 h9) Y Y Y Y Y Y Y Y ?_;refine au ?_;refine pl (ι:={i:Nat // i≤l.length}) (fun i=>[(1,.pv (iP (b:Int))),(4,.nil 98 7 [200]),(5,.tok 9),(11,.pv (iP (l.length:Int))),(12,.pv (iP i.1))]) (fun i=>[(9,.tok 98 7 [200] (((l.take i.1).map (shM b)++l.drop i.1).map mmC))]) [98] (fun i=>l.length - i.1) ⟨0,nq _⟩ (c3 Y Y Y (ai (congrArg (fun n:Nat=>some (SV.pv (iP (n:Int)))) (List.length_map ..)) (ai Y trivial))) (ai Y trivial) (fun _=>rfl) ?_;intro ⟨i,hi0⟩;refine a2 (fun e13=>?_) (fun e13=>?_)
 ·have hi:i < l.length:=by have h:(i:Int) < (l.length:Int):=of_decide_eq_true e13;omega
  obtain⟨m1,m2⟩:=hm _ (bi (z:=(i:Int)) om om);refine pk (ps (pb ?_));refine pa Y Y (pr0 (qg 2 ?_));refine ro0 Y Y Y (fun hd=>fv (i:=i) al Y Y Y Y Y Y dx Y (aj (xq hi)) hd) ?_;refine qg 2 ?_;refine rn Y (ps (pr0 (qg 3 ?_)));refine ro0 Y Y Y (fun hd=>ca (i:=i) (j:=2) al Y Y Y Y Y Y (aj (xq hi)) Y hd) ?_;refine a2 (fun e23=>?_) (fun e23=>?_)
  ·have g1:(atZ l (i:Int)).1.lo > 0:=of_decide_eq_true e23;have g5:ariO .add .i64 (atZ l (i:Int)).1.lo (b:Int)=some ((atZ l (i:Int)).1.lo+(b:Int)):=jg om om om om;refine pr0' (qg 3 ?_);refine ro0 Y Y Y (fun hd=>ca (i:=i) (j:=2) al Y Y Y Y Y Y (aj (xq hi)) Y hd) ?_;refine aa (c:=g5) ?_;refine qg 2 ?_;refine ro0 Y Y Y (fun hd=>eb (i:=i) (j:=2) al Y Y Y Y Y Y Y (aj (xq hi)) Y Y Y Y Y) ?_;refine rn Y (pr0 (qg 3 ?_));refine ro0 Y Y Y (fun hd=>ca (i:=i) (j:=3) al Y Y Y Y Y Y (show (List.set (((l.take i).map (shM b)++l.drop i).map mmC) i (List.set (mmC (atZ l (i:Int))) 2 (iP ((atZ l (i:Int)).1.lo+(b:Int)))))[i]?=some (mmC ((⟨(atZ l (i:Int)).1.kind,(atZ l (i:Int)).1.index,(atZ l (i:Int)).1.lo+(b:Int),(atZ l (i:Int)).1.hi⟩,(atZ l (i:Int)).2):Mm)) from xr (r:=mmC (atZ l (i:Int))) (aj (xq hi))) Y hd) ?_;refine a2 (fun e36=>?_) (fun e36=>?_)
   ·have g3:(atZ l (i:Int)).1.hi > 0:=of_decide_eq_true e36;have g6:ariO .add .i64 (atZ l (i:Int)).1.hi (b:Int)=some ((atZ l (i:Int)).1.hi+(b:Int)):=jg om om om om;refine pr0' (qg 3 ?_);refine ro0 Y Y Y (fun hd=>ca (i:=i) (j:=3) al Y Y Y Y Y Y (show (List.set (((l.take i).map (shM b)++l.drop i).map mmC) i (List.set (mmC (atZ l (i:Int))) 2 (iP ((atZ l (i:Int)).1.lo+(b:Int)))))[i]?=some (mmC ((⟨(atZ l (i:Int)).1.kind,(atZ l (i:Int)).1.index,(atZ l (i:Int)).1.lo+(b:Int),(atZ l (i:Int)).1.hi⟩,(atZ l (i:Int)).2):Mm)) from xr (r:=mmC (atZ l (i:Int))) (aj (xq hi))) Y hd) ?_;refine aa (c:=g6) ?_;refine qg 2 ?_;refine ro0 Y Y Y (fun hd=>eb (i:=i) (j:=3) al Y Y Y Y Y Y Y (show (List.set (((l.take i).map (shM b)++l.drop i).map mmC) i (List.set (mmC (atZ l (i:Int))) 2 (iP ((atZ l (i:Int)).1.lo+(b:Int)))))[i]?=some (mmC ((⟨(atZ l (i:Int)).1.kind,(atZ l (i:Int)).1.index,(atZ l (i:Int)).1.lo+(b:Int),(atZ l (i:Int)).1.hi⟩,(atZ l (i:Int)).2):Mm)) from xr (r:=mmC (atZ l (i:Int))) (aj (xq hi))) Y Y Y Y Y) ?_;refine aa (c:=ae (by show i≤_;omega)) ?_;refine au ?_;exact pe ⟨i+1,hi⟩ (c5 Y Y Y Y Y trivial) (ai (congrArg (fun x=>some (Res.tok _ _ _ x)) (((congrArg (fun x=>List.set x i _) (pm ((⟨(atZ l (i:Int)).1.kind,(atZ l (i:Int)).1.index,(atZ l (i:Int)).1.lo+(b:Int),(atZ l (i:Int)).1.hi⟩,(atZ l (i:Int)).2):Mm) Y)).trans ((pm (shM b (atZ l (i:Int))) (by rw[show shM b (atZ l (i:Int))=(⟨(atZ l (i:Int)).1.kind,(atZ l (i:Int)).1.index,(atZ l (i:Int)).1.lo+(b:Int),(atZ l (i:Int)).1.hi+(b:Int)⟩,(atZ l (i:Int)).2) from (by unfold shM shN;simp only[e23,e36,sb])];rfl)).trans (by rw[List.set_set]))).trans (congrArg (List.map mmC) (a0k hi)))) trivial) Y (by show l.length - (i+1) < l.length - i;omega)
   ·refine aa (c:=ae (by show i≤_;omega)) ?_;refine au ?_;exact pe ⟨i+1,hi⟩ (c5 Y Y Y Y Y trivial) (ai (congrArg (fun x=>some (Res.tok _ _ _ x)) ((pm (shM b (atZ l (i:Int))) (by rw[show shM b (atZ l (i:Int))=((⟨(atZ l (i:Int)).1.kind,(atZ l (i:Int)).1.index,(atZ l (i:Int)).1.lo+(b:Int),(atZ l (i:Int)).1.hi⟩,(atZ l (i:Int)).2):Mm) from (by unfold shM shN;simp only[e23,e36,sb])];rfl)).trans (congrArg (List.map mmC) (a0k hi)))) trivial) Y (by show l.length - (i+1) < l.length - i;omega)
  ·refine pk (pr0 (qg 3 ?_));refine ro0 Y Y Y (fun hd=>ca (i:=i) (j:=3) al Y Y Y Y Y Y (aj (xq hi)) Y hd) ?_;refine a2 (fun e36=>?_) (fun e36=>?_)
   ·have g3:(atZ l (i:Int)).1.hi > 0:=of_decide_eq_true e36;have g6:ariO .add .i64 (atZ l (i:Int)).1.hi (b:Int)=some ((atZ l (i:Int)).1.hi+(b:Int)):=jg om om om om;refine pr0' (qg 3 ?_);refine ro0 Y Y Y (fun hd=>ca (i:=i) (j:=3) al Y Y Y Y Y Y (aj (xq hi)) Y hd) ?_;refine aa (c:=g6) ?_;refine qg 2 ?_;refine ro0 Y Y Y (fun hd=>eb (i:=i) (j:=3) al Y Y Y Y Y Y Y (aj (xq hi)) Y Y Y Y Y) ?_;refine aa (c:=ae (by show i≤_;omega)) ?_;refine au ?_;exact pe ⟨i+1,hi⟩ (c5 Y Y Y Y Y trivial) (ai (congrArg (fun x=>some (Res.tok _ _ _ x)) ((pm (shM b (atZ l (i:Int))) (by rw[show shM b (atZ l (i:Int))=(⟨(atZ l (i:Int)).1.kind,(atZ l (i:Int)).1.index,(atZ l (i:Int)).1.lo,(atZ l (i:Int)).1.hi+(b:Int)⟩,(atZ l (i:Int)).2) from (by unfold shM shN;simp only[e23,e36,sb])];rfl)).trans (congrArg (List.map mmC) (a0k hi)))) trivial) Y (by show l.length - (i+1) < l.length - i;omega)
   ·refine aa (c:=ae (by show i≤_;omega)) ?_;refine au ?_;exact pe ⟨i+1,hi⟩ (c5 Y Y Y Y Y trivial) (ai (congrArg (fun x=>some (Res.tok _ _ _ x)) ((yo (xq hi) (shM b (atZ l (i:Int))) (by unfold shM shN;simp only[e23,e36,sb])).trans (congrArg (List.map mmC) (a0k hi)))) trivial) Y (by show l.length - (i+1) < l.length - i;omega)
 ·have hj:l.length≤i:=by have h:¬(i:Int) < (l.length:Int):=of_decide_eq_false e13;omega
  exact ar (c:=congrArg mmsP (by rw[List.take_of_length_le hj,List.drop_of_length_le hj,List.append_nil]))
def lfC (x:En):List PV:=[lmsP x.lems,iP 0,iP 0,bP false,.nat 0,.nat 0,.rows 46 9 ndT [],bP x.empty,mmsP x.proof]
theorem aad {q:Qr} {x:En} {a b:Nat} (h:(x.sc q).Va a b) (hx:EnOk x) (hg:q.goal.S 100 8):PCalls Tryz.prog TF 288 [scP (x.sc q),.agg (lfC x)] (bP (bz q x)):=by
 refine pcA [85,46] Tryz.func288 (fun D=>?_);refine ac (c:=a6b (s:=x.sc q) h hx.lems) ?_;refine a2 (fun e7=>?_) (fun e7=>?_)
 ·replace e7:=gq e7;exact ar (c:=by (try simp only[List.length_map] at *);simp only[bz,e7,sb]<;>rfl)
 ·replace e7:=i7 e7;refine a2 (fun e9=>?_) (fun e9=>?_)
  ·refine ac (c:=a2w (s:=x.sc q) h hx.proof) ?_;exact ar (c:=by (try simp only[List.length_map] at *);simp only[bz,e7,e9,sb]<;>rfl)
  ·refine ac (c:=vw (s:=x.sc q) h hg h.q.ok (by have:=h.n9;show q.g.inputs+q.g.units.length≤_;have:q.g.inputs+q.g.units.length≤8:=h.n9;omega) hx.proof) ?_;exact ar (c:=by (try simp only[List.length_map] at *);simp only[bz,e7,e9,sb]<;>rfl)
def Ob (w:World) (b:Nat) (o:Obj):Prop:=w.heap[b]?=some o
section
variable {w w':World} {b:Nat} {o:Obj}
theorem Ob.made (w:World) (o:Obj):Ob (w.alloc o) w.heap.size o:=heap_alloc_new w o
theorem Ob.lt (h:Ob w b o):b < w.heap.size:=by
 rcases Nat.lt_or_ge b w.heap.size with h1 | h1
 ·exact h1
 ·unfold Ob at h;rw[Array.getElem?_eq_none h1] at h;cases h
theorem Ob.gr (h:Ob w b o) (G:Gr w w'):Ob w' b o:=(G.below.block b h.lt).trans h
theorem Ob.fr (h:Ob w b o) {X:Nat→Prop} (F:Fr X w w') (hx:¬X b):Ob w' b o:=(F.keep b h.lt hx).trans h
def putObj (w:World) (r:Nat) (o:Obj):World:={ w with heap:=w.heap.setIfInBounds r o }
theorem putObj.fr (w:World) (r:Nat) (o:Obj):Fr (fun b=>b=r) w (putObj w r o):=by
 refine⟨⟨rfl,rfl,rfl,by simp[putObj],fun b hb=>absurd hb (Nat.not_lt_zero b)⟩,fun b hb hx=>?_⟩;simp only[putObj];rw[Array.getElem?_setIfInBounds_ne (fun e=>hx e.symm)]
theorem putObj.ob {w:World} {r:Nat} {o o':Obj} (h:Ob w r o):Ob (putObj w r o') r o':=by
 have:=h.lt;unfold Ob putObj;simp[this]
end
section
variable {P:Program} {w:World} {r:Nat}
theorem amj {t kt et:TypeId} {c:Nat} {s:ByteArray} {z:Value} (hm:P.underlying t=some (.map kt et)) (hk:P.underlying kt=some .string) (hz:(P.info? et).map (fun i=>i.zero)=some (some z)) (hb:Ob w r (.map #[] c)):
  (Instr.lookup t (.map (some r)) (.string s) false).run P w=.ok z w:=by
 obtain⟨i,hi,hz'⟩:=Option.map_eq_some_iff.1 hz;have hf:Instr.findNow .string (.string s) ([]:List MapEntry) 0=some none:=rfl;have hc:(Instr.checkKey true 10000 kt (.string s)).run P w=.ok () w:=MapKept.run_checkKey (k:=.string s) hk (by simp[MapKept.IsKey]) true 9999;simp[Instr.lookup,run_underlying hm,MapKept.run_getObj_map hb,hc,MapKept.run_findKey hk hf,Result.andThen,zeroValue,typeInfo,hi,hz']
theorem aoi {t kt et:TypeId} {c d:Nat} {s:ByteArray} {v:Value} (hs:(s == s)=true) (hm:P.underlying t=some (.map kt et)) (hk:P.underlying kt=some .string) (hb:Ob w r (.map #[{ key:=.string s,val:=v,born:=d }] c)):
  (Instr.lookup t (.map (some r)) (.string s) false).run P w=.ok v w:=by
 have hf:Instr.findNow .string (.string s) [({ key:=.string s,val:=v,born:=d }:MapEntry)] 0=some (some (0,v)):=by simp[Instr.findNow,Instr.sameNow,hs]
 have hc:(Instr.checkKey false 10000 kt (.string s)).run P w=.ok () w:=MapKept.run_checkKey (k:=.string s) hk (by simp[MapKept.IsKey]) false 9999;simp[Instr.lookup,run_underlying hm,MapKept.run_getObj_map hb,hc,MapKept.run_findKey hk hf,Result.andThen]
theorem upd0 {t kt et:TypeId} {c:Nat} {s:ByteArray} {v:Value} (hm:P.underlying t=some (.map kt et)) (hk:P.underlying kt=some .string) (hb:Ob w r (.map #[] c)):
  (Instr.mapUpdate t (.map (some r)) (.string s) v).run P w=.ok () (putObj w r (.map #[{ key:=.string s,val:=v,born:=c }] (c+1))):=run_mapUpdate_first w t kt et r c s v hm hk hb
end
section
variable {α β:Type} {cs:β→List Value} {Is:World→β→α→Prop} {e k:Nat} {w w':World} {B:Nat} {x:Sv} {xs:List α}
theorem Own.push (hz:Own cs Is e k w B x xs) {b:β} {u:α} {v':Value} (ts:List (β×α)) (hl:xs=ts.map (·.2)) (hts:∀p∈ts,Is w p.1 p.2) (hb:Is w b u) (h:w'.ownsRow B e k v' (x.n+1) ((ts.flatMap fun p=>cs p.1)++cs b)) (hI:∀p a,Is w p a→Is w' p a):
  ∃y:Sv,v'=y.v∧y.n=x.n+1∧Own cs Is e k w' B y (xs++[u]):=by
 obtain⟨A,c,rfl⟩:=a99 h;refine⟨⟨A,x.n+1,c⟩,rfl,rfl,ts++[(b,u)],?_,?_,?_⟩
 ·rw[List.flatMap_append];simpa using h
 ·rw[hl,List.map_append];rfl
 ·intro p hp;rcases List.mem_append.1 hp with hp | hp
  ·exact hI _ _ (hts p hp)
  ·rw[mj hp];exact hI _ _ hb
theorem Own.app1 {P:Program} {t bytes:Nat} (h:ElemS P t e k bytes) {o:Oper} {a:Act} {K:Act→World→Prop} {Q:Exit→Act→World→Prop} (s xo:Operand) (ho:o.op=.call { callee:=.builtin .append,args:=#[s,xo],argTypes:=#[t,t] }) (hs:a.eval s=x.v) (hz:Own cs Is e k w B x xs) (ad:Addr) (c:Nat) (b:β) (u:α)
  (hx:a.eval xo=.slice (some ad) 1 c) (hb:Is w b u) (hlen:(cs b).length=k) (hcell:∀j v,(cs b)[j]?=some v→w.cell? (ad.add j)=some v) (h1:∀v∈cs b,v.oneCell'=true) (h63:x.n+1≤maxLen) (hbytes:(x.n+1)*bytes≤140737488355328) (hB:B≤w.heap.size) (hI:∀w',Fr (fun b=>(x.v).ownBlock=some b) w w'→∀p a,Is w p a→Is w' p a)
  (hK:∀(y:Sv) (w':World),y.n=x.n+1→Own cs Is e k w' B y (xs++[u])→Fr (fun b=>(x.v).ownBlock=some b) w w'→K (a.put o.dst y.v) w'):o.wp P a w K Q:=by
 obtain⟨i,z,hi,hzz,hsz,hby,hzs⟩:=h.hi;have hz':=hz;obtain⟨ts,t1,t2,t3⟩:=hz';obtain⟨v',w',hrun,h2,h3,_,h5⟩:=run_append_own_at (P:=P) w B t o.type e i z k bytes h.ht hi hzz hsz hby hzs h.pos _ x.n _ t1 ad 1 c (cs b) (by rw[hlen,Nat.one_mul]) hcell h1 h63 hbytes hB;have F:=ajd h3;obtain⟨y,rfl,hyn,hy⟩:=hz.push ts t2 t3 hb h2 (hI w' F);unfold Oper.wp execOp;simp only[ho,resolve,invoke,builtin,Sem.run_bind,Sem.run_pure,Result.andThen_ok,List.map_toArray,List.map_cons,List.map_nil,hs,hx,hrun];exact hK y w' hyn hy F
end
section
attribute [local go_sem] Oper.semAt_some
theorem Bk.c1 {w:World} {p t:Nat} {a:Value} (h:Bk w p t #[a]):w.cell? ⟨p,0,none⟩=some a:=h.cell 0
end
theorem Bk.c10 {w:World} {p t:Nat} {a b c d e f g h i j:Value} (hh:Bk w p t #[a,b,c,d,e,f,g,h,i,j]):w.cell? ⟨p,0,none⟩=some a∧w.cell? ⟨p,1,none⟩=some b∧w.cell? ⟨p,2,none⟩=some c∧w.cell? ⟨p,3,none⟩=some d∧w.cell? ⟨p,4,none⟩=some e∧w.cell? ⟨p,5,none⟩=some f∧w.cell? ⟨p,6,none⟩=some g∧w.cell? ⟨p,7,none⟩=some h∧w.cell? ⟨p,8,none⟩=some i∧w.cell? ⟨p,9,none⟩=some j:=⟨hh.cell 0,hh.cell 1,hh.cell 2,hh.cell 3,hh.cell 4,hh.cell 5,hh.cell 6,hh.cell 7,hh.cell 8,hh.cell 9⟩
theorem Bk.c12 {w:World} {p t:Nat} {a b c d e f g h i j k l:Value} (hh:Bk w p t #[a,b,c,d,e,f,g,h,i,j,k,l]):w.cell? ⟨p,0,none⟩=some a∧w.cell? ⟨p,1,none⟩=some b∧w.cell? ⟨p,2,none⟩=some c∧w.cell? ⟨p,3,none⟩=some d∧w.cell? ⟨p,4,none⟩=some e∧w.cell? ⟨p,5,none⟩=some f∧w.cell? ⟨p,6,none⟩=some g∧w.cell? ⟨p,7,none⟩=some h∧w.cell? ⟨p,8,none⟩=some i∧w.cell? ⟨p,9,none⟩=some j∧w.cell? ⟨p,10,none⟩=some k∧w.cell? ⟨p,11,none⟩=some l:=⟨hh.cell 0,hh.cell 1,hh.cell 2,hh.cell 3,hh.cell 4,hh.cell 5,hh.cell 6,hh.cell 7,hh.cell 8,hh.cell 9,hh.cell 10,hh.cell 11⟩
section
attribute [local go_sem] Oper.semAt_some
theorem Bk.put10 {w:World} {p t:Nat} {a b c d e f g h i j:Value} (hh:Bk w p t #[a,b,c,d,e,f,g,h,i,j]) (x0 x1 x2 x3 x4 x5 x6 x7 x8 x9:Value):Bk ((((((((((w.setCell ⟨p,0,none⟩ x0).setCell ⟨p,1,none⟩ x1).setCell ⟨p,2,none⟩ x2).setCell ⟨p,3,none⟩ x3).setCell ⟨p,4,none⟩ x4).setCell ⟨p,5,none⟩ x5).setCell ⟨p,6,none⟩ x6).setCell ⟨p,7,none⟩ x7).setCell ⟨p,8,none⟩ x8).setCell ⟨p,9,none⟩ x9) p t #[x0,x1,x2,x3,x4,x5,x6,x7,x8,x9]∧Fr (fun b=>b=p) w ((((((((((w.setCell ⟨p,0,none⟩ x0).setCell ⟨p,1,none⟩ x1).setCell ⟨p,2,none⟩ x2).setCell ⟨p,3,none⟩ x3).setCell ⟨p,4,none⟩ x4).setCell ⟨p,5,none⟩ x5).setCell ⟨p,6,none⟩ x6).setCell ⟨p,7,none⟩ x7).setCell ⟨p,8,none⟩ x8).setCell ⟨p,9,none⟩ x9):=by
 refine⟨?_,((((((((((Fr.set w ⟨p,0,none⟩ x0 rfl:Fr (fun b=>b=p) w _)).trans (Fr.set _ ⟨p,1,none⟩ x1 rfl)).trans (Fr.set _ ⟨p,2,none⟩ x2 rfl)).trans (Fr.set _ ⟨p,3,none⟩ x3 rfl)).trans (Fr.set _ ⟨p,4,none⟩ x4 rfl)).trans (Fr.set _ ⟨p,5,none⟩ x5 rfl)).trans (Fr.set _ ⟨p,6,none⟩ x6 rfl)).trans (Fr.set _ ⟨p,7,none⟩ x7 rfl)).trans (Fr.set _ ⟨p,8,none⟩ x8 rfl)).trans (Fr.set _ ⟨p,9,none⟩ x9 rfl)⟩;have:=((((((((((Bk.put hh 0 x0).put 1 x1).put 2 x2).put 3 x3).put 4 x4).put 5 x5).put 6 x6).put 7 x7).put 8 x8).put 9 x9);simpa using this
def NoX:Nat→Prop:=fun _=>False
theorem PCalls.raw {P:Program} {T:List Nat} {f:FuncId} {args:List PV} {res:PV} (h:PCalls P T f args res) {w:World} {us:List Value} (hr:PV.RepL w NoX args us):Calls P f us.toArray w fun e w'=>∃v,e=.returned v∧res.Rep w' NoX v∧Gr w w':=
 h.2 w NoX us (fun _ h=>h.elim) (fun _ _ _ _ h=>h.elim) hr
theorem PCallsG.raw {P:Program} {T:List Nat} {f:FuncId} {args:List PV} {res:PV} (h:PCallsG P T f args res) {w:World} {us:List Value} (hw:LaidG w) (hr:PV.RepL w NoX args us):Calls P f us.toArray w fun e w'=>∃v,e=.returned v∧res.Rep w' NoX v∧Gr w w':=
 h.2 w NoX us hw (fun _ h=>h.elim) (fun _ _ _ _ h=>h.elim) hr
theorem lx {w:World} {X:Nat→Prop} {cs:List PV} {us:List Value} (h:PV.RepL w X cs us):(PV.agg cs).Rep w X (.agg us.toArray):=by rw[PV.Rep];exact⟨us,rfl,h⟩
theorem PV.RepL.gr {w w':World} {X:Nat→Prop} {cs:List PV} {us:List Value} (h:PV.RepL w X cs us) (G:Gr w w'):PV.RepL w' X cs us:=h.still (Still.gr G X _)
theorem PV.Rep.gr {w w':World} {X:Nat→Prop} {c:PV} {u:Value} (h:c.Rep w X u) (G:Gr w w'):c.Rep w' X u:=h.still (Still.gr G X _)
theorem a5m {w w':World} {Y:Nat→Prop} {ts:List Nat} (F:Fr Y w w') (hY:∀b cs t fr,Y b→w.heap[b]?=some (.cells cs t fr)→t ∉ ts):Still w w' NoX NoX ts:=
 ⟨F.size,fun b cs t fr _ hh ht=>⟨F.keep b (by
  rcases Nat.lt_or_ge b w.heap.size with h | h
  ·exact h
  ·rw[Array.getElem?_eq_none h] at hh;cases hh) (fun hy=>hY b cs t fr hy hh ht),fun h=>h⟩⟩
structure Qs where
 (i:Int) (a b c d e f:Sv) (s:Bool) (h k:Sv)
def Qi (w:World) (x:Qr) (q:Qs):Prop:=PV.RepL w NoX (qyC x) [.int .i64 q.i,.slice q.a.A q.a.n q.a.c,.slice q.b.A q.b.n q.b.c,.slice q.c.A q.c.n q.c.c,.slice q.d.A q.d.n q.d.c,.slice q.e.A q.e.n q.e.c,.slice q.f.A q.f.n q.f.c,.bool q.s,.slice q.h.A q.h.n q.h.c,.slice q.k.A q.k.n q.k.c]
theorem Qi.gr {w w':World} {x:Qr} {q:Qs} (h:Qi w x q) (G:Gr w w'):Qi w' x q:=PV.RepL.gr h G
theorem gn {w:World} {X:Nat→Prop} {u v:Value} (h:(PV.raw u).Rep w X v):v=u:=by rw[PV.Rep] at h;exact h
theorem PV.RepL.inv' {w:World} {X:Nat→Prop} {c:PV} {cs:List PV} {us:List Value} (h:PV.RepL w X (c::cs) us):∃u us',us=u::us'∧c.Rep w X u∧PV.RepL w X cs us':=by rwa [PV.RepL] at h
theorem PV.RepL.inv0 {w:World} {X:Nat→Prop} {us:List Value} (h:PV.RepL w X [] us):us=[]:=by rwa [PV.RepL] at h
theorem f4 {w:World} {X:Nat→Prop} {e k:Nat} {ts:List Nat} {xs:List (List PV)} {v:Value} (h:(PV.rows e k ts xs).Rep w X v):∃x:Sv,v=x.v∧x.n=xs.length:=by
 rw[PV.Rep] at h;obtain⟨x,us,rfl,hn,_⟩:=h;exact⟨x,rfl,hn⟩
theorem tw {w:World} {X:Nat→Prop} {n:Nat} {v:Value} (h:(PV.nat n).Rep w X v):∃x:Sv,v=x.v:=by
 rw[PV.Rep] at h;obtain⟨x,rfl,_⟩:=h;exact⟨x,rfl⟩
theorem ao2 {w:World} {x:Qr} {v:Value} (h:(qyP x).Rep w NoX v):∃q:Qs,v=.agg #[.int .i64 q.i,.slice q.a.A q.a.n q.a.c,.slice q.b.A q.b.n q.b.c,.slice q.c.A q.c.n q.c.c,.slice q.d.A q.d.n q.d.c,.slice q.e.A q.e.n q.e.c,.slice q.f.A q.f.n q.f.c,.bool q.s,.slice q.h.A q.h.n q.h.c,.slice q.k.A q.k.n q.k.c]∧Qi w x q:=by
 rw[PV.Rep] at h;obtain⟨us,rfl,h⟩:=h;have h0:=h;unfold qyC at h;obtain⟨u0,us,rfl,g0,h⟩:=PV.RepL.inv' h;obtain⟨u1,us,rfl,g1,h⟩:=PV.RepL.inv' h;obtain⟨u2,us,rfl,g2,h⟩:=PV.RepL.inv' h;obtain⟨u3,us,rfl,g3,h⟩:=PV.RepL.inv' h;obtain⟨u4,us,rfl,g4,h⟩:=PV.RepL.inv' h;obtain⟨u5,us,rfl,g5,h⟩:=PV.RepL.inv' h;obtain⟨u6,us,rfl,g6,h⟩:=PV.RepL.inv' h;obtain⟨u7,us,rfl,g7,h⟩:=PV.RepL.inv' h;obtain⟨u8,us,rfl,g8,h⟩:=PV.RepL.inv' h;obtain⟨u9,us,rfl,g9,h⟩:=PV.RepL.inv' h;obtain rfl:=PV.RepL.inv0 h;obtain rfl:=gn g0;obtain⟨a,rfl,-⟩:=f4 g1;obtain⟨b,rfl,-⟩:=f4 g2;obtain⟨c,rfl,-⟩:=f4 g3;obtain⟨d,rfl,-⟩:=f4 g4;obtain⟨e,rfl,-⟩:=f4 g5;obtain⟨f,rfl,-⟩:=f4 g6;obtain rfl:=gn g7;obtain⟨hh,rfl⟩:=tw g8;obtain⟨k,rfl⟩:=tw g9;exact⟨⟨_,a,b,c,d,e,f,_,hh,k⟩,rfl,h0⟩
structure Eb where
 (pA:Option Addr) (pc:Nat) (mA:Option Addr) (mc:Nat) (a b:Sv) (kA:Option Addr) (kc:Nat) (f:Sv)
def en0 (l:List Mm):En:=⟨[],[],false,l⟩
def ebCs (d:Eb):List Value:=[.slice d.pA 0 d.pc,.slice d.mA 0 d.mc,.int .i64 0,.int .i64 0,.bool false,.slice d.a.A d.a.n d.a.c,.slice d.b.A d.b.n d.b.c,.slice d.kA 0 d.kc,.bool false,.slice d.f.A d.f.n d.f.c]
def EbI (w:World) (d:Eb) (l:List Mm):Prop:=PV.RepL w NoX (enC (en0 l)) (ebCs d)
theorem a77 (d:Eb):(ebCs d).length=10:=rfl
theorem aff (d:Eb):∀u∈ebCs d,u.oneCell'=true:=fun u hu=>by
 simp only[ebCs,List.mem_cons,List.not_mem_nil,or_false] at hu;rcases hu with rfl | rfl | rfl | rfl | rfl | rfl | rfl | rfl | rfl | rfl<;>rfl
theorem EbI.gr {w w':World} {d:Eb} {l:List Mm} (h:EbI w d l) (G:Gr w w'):EbI w' d l:=PV.RepL.gr h G
theorem EbI.fr {w w':World} {d:Eb} {l:List Mm} {Y:Nat→Prop} (h:EbI w d l) (F:Fr Y w w') (hY:∀b cs t fr,Y b→w.heap[b]?=some (.cells cs t fr)→t ∉ PV.tyL (enC (en0 l))):EbI w' d l:=PV.RepL.still h (a5m F hY)
abbrev Ebs (w:World) (x:Sv) (l:List (List Mm)):Prop:=Rows ebCs EbI 77 10 w x l
abbrev OwnB (w:World) (B:Nat) (x:Sv) (l:List (List Mm)):Prop:=Own ebCs EbI 77 10 w B x l
theorem Ebs.gr {w w':World} {x:Sv} {l:List (List Mm)} (h:Ebs w x l) (G:Gr w w'):Ebs w' x l:=Rows.gr (fun h G=>h.gr G) h G
theorem Ebs.len {w:World} {x:Sv} {l:List (List Mm)} (h:Ebs w x l):l.length=x.n:=Rows.len a77 dx h
theorem aoq {w:World} {l:List Mm} {us:List Value} (h:PV.RepL w NoX (enC (en0 l)) us):∃d:Eb,us=ebCs d:=by
 unfold enC at h;obtain⟨u0,us,rfl,g0,h⟩:=PV.RepL.inv' h;obtain⟨u1,us,rfl,g1,h⟩:=PV.RepL.inv' h;obtain⟨u2,us,rfl,g2,h⟩:=PV.RepL.inv' h;obtain⟨u3,us,rfl,g3,h⟩:=PV.RepL.inv' h;obtain⟨u4,us,rfl,g4,h⟩:=PV.RepL.inv' h;obtain⟨u5,us,rfl,g5,h⟩:=PV.RepL.inv' h;obtain⟨u6,us,rfl,g6,h⟩:=PV.RepL.inv' h;obtain⟨u7,us,rfl,g7,h⟩:=PV.RepL.inv' h;obtain⟨u8,us,rfl,g8,h⟩:=PV.RepL.inv' h;obtain⟨u9,us,rfl,g9,h⟩:=PV.RepL.inv' h;obtain rfl:=PV.RepL.inv0 h;obtain⟨⟨pA,pn,pc⟩,rfl,(h0:pn=0)⟩:=f4 g0;obtain⟨⟨mA,mn,mc⟩,rfl,(h1:mn=0)⟩:=f4 g1;obtain rfl:=gn g2;obtain rfl:=gn g3;obtain rfl:=gn g4;obtain⟨a,rfl⟩:=tw g5;obtain⟨b,rfl⟩:=tw g6;obtain⟨⟨kA,kn,kc⟩,rfl,(h2:kn=0)⟩:=f4 g7;obtain rfl:=gn g8;obtain⟨f,rfl,-⟩:=f4 g9;subst h0 h1 h2;exact⟨⟨pA,pc,mA,mc,a,b,kA,kc,f⟩,rfl⟩
theorem an7 {w:World} {l:List Mm} {v:Value} (h:(ensP [en0 l]).Rep w NoX v):∃z:Sv,v=z.v∧Ebs w z [l]:=by
 rw[PV.Rep] at h;obtain⟨x,us,rfl,hn,h1,h2,_,h3,_⟩:=h;rw[List.map_cons,List.map_nil,PV.RepLL] at h3;obtain⟨u,us',rfl,g1,g2⟩:=h3;rw[PV.RepLL] at g2;subst g2;obtain⟨d,rfl⟩:=aoq g1;refine⟨x,rfl,[(d,l)],?_,rfl,?_,h2⟩
 ·simpa using h1
 ·intro p hp;rw[mj hp];exact g1
theorem Ebs.head {w:World} {x:Sv} {s:List Mm} {l:List (List Mm)} (h:Ebs w x (s::l)):∃(d:Eb) (ad:Addr),EbI w d s∧x.A=some ad∧w.cell? ad=some (.slice d.pA 0 d.pc)∧w.cell? ⟨ad.block,ad.off+1,none⟩=some (.slice d.mA 0 d.mc)∧w.cell? ⟨ad.block,ad.off+2,none⟩=some (.int .i64 0)∧w.cell? ⟨ad.block,ad.off+3,none⟩=some (.int .i64 0)∧w.cell? ⟨ad.block,ad.off+4,none⟩=some (.bool false)∧w.cell? ⟨ad.block,ad.off+5,none⟩=some (.slice d.a.A d.a.n d.a.c)∧w.cell? ⟨ad.block,ad.off+6,none⟩=some (.slice d.b.A d.b.n d.b.c)∧w.cell? ⟨ad.block,ad.off+7,none⟩=some (.slice d.kA 0 d.kc)∧w.cell? ⟨ad.block,ad.off+8,none⟩=some (.bool false)∧w.cell? ⟨ad.block,ad.off+9,none⟩=some (.slice d.f.A d.f.n d.f.c):=by
 obtain⟨y,hy,hc⟩:=Rows.at a77 h (i:=0) rfl;obtain⟨ad,hA,_,c0⟩:=hc 0 _ rfl;obtain⟨ad1,h1,_,c1⟩:=hc 1 _ rfl;obtain⟨ad2,h2,_,c2⟩:=hc 2 _ rfl;obtain⟨ad3,h3,_,c3⟩:=hc 3 _ rfl;obtain⟨ad4,h4,_,c4⟩:=hc 4 _ rfl;obtain⟨ad5,h5,_,c5⟩:=hc 5 _ rfl;obtain⟨ad6,h6,_,c6⟩:=hc 6 _ rfl;obtain⟨ad7,h7,_,c7⟩:=hc 7 _ rfl;obtain⟨ad8,h8,_,c8⟩:=hc 8 _ rfl;obtain⟨ad9,h9,_,c9⟩:=hc 9 _ rfl;rw[hA] at h1 h2 h3 h4 h5 h6 h7 h8 h9;cases h1;cases h2;cases h3;cases h4;cases h5;cases h6;cases h7;cases h8;cases h9
 rw[ano _ _ dx,Nat.zero_mul,add_zero] at c1 c2 c3 c4 c5 c6 c7 c8 c9;rw[Nat.zero_mul,add_zero] at c0;exact⟨y,ad,hy,hA,c0,c1,c2,c3,c4,c5,c6,c7,c8,c9⟩
theorem an4:ElemS Tryz.prog 51 77 10 176:=a1y (z:=.agg #[.slice none 0 0,.slice none 0 0,.int .i64 0,.int .i64 0,.bool false,.slice none 0 0,.slice none 0 0,.slice none 0 0,.bool false,.slice none 0 0]) (by kernel_rfl) (by kernel_rfl) rfl dx
theorem Bk.c7 {w:World} {p t:Nat} {x0 x1 x2 x3 x4 x5 x6:Value} (h:Bk w p t #[x0,x1,x2,x3,x4,x5,x6]):w.cell? ⟨p,0,none⟩=some x0∧w.cell? ⟨p,1,none⟩=some x1∧w.cell? ⟨p,2,none⟩=some x2∧w.cell? ⟨p,3,none⟩=some x3∧w.cell? ⟨p,4,none⟩=some x4∧w.cell? ⟨p,5,none⟩=some x5∧w.cell? ⟨p,6,none⟩=some x6:=⟨h.cell 0,h.cell 1,h.cell 2,h.cell 3,h.cell 4,h.cell 5,h.cell 6⟩
def MultR (w:World) (y:Sv) (l:List Mm):Prop:=(mmsP l).Rep w NoX y.v
theorem MultR.gr {w w':World} {y:Sv} {l:List Mm} (h:MultR w y l) (G:Gr w w'):MultR w' y l:=PV.Rep.gr h G
theorem MultR.st {w w':World} {p t:Nat} {us:Array Value} {y:Sv} {l:List Mm} (h:MultR w y l) (F:Fr (fun b=>b=p) w w') (hb:Bk w p t us) (h0:t≠98:=by decide) (h1:t≠200:=by decide):MultR w' y l:=
 PV.Rep.still h (a5m F fun b cs t' fr e hh ht=>by
  subst e;have ht':t'∈[98,200]:=ht;simp only[List.mem_cons,List.not_mem_nil,or_false] at ht';rcases ht' with rfl | rfl
  ·exact Bk.not_ty hb h0 cs fr hh
  ·exact Bk.not_ty hb h1 cs fr hh)
def MultA (l:List Mm) (v:Value) (w:World):Prop:=∃y:Sv,v=y.v∧MultR w y l
theorem MultA.gr {l:List Mm} {v:Value} {w w':World} (h:MultA l v w) (G:Gr w w'):MultA l v w':=by
 obtain⟨y,e,hy⟩:=h;exact⟨y,e,hy.gr G⟩
theorem MultA.is {l:List Mm} {y:Sv} {w:World} (h:MultA l y.v w):MultR w y l:=by
 obtain⟨z,e,hz⟩:=h;unfold MultR;rw[e];exact hz
structure Lf (x:Qr) (l:List Mm):Prop where
 va:∃a b,((en0 l).sc x).Va a b
 ok:EnOk (en0 l)
 goal:x.goal.S 100 8
 ap:bz x (en0 l)=true
 n8:x.g.inputs+x.g.units.length≤8
 len:l.length≤1000000
 num:∀m∈l,m.1.lo≤1000000∧m.1.hi≤1000000
theorem acx (w:World) (q:Qs) (x:Qr) (l:List Mm) (d:Eb) (hq:Qi w x q) (hx:Lf x l) (hd:EbI w d l):
  Calls Tryz.prog 288 #[.agg #[.int .i64 q.i,q.a.v,q.b.v,q.c.v,q.d.v,q.e.v,q.f.v,.bool q.s,q.h.v,q.k.v,.slice d.pA 0 d.pc,.slice d.mA 0 d.mc],.agg #[.slice d.mA 0 d.mc,.int .i64 0,.int .i64 0,.bool false,d.a.v,d.b.v,.slice d.kA 0 d.kc,.bool false,d.f.v]] w fun e w'=>e=.returned (.bool true)∧Gr w w':=by
 obtain⟨a,b,hv⟩:=hx.va;have h1:PV.RepL w NoX (scC ((en0 l).sc x)) [.int .i64 q.i,q.a.v,q.b.v,q.c.v,q.d.v,q.e.v,q.f.v,.bool q.s,q.h.v,q.k.v,.slice d.pA 0 d.pc,.slice d.mA 0 d.mc]:=PV.RepL.append hq (PV.RepL.take 2 hd);have h2:PV.RepL w NoX (lfC (en0 l)) [.slice d.mA 0 d.mc,.int .i64 0,.int .i64 0,.bool false,d.a.v,d.b.v,.slice d.kA 0 d.kc,.bool false,d.f.v]:=PV.RepL.drop 1 hd;refine cm2 ((aad hv hx.ok hx.goal).raw (PV.RepL.cons (lx h1) (PV.RepL.cons (lx h2) PV.RepL.nil))) fun v w' hr G=>?_
 rw[hx.ap] at hr;exact⟨congrArg _ (gn hr),G⟩
theorem adb (w:World) (d:Eb) (x:Qr) (l:List Mm) (hx:Lf x l) (hd:EbI w d l):
  Calls Tryz.prog 289 #[d.f.v,.int .i64 0] w fun e w'=>∃y:Sv,e=.returned y.v∧MultR w' y l∧Gr w w':=by
 have h1:PV.RepL w NoX [mmsP l] [d.f.v]:=PV.RepL.drop 9 hd;refine cm2 ((aag (b:=0) hx.len dx hx.num).raw (PV.RepL.append h1 (PV.RepL.cons (c:=iP ((0:Nat):Int)) (u:=.int .i64 0) (by unfold iP;rw[PV.Rep];rfl) PV.RepL.nil))) fun v w' hr G=>?_
 obtain⟨y,rfl,-⟩:=f4 hr;refine⟨y,rfl,?_,G⟩;rwa [show l.map (shM 0)=l from by rw[show shM 0=id from funext shM0,List.map_id]] at hr
theorem acl (w:World) (a:Addr) (x:Int) (h:w.cell? a=some (.int .i64 x)):(callFunc 211 #[.pointer (some a)]).run Tryz.prog w=.ok (.value (.int .i64 x)) w:=
 run_call_load (fn:=Tryz.f211) (by kernel_rfl) (by kernel_rfl) (by kernel_rfl) (by kernel_rfl) .i64 (by kernel_rfl) h
theorem nw (w:World) (b o:Nat) (x:Int) (h:w.cell? ⟨b,o,none⟩=some (.int .i64 x)):
  Calls Tryz.prog 160 #[.pointer (some ⟨b,o,none⟩)] w fun e w'=>e=.returned (.int .i64 x)∧Gr w w':=by
 have hr:=acl w _ x h;go_enter Tryz.func160,Tryz.ntmps160;go_wp2;go_ret;exact⟨rfl,Gr.refl w⟩
theorem get0 (w:World):
  Calls Tryz.prog 152 #[.int .i64 0] w fun e w'=>e=.returned (.tuple #[.iface 281 (.agg #[]),.bool true])∧Gr w w':=by
 go_enter Tryz.func152,Tryz.ntmps152;go_wp2;refine bret Tryz.results152 ?_;exact⟨rfl,Gr.refl w⟩
theorem ak8 (w:World) (pA:Option Addr) (pc:Nat):
  Calls Tryz.prog 235 #[.slice pA 0 pc] w fun e w'=>e=.returned (.bool false)∧Gr w w':=by
 have hmm:=@run_makeMap Tryz.prog;go_enter Tryz.func235,Tryz.ntmps235;go_wp2_with fail;go_rounds 1
 go_ret;exact⟨rfl,(Gr.refl w).alloc _⟩
theorem amh (w:World):(Instr.makeSlice 71 (.int .i64 1024) (.int .i64 1024)).run Tryz.prog w=.ok (.slice (some ⟨w.heap.size,0,none⟩) 1024 1024) (w.alloc (.cells (madeCells #[Value.int .i64 0] 1024) 3)):=by
 obtain⟨i0,hi,hz0,hz1,hz2⟩:=info_parts (show (Tryz.prog.info? 3).map (fun i=>(i.zero,i.size,i.bytes))=some (some (.int .i64 0),1,8) from by kernel_rfl);have:=run_make (P:=Tryz.prog) w 71 3 i0 _ (by kernel_rfl) hi hz0 .i64 .i64 1024 1024 om (Int.le_refl _) (by rw[hz2];omega) om;rw[hz1,show Int.toNat 1024=1024 from rfl,Nat.mul_one] at this;exact this
theorem ao6 (w:World) (pA:Option Addr) (pc:Nat):
  Calls Tryz.prog 197 #[.slice pA 0 pc,.int .i64 1024] w fun e w'=>∃y:Sv,e=.returned (.tuple #[y.v,.int .i64 0])∧Gr w w':=by
 go_enter Tryz.func197,Tryz.ntmps197;go_wp2_with fail;refine wp_loop_rounds 1 ?_;rw[rounds_succ];go_wp2_with fail;refine cm0 (ak8 w pA pc) fun w1 G1=>?_
 have mi:=amh w1;have HG:=I G1

 go_wp2_with fail;refine wp_loop_rounds 1 ?_;rw[rounds_succ];go_wp2;refine bret Tryz.results197 ?_;exact⟨⟨some ⟨w1.heap.size,0,none⟩,1024,1024⟩,rfl,HG.alloc _⟩
theorem key0 (w:World) (pA:Option Addr) (pc:Nat):
  Calls Tryz.prog 153 #[.slice pA 0 pc] w fun e w'=>e=.returned (.tuple #[.string ⟨#[]⟩,.bool true])∧Gr w w':=by
 go_enter Tryz.func153,Tryz.ntmps153;go_wp2_with fail;refine (ao6 w pA pc).mono ?_;rintro e w1 ⟨y,rfl,G1⟩;have HG:=I G1;clear G1;go_wp2_with fail;refine wp_loop_rounds 1 ?_;rw[rounds_succ];go_wp2_with fail;have hb:Lib.IsBuilder 289 5 w.heap.size w1.heap.size [] (w1.alloc (.cells #[.pointer none,Nl] 289)):=.inl ⟨HG.size,Nl,Bk.made _ _ _,World.ownsRow_nil _ _ _ _,by simp[Value.ownBlock]⟩;refine (Tryz.Builder_String_empty w.heap.size w1.heap.size _ hb (by simp[World.size_alloc];have:=HG.size;omega)).mono ?_;rintro e w2 ⟨rfl,hB⟩;have HG2:=I (Gr.of ((HG.alloc _).below.trans hB):Gr w w2);clear hB hb;go_wp2;refine bret Tryz.results153 ?_;exact⟨rfl,HG2.out⟩
theorem Bk.c13 {w:World} {p t:Nat} {x0 x1 x2 x3 x4 x5 x6 x7 x8 x9 x10 x11 x12:Value} (h:Bk w p t #[x0,x1,x2,x3,x4,x5,x6,x7,x8,x9,x10,x11,x12]):w.cell? ⟨p,0,none⟩=some x0∧w.cell? ⟨p,1,none⟩=some x1∧w.cell? ⟨p,2,none⟩=some x2∧w.cell? ⟨p,3,none⟩=some x3∧w.cell? ⟨p,4,none⟩=some x4∧w.cell? ⟨p,5,none⟩=some x5∧w.cell? ⟨p,6,none⟩=some x6∧w.cell? ⟨p,7,none⟩=some x7∧w.cell? ⟨p,8,none⟩=some x8∧w.cell? ⟨p,9,none⟩=some x9∧w.cell? ⟨p,10,none⟩=some x10∧w.cell? ⟨p,11,none⟩=some x11∧w.cell? ⟨p,12,none⟩=some x12:=⟨h.cell 0,h.cell 1,h.cell 2,h.cell 3,h.cell 4,h.cell 5,h.cell 6,h.cell 7,h.cell 8,h.cell 9,h.cell 10,h.cell 11,h.cell 12⟩
theorem anm (w:World) (q:Qs) (x:Qr) (l:List Mm) (hq:Qi w x q) (hx:Lf x l):
  Calls Tryz.prog 98 #[.agg #[.int .i64 q.i,q.a.v,q.b.v,q.c.v,q.d.v,q.e.v,q.f.v,.bool q.s,q.h.v,q.k.v],.agg #[.int .i64 0,.int .i64 0,.bool false,.bool false,.int .i64 0,.int .i64 10,.int .i64 0]] w fun e w'=>∃r v:Nat,e=.returned (.tuple #[.pointer (some ⟨r,0,none⟩),.int .i64 0])∧w.heap.size≤r∧w.heap.size≤v∧r≠v∧Bk w' r 190 #[.int .i64 q.i,.slice q.a.A q.a.n q.a.c,.slice q.b.A q.b.n q.b.c,.slice q.c.A q.c.n q.c.c,.slice q.d.A q.d.n q.d.c,.slice q.e.A q.e.n q.e.c,.slice q.f.A q.f.n q.f.c,.bool q.s,.slice q.h.A q.h.n q.h.c,.slice q.k.A q.k.n q.k.c,.int .i64 0,.int .i64 0,.bool false,.bool false,.int .i64 0,.int .i64 10,.int .i64 0,.iface 281 (.agg #[]),.pointer (some ⟨v,0,none⟩),.slice none 0 0,.pointer none,.int .i64 0,.int .i64 0,.int .i64 0,.pointer none]∧Bk w' v 241 #[.slice none 0 0,.int .i64 0,.int .i64 0,.bool false,.slice none 0 0,.slice none 0 0,.slice none 0 0,.bool false,.slice none 0 0,.slice none 0 0]∧Gr w w':=by
 have HQ:=I hq;have HX:=I hx;clear hq hx;go_enter Tryz.func98,Tryz.ntmps98;go_wp2_with fail;refine aof fun W HG D_p0 D_o0=>?_
 have q0_:=D_p0.c10;obtain⟨o0,o1,o2,o3,o4,o5,o6⟩:=D_o0.c7;generalize w.heap.size+1=o0 at*;refine cm0 (get0 W) fun w1 G1=>?_
 obtain⟨HG,D_p0,D_o0⟩:=G1.u3 HG D_p0 D_o0;clear q0_ o0 o1 o2 o3 o4 o5 o6;have q0_:=D_p0.c10;obtain⟨o0,o1,o2,o3,o4,o5,o6⟩:=D_o0.c7;go_wp2_with fail;obtain⟨av,bv,hva⟩:=HX.va;refine cm2 ((m7 (q:=x) hva.q (by have:=HX.n8;omega)).raw (PV.RepL.cons (lx (HQ.gr HG)) PV.RepL.nil)) fun vv w2 hvv G1=>?_
 obtain rfl:=gn hvv;obtain⟨HG,D_p0,D_o0⟩:=G1.u3 HG D_p0 D_o0;clear q0_ o0 o1 o2 o3 o4 o5 o6;have q0_:=D_p0.c10;obtain⟨o0,o1,o2,o3,o4,o5,o6⟩:=D_o0.c7;go_wp2;refine bret Tryz.results98 ?_;obtain⟨B1,B2,GB⟩:=a1c w2 241 190 #[Nl,.int .i64 0,.int .i64 0,.bool false,Nl,Nl,Nl,.bool false,Nl,Nl] #[.int .i64 q.i,q.a.v,q.b.v,q.c.v,q.d.v,q.e.v,q.f.v,.bool q.s,q.h.v,q.k.v,.int .i64 0,.int .i64 0,.bool false,.bool false,.int .i64 0,.int .i64 10,.int .i64 0,.iface 281 (.agg #[]),.pointer (some ⟨w2.heap.size,0,none⟩),Nl,.pointer none,.int .i64 0,.int .i64 0,.int .i64 0,.pointer none];exact⟨w2.heap.size+1,w2.heap.size,rfl,Nat.le_succ_of_le HG.size,HG.size,Nat.succ_ne_self _,B2,B1,HG.trans GB⟩
theorem abc (W:World) (t:TypeId) (cs:Array Value):Ob ((((W.alloc (.map #[] 0)).alloc (.map #[] 0)).alloc (.map #[] 0)).alloc (.cells cs t)) W.heap.size (.map #[] 0)∧Ob ((((W.alloc (.map #[] 0)).alloc (.map #[] 0)).alloc (.map #[] 0)).alloc (.cells cs t)) (W.heap.size+1) (.map #[] 0)∧Ob ((((W.alloc (.map #[] 0)).alloc (.map #[] 0)).alloc (.map #[] 0)).alloc (.cells cs t)) (W.heap.size+1+1) (.map #[] 0)∧Bk ((((W.alloc (.map #[] 0)).alloc (.map #[] 0)).alloc (.map #[] 0)).alloc (.cells cs t)) (W.heap.size+1+1+1) t cs∧Gr W ((((W.alloc (.map #[] 0)).alloc (.map #[] 0)).alloc (.map #[] 0)).alloc (.cells cs t)):=by
 have s1:(W.alloc (.map #[] 0)).heap.size=W.heap.size+1:=World.size_alloc ..;have s2:((W.alloc (.map #[] 0)).alloc (.map #[] 0)).heap.size=W.heap.size+1+1:=by rw[World.size_alloc,s1]
 have s3:(((W.alloc (.map #[] 0)).alloc (.map #[] 0)).alloc (.map #[] 0)).heap.size=W.heap.size+1+1+1:=by rw[World.size_alloc,s2]
 have a1:=Ob.made W (.map #[] 0);have a2:=Ob.made (W.alloc (.map #[] 0)) (.map #[] 0);have a3:=Ob.made ((W.alloc (.map #[] 0)).alloc (.map #[] 0)) (.map #[] 0);have a4:=Bk.made (((W.alloc (.map #[] 0)).alloc (.map #[] 0)).alloc (.map #[] 0)) t cs;rw[s1] at a2;rw[s2] at a3;rw[s3] at a4;have g:=fun (w:World) (o:Obj)=>(Gr.refl w).alloc o
 exact⟨((a1.gr (g _ _)).gr (g _ _)).gr (g _ _),(a2.gr (g _ _)).gr (g _ _),a3.gr (g _ _),a4,(((Gr.refl W).alloc _).alloc _).alloc _ |>.alloc _⟩
theorem ams (w:World) (q:Qs) (l:List Mm) (z:Sv) (hz:Ebs w z [l]):
  Calls Tryz.prog 99 #[.agg #[.int .i64 q.i,q.a.v,q.b.v,q.c.v,q.d.v,q.e.v,q.f.v,.bool q.s,q.h.v,q.k.v],z.v] w fun e w'=>∃(k m1 m2 m3:Nat) (y:Sv),e=.returned (.pointer (some ⟨k,0,none⟩))∧w.heap.size≤k∧w.heap.size≤m3∧m3≠k∧Bk w' k 246 #[.int .i64 q.i,.slice q.a.A q.a.n q.a.c,.slice q.b.A q.b.n q.b.c,.slice q.c.A q.c.n q.c.c,.slice q.d.A q.d.n q.d.c,.slice q.e.A q.e.n q.e.c,.slice q.f.A q.f.n q.f.c,.bool q.s,.slice q.h.A q.h.n q.h.c,.slice q.k.A q.k.n q.k.c,.map (some m1),.map (some m2),.map (some m3)]∧Ob w' m1 (.map #[{ key:=.string ⟨#[]⟩,val:=.slice y.A y.n y.c,born:=0 }] 1)∧Ebs w' y [l]∧Ob w' m2 (.map #[] 0)∧Ob w' m3 (.map #[] 0)∧Gr w w':=by
 have hmm:=@run_makeMap Tryz.prog;go_enter Tryz.func99,Tryz.ntmps99;go_upto_region 1 with fail;refine nw1h fun W HG D_p0=>?_
 have HZ:=I (hz.gr HG);clear hz;have q0_:=D_p0.c10;go_wp2_with fail;obtain⟨O1,O2,O3,B4,GB⟩:=abc W 246 #[.int .i64 q.i,q.a.v,q.b.v,q.c.v,q.d.v,q.e.v,q.f.v,.bool q.s,q.h.v,q.k.v,.map (some W.heap.size),.map (some (W.heap.size+1)),.map (some (W.heap.size+1+1))];have A1:=I O1;have A2:=I O2;have A3:=I O3;have AK:=I B4;have HGA:=I (HG.trans GB);have HZA:=I (HZ.gr GB);have hk1:w.heap.size≤W.heap.size+1+1+1:=by have:=HG.size;omega
 have hm3:w.heap.size≤W.heap.size+1+1:=by have:=HG.size;omega
 have hm1:w.heap.size≤W.heap.size:=HG.size;have hk3:W.heap.size+1+1≠W.heap.size+1+1+1:=by omega
 have hk2:W.heap.size+1≠W.heap.size:=by omega
 have hk4:W.heap.size+1+1≠W.heap.size:=by omega
 have hk5:W.heap.size+1+1+1≠W.heap.size:=by omega
 have HK1:=I hk1;have HM3:=I hm3;have HM1:=I hm1;have HK3:=I hk3;have HK2:=I hk2;have HK4:=I hk4;have HK5:=I hk5;clear hk1 hm3 hm1 hk3 hk2 hk4 hk5 O1 O2 O3 B4 GB D_p0 HG HZ q0_ hmm;generalize ((((W.alloc (.map #[] 0)).alloc (.map #[] 0)).alloc (.map #[] 0)).alloc (.cells #[.int .i64 q.i,q.a.v,q.b.v,q.c.v,q.d.v,q.e.v,q.f.v,.bool q.s,q.h.v,q.k.v,.map (some W.heap.size),.map (some (W.heap.size+1)),.map (some (W.heap.size+1+1))] 246))=w3 at*;generalize W.heap.size+1+1+1=kb at*;generalize W.heap.size+1+1=m3 at*;generalize W.heap.size+1=m2 at*;generalize W.heap.size=m1 at*;have hn1:1=z.n:=HZA.len;obtain⟨d,ad,hy0,hA,c0,c1,c2,c3,c4,c5,c6,c7,c8,c9⟩:=HZA.head;obtain⟨zA,zn,zc⟩:=z;simp only at hn1 hA;subst hn1 hA;have az:=add_zero ad;obtain⟨B1,GB⟩:=abd w3 77 #[.slice d.pA 0 d.pc,.slice d.mA 0 d.mc,.int .i64 0,.int .i64 0,.bool false,d.a.v,d.b.v,.slice d.kA 0 d.kc,.bool false,d.f.v];have DX:=I B1;have HYA:=I (hy0.gr GB);have GG:=I GB;have e0:=B1.cell 0;have xk:=I (show ¬w3.heap.size=m1 from fun e=>ni _ (e▸A1.lt));clear B1 GB hy0 HZA;refine wp_loop_rounds 2 ?_;rw[rounds_succ];go_wp2_with fail;clear c0 c1 c2 c3 c4 c5 c6 c7 c8 c9;refine cm0 (key0 _ d.pA d.pc) fun w5 G1=>?_
 have GD:=GG.trans G1;have D5X:=I (G1.bk DX);have D5K:=I (GD.bk AK);have D5M:=I (A1.gr GD);have D52:=I (A2.gr GD);have D53:=I (A3.gr GD);have HY0:=I (HYA.gr G1);have HG0:=I (HGA.trans GD);have x7:=G1.keep (DX.cell 7);clear GD GG DX AK A1 A2 A3 HYA HGA e0;generalize w3.heap.size=xb at*;go_wp2_with fail;go_upto_region 7 with fail;clear x7;have gd:=(Gr.refl w5).drew;have hS0:=ai (gd.keep (D5K.cell 10)) (ai (D5M.gr gd) (gd.bk D5X).c10);clear gd;refine wy (fun W=>W.cell? ⟨kb,10,none⟩=some (.map (some m1))∧Ob W m1 (.map #[] 0)∧W.cell? ⟨xb,0,none⟩=some (.slice d.pA 0 d.pc)∧W.cell? ⟨xb,1,none⟩=some (.slice d.mA 0 d.mc)∧W.cell? ⟨xb,2,none⟩=some (.int .i64 0)∧W.cell? ⟨xb,3,none⟩=some (.int .i64 0)∧W.cell? ⟨xb,4,none⟩=some (.bool false)∧W.cell? ⟨xb,5,none⟩=some d.a.v∧W.cell? ⟨xb,6,none⟩=some d.b.v∧W.cell? ⟨xb,7,none⟩=some (.slice d.kA 0 d.kc)∧W.cell? ⟨xb,8,none⟩=some (.bool false)∧W.cell? ⟨xb,9,none⟩=some d.f.v) (by kernel_rfl) ?_;show anyE _ _ _ _ 15 _ _ _;refine anyE.tk 0 hS0 ?_;refine anyE.tk 1 hS0 ?_;refine anyE.tk 2 hS0 ?_;refine anyE.tk 3 hS0 ?_;refine anyE.tk 4 hS0 ?_;refine anyE.tk 5 hS0 ?_;refine anyE.tk 6 hS0 ?_;refine anyE.tk 7 hS0 ?_;refine anyE.tk 8 hS0 ?_;refine anyE.tk 9 hS0 ?_;refine anyE.takeL (i:=10) (v:=Nl) rfl (by kernel_rfl) (by kernel_rfl) (by kernel_rfl) (fun _ _ _ h=>h) (Or.inl ⟨by rfl,?wlook⟩) hS0 ?rlook;case wlook=>(intro w' hS';obtain⟨k10,hm,e0,e1,e2,e3,e4,e5,e6,e7,e8,e9⟩:=hS';have hl:=amj (P:=Tryz.prog) (w:=w') (t:=242) (kt:=9) (et:=51) (s:=⟨#[]⟩) (z:=Nl) (by kernel_rfl) (by kernel_rfl) (by kernel_rfl) hm;go_simp)
 refine ptt ?_;refine anyE.tk 11 hS0 ?_;have GA:=((Gr.refl w5).alloc (.cells #[.slice d.pA 0 d.pc,.slice d.mA 0 d.mc,.int .i64 0,.int .i64 0,.bool false,d.a.v,d.b.v,.slice d.kA 0 d.kc,.bool false,d.f.v] 77)).drew;have HY1:=I (HY0.gr GA);have D1K:=I (GA.bk D5K);have D1X:=I (GA.bk D5X);have D1M:=I (D5M.gr GA);have D12:=I (D52.gr GA);have D13:=I (D53.gr GA);have HG1:=I (HG0.trans GA);have BC:=I (a8d w5 77 #[.slice d.pA 0 d.pc,.slice d.mA 0 d.mc,.int .i64 0,.int .i64 0,.bool false,d.a.v,d.b.v,.slice d.kA 0 d.kc,.bool false,d.f.v]);clear GA hS0;refine anyE.k 12 fun K hK=>?_
 go_simp;refine hK.out _ _ ⟨Or.inl (⟨D1K.cell 10,D1M.out,D1X.cell 0,D1X.cell 1,D1X.cell 2,D1X.cell 3,D1X.cell 4,D1X.cell 5,D1X.cell 6,D1X.cell 7,D1X.cell 8,D1X.cell 9⟩),?_⟩;clear hK K;refine ptt ?_;generalize hw6:(w5.alloc (.cells #[.slice d.pA 0 d.pc,.slice d.mA 0 d.mc,.int .i64 0,.int .i64 0,.bool false,d.a.v,d.b.v,.slice d.kA 0 d.kc,.bool false,d.f.v] 77)).drew=w6 at*;clear hw6;have HSZ:=I HG1.size;refine anyE.k 13 fun K hK=>?_
 refine Own.app1 an4 _ _ (by rfl) (by rfl) (Own.nil w6 w.heap.size:OwnB w6 w.heap.size Sv.none []) ⟨w5.heap.size,0,none⟩ 1 d _ (by rfl) HY1.out rfl BC.out (aff d) dx dx HSZ.out (fun w' F=>fun p a hp=>hp.fr F (fun b cs t fr e _=>by cases e)) (fun z w7 hzn hz hF=>?_);have hF0:Fr (fun _=>False) w6 w7:=hF.wide (fun b _ e=>by cases e);have HZ:=I hz;have D2K:=I (hF0.bk D1K (fun h=>h));have D2X:=I (hF0.bk D1X (fun h=>h));have D2M:=I (D1M.fr hF0 (fun h=>h));have D22:=I (D12.fr hF0 (fun h=>h));have D23:=I (D13.fr hF0 (fun h=>h));have HG2:=I (HG1.no hF0);clear hF hF0 hz hzn;refine hK.out _ _ ⟨Or.inl (⟨D2K.cell 10,D2M.out,D2X.cell 0,D2X.cell 1,D2X.cell 2,D2X.cell 3,D2X.cell 4,D2X.cell 5,D2X.cell 6,D2X.cell 7,D2X.cell 8,D2X.cell 9⟩),?_⟩;clear hK K;refine ptt ?_;refine anyE.k 14 fun K hK=>?_
 have hu:=upd0 (P:=Tryz.prog) (w:=w7) (t:=242) (kt:=9) (et:=51) (s:=⟨#[]⟩) (v:=z.v) (by kernel_rfl) (by kernel_rfl) D2M;go_simp;refine hK.out _ _ ⟨Or.inr (by kernel_rfl),?_⟩;clear hK K;refine ptt ?_;refine anyE.done (by kernel_rfl) ?_;have F5:=putObj.fr w7 m1 (.map #[{ key:=.string ⟨#[]⟩,val:=z.v,born:=0 }] 1);have hno:∀t,∀b cs fr,b=m1→w7.heap[b]?≠some (.cells cs t fr):=fun t b cs fr e hh=>by
  subst e;have h9:=D2M.out;unfold Ob at h9;rw[h9] at hh;cases hh
 have HZ5:=I (Own.go HZ (fun q a ha=>EbI.fr ha F5 (fun b cs t fr e hh=>absurd hh (hno t b cs fr e))) (fun b hb=>F5.keep b (HZ.lt b hb).2 fun e=>by
  obtain⟨ts,t1,_⟩:=HZ.out;obtain⟨cur,hc⟩:=a7m t1 b hb;exact hno _ b _ _ e hc))
 have D5K:=I (F5.bk D2K HK5);have D5M:=I (putObj.ob (o':=(.map #[{ key:=.string ⟨#[]⟩,val:=z.v,born:=0 }] 1)) D2M);have D52:=I (D22.fr F5 HK2);have D53:=I (D23.fr F5 HK4);have D5X:=I (F5.bk D2X (fun e=>by have h9:=D2M.out;have h8:=D2X.out;rw[e] at h8;unfold Ob at h9;unfold Bk at h8;rw[h9] at h8;cases h8));have HG5:=I (HG2.step F5 (fun b _ e=>by rw[e];exact HM1.out));clear F5 hno D2K D2M D22 D23 D2X HG2 HZ;generalize putObj w7 m1 (.map #[{ key:=.string ⟨#[]⟩,val:=z.v,born:=0 }] 1)=w8 at*;have x0:=D5X.cell 0;go_wp2_with fail;refine wp_loop_rounds 1 ?_;rw[rounds_succ];go_wp2;rw[rounds_succ];go_wp2;go_ret;exact⟨kb,m1,m2,m3,z,rfl,HK1.out,HM3.out,HK3.out,D5K.out,D5M.out,HZ5.rows dx,D52.out,D53.out,HG5.out⟩
theorem Bk.put9 {w:World} {p t:Nat} {a0 a1 a2 a3 a4 a5 a6 a7 a8:Value} (hh:Bk w p t #[a0,a1,a2,a3,a4,a5,a6,a7,a8]) (x0 x1 x2 x3 x4 x5 x6 x7 x8:Value):Bk (((((((((w.setCell ⟨p,0,none⟩ x0).setCell ⟨p,1,none⟩ x1).setCell ⟨p,2,none⟩ x2).setCell ⟨p,3,none⟩ x3).setCell ⟨p,4,none⟩ x4).setCell ⟨p,5,none⟩ x5).setCell ⟨p,6,none⟩ x6).setCell ⟨p,7,none⟩ x7).setCell ⟨p,8,none⟩ x8) p t #[x0,x1,x2,x3,x4,x5,x6,x7,x8]∧Fr (fun b=>b=p) w (((((((((w.setCell ⟨p,0,none⟩ x0).setCell ⟨p,1,none⟩ x1).setCell ⟨p,2,none⟩ x2).setCell ⟨p,3,none⟩ x3).setCell ⟨p,4,none⟩ x4).setCell ⟨p,5,none⟩ x5).setCell ⟨p,6,none⟩ x6).setCell ⟨p,7,none⟩ x7).setCell ⟨p,8,none⟩ x8):=by
 refine⟨?_,(((((((((Fr.set w ⟨p,0,none⟩ x0 rfl:Fr (fun b=>b=p) w _)).trans (Fr.set _ ⟨p,1,none⟩ x1 rfl)).trans (Fr.set _ ⟨p,2,none⟩ x2 rfl)).trans (Fr.set _ ⟨p,3,none⟩ x3 rfl)).trans (Fr.set _ ⟨p,4,none⟩ x4 rfl)).trans (Fr.set _ ⟨p,5,none⟩ x5 rfl)).trans (Fr.set _ ⟨p,6,none⟩ x6 rfl)).trans (Fr.set _ ⟨p,7,none⟩ x7 rfl)).trans (Fr.set _ ⟨p,8,none⟩ x8 rfl)⟩;have:=(((((((((Bk.put hh 0 x0).put 1 x1).put 2 x2).put 3 x3).put 4 x4).put 5 x5).put 6 x6).put 7 x7).put 8 x8);simpa using this
theorem amt (w:World) (q:Qs) (x:Qr) (l:List Mm) (kb m1 m2 m3:Nat) (z:Sv) (hq:Qi w x q) (hx:Lf x l) (hkb:Bk w kb 246 #[.int .i64 q.i,q.a.v,q.b.v,q.c.v,q.d.v,q.e.v,q.f.v,.bool q.s,q.h.v,q.k.v,.map (some m1),.map (some m2),.map (some m3)]) (h1:Ob w m1 (.map #[{ key:=.string ⟨#[]⟩,val:=z.v,born:=0 }] 1)) (hz:Ebs w z [l]) (h3:Ob w m3 (.map #[] 0)):
  Calls Tryz.prog 240 #[.pointer (some ⟨kb,0,none⟩),.agg #[.int .i64 q.i,q.a.v,q.b.v,q.c.v,q.d.v,q.e.v,q.f.v,.bool q.s,q.h.v,q.k.v,Nl,Nl]] w fun e w'=>∃(v:Nat) (y:Sv),e=.returned (.tuple #[.pointer (some ⟨v,0,none⟩),.bool true])∧w.heap.size≤v∧Bk w' v 241 #[.slice none 0 0,.int .i64 0,.int .i64 0,.bool false,.slice none 0 0,.slice none 0 0,.slice none 0 0,.bool false,.slice y.A y.n y.c,.slice none 0 0]∧MultR w' y l∧Gr w w':=by
 have HQ:=I hq;have HX:=I hx;clear hq hx;go_enter Tryz.func240,Tryz.ntmps240;go_wp2_with fail;refine am5 fun W HG D_p0=>?_
 have HKB:=I (HG.bk hkb);have H1:=I (h1.gr HG);have H3:=I (h3.gr HG);have HZ:=I (hz.gr HG);clear hkb h1 h3 hz;obtain⟨s0,s1,s2,s3,s4,s5,s6,s7,s8,s9,s10,s11⟩:=D_p0.c12;refine cm0 (key0 W none 0) fun w2 G1=>?_
 replace HG:=HG.tr G1;replace D_p0:=G1.hb D_p0;replace HKB:=G1.hb HKB;replace H1:=I (H1.gr G1);replace H3:=I (H3.gr G1);replace HZ:=I (HZ.gr G1);clear s0 s1 s2 s3 s4 s5 s6 s7 s8 s9 s10 s11;obtain⟨k0,k1,k2,k3,k4,k5,k6,k7,k8,k9,k10,k11,k12⟩:=HKB.c13;have hl3:=amj (P:=Tryz.prog) (w:=w2) (t:=244) (kt:=9) (et:=4) (s:=⟨#[]⟩) (z:=.bool false) (by kernel_rfl) (by kernel_rfl) (by kernel_rfl) H3;have hl1:=aoi (P:=Tryz.prog) (w:=w2) (t:=242) (kt:=9) (et:=51) (s:=⟨#[]⟩) (v:=z.v) dx (by kernel_rfl) (by kernel_rfl) H1;have hn1:1=z.n:=HZ.len;obtain⟨d,ad,hy0,hA,c0,c1,c2,c3,c4,c5,c6,c7,c8,c9⟩:=HZ.head;obtain⟨zA,zn,zc⟩:=z;simp only at hn1 hA hl1;subst hn1 hA;have az:=add_zero ad;go_wp2_with fail;refine wp_loop_rounds 2 ?_;rw[rounds_succ];go_wp2_with fail;go_upto_region 9 with fail;clear HZ H1 H3 hl1 hl3 c0 c1 c2 c3 c4 c5 c6 c7 c8 c9 k0 k1 k2 k3 k4 k5 k6 k7 k8 k9 k10 k11 k12;refine nw1 fun w3 GB DX=>?_
 have HY:=I (hy0.gr GB);replace HG:=HG.tr GB;replace D_p0:=GB.hb D_p0;replace HKB:=GB.hb HKB;clear hy0;clear GB;generalize w2.heap.size=xb at*;obtain⟨k0,k1,k2,k3,k4,k5,k6,k7,k8,k9,k10,k11,k12⟩:=HKB.c13;obtain⟨e0,e1,e2,e3,e4,e5,e6,e7,e8,e9⟩:=DX.c10;refine wpr ?_;have kc:=I fun W' (G:Gr w3.drew W')=>G.kk k0 <| G.kk k1 <| G.kk k2 <| G.kk k3 <| G.kk k4 <| G.kk k5 <| G.kk k6 <| G.kk k7 <| G.kk k8 <| G.kk k9 <| G.kk e0 <| G.kk e1 <| G.kk e2 <| G.kk e3 <| G.kk e4 <| G.kk e5 <| G.kk e6 <| G.kk e7 <| ai (G.keep e8) (G.keep e9)
 refine wg 0 (tf 14 0) [0,1,2,3,4,5,6,7,8,9,10,11,12,13] [(12,fun v _=>v=.bool true)] ?_;iterate 12 refine .tk ?_
 refine .dk (fun W1 G1 F1=>acx W1 q x l d (HQ.gr (HG.trans G1.od)) HX (HY.gr G1.od)) ?_;rintro _ ⟨_,-,-,rfl⟩;refine .tk ?_;refine .done fun W1 G1 F1=>?_
 clear F1;refine wpe ?_;replace HG:=I (HG.trans G1.od);replace D_p0:=I (G1.od.bk D_p0);replace DX:=I (G1.od.bk DX);replace HY:=I (HY.gr G1.od);clear G1 k10 k11 k12 HKB kc k0 k1 k2 k3 k4 k5 k6 k7 k8 k9 e0 e1 e2 e3 e4 e5 e6 e7 e8 e9;generalize W1=w4 at*;go_wp2_with fail;go_upto_region 10 with fail;obtain⟨e0,e1,e2,e3,e4,e5,e6,e7,e8,e9⟩:=DX.c10;obtain⟨s0,s1,s2,s3,s4,s5,s6,s7,s8,s9,s10,s11⟩:=D_p0.c12;clear s0 s1 s2 s3 s4 s5 s6 s7 s8 s9 s10;refine wpr ?_;have kc:=I fun W' (G:Gr w4.drew W')=>G.kk e0 <| G.kk e1 <| G.kk e2 <| G.kk e3 <| G.kk e4 <| G.kk e5 <| G.kk e6 <| G.kk e7 <| G.kk e8 <| ai (G.keep e9) (G.keep s11)
 have hst:∀p∈([(9,MultA (l)),(11,NewAt 46 #[Nl,.int .i64 0,.int .i64 0,.bool false,Nl,Nl,Nl,.bool false,Nl] w4.heap.size)]:List (Nat×(Value→World→Prop))),∀(u:Value) (wA0 wB0:World),Gr w4.drew wA0→Gr wA0 wB0→p.2 u wA0→p.2 u wB0:=by
  intro p hp u wA0 wB0 h0 G h;simp only[List.mem_cons,List.not_mem_nil,or_false] at hp;rcases hp with rfl | rfl
  ·exact MultA.gr h G
  ·exact NewAt.gr h G
 refine zq (m:=1) (last:=#[true,true,true,true,true,true,true,true,true,true,true,true,false]) [0,1,2,3,4,5,6,7,8,9,10,11] [(9,MultA (l)),(11,NewAt 46 #[Nl,.int .i64 0,.int .i64 0,.bool false,Nl,Nl,Nl,.bool false,Nl] w4.heap.size)] (by kernel_rfl) dx (by kernel_rfl) hst ?_;clear hst;iterate 9 refine .tk ?_
 refine .dk (fun W1 G1 F1=>adb W1 d x l HX (HY.gr G1.od)) ?_;rintro _ ⟨_,-,-,⟨y2,rfl,-⟩⟩;refine .tk ?_;refine .da ?_;rintro _ ⟨_,-,-,⟨o,rfl,-,-⟩⟩;refine .done fun W1 G1 F1=>?_
 have hy:=lh F1 0;have ho:=lh F1 1;replace kc:=kc.out W1 G1;clear F1 e0 e1 e2 e3 e4 e5 e6 e7 e8 e9 s11;refine a4f 12 fun K hK=>?_
 have hN:=ho.is;have fz:=hN.1.frozen;have o0_:=hN.1.c9;go_simp;refine hK.out _ _ ?_;clear hK K;refine ptt ?_;refine wpe ?_;obtain⟨ho,hoN⟩:=ho.is;obtain⟨B5,F5⟩:=ho.put9 Nl (.int .i64 0) (.int .i64 0) (.bool false) Nl Nl Nl (.bool false) y2.v;have HGO2:=I (nt HG.size hoN);have HG5:=I ((HG.trans G1.od).fr_at F5 HGO2);have HY5:=I (hy.is.st F5 ho);have DO:=I B5;replace DX:=I (F5.bk (G1.od.bk DX) (Nat.ne_of_lt (nk DX.lt hoN)));clear ho hoN hy G1 B5 F5 HG D_p0 kc;generalize ((((((((W1.setCell ⟨o,0,none⟩ Nl).setCell ⟨o,1,none⟩ (.int .i64 0)).setCell ⟨o,2,none⟩ (.int .i64 0)).setCell ⟨o,3,none⟩ (.bool false)).setCell ⟨o,4,none⟩ Nl).setCell ⟨o,5,none⟩ Nl).setCell ⟨o,6,none⟩ Nl).setCell ⟨o,7,none⟩ (.bool false)).setCell ⟨o,8,none⟩ y2.v=w7 at*;obtain⟨e0,e1,e2,e3,e4,e5,e6,e7,e8,e9⟩:=DX.c10;have o0_:=DO.c9;go_wp2_with fail;refine wp_loop_rounds 1 ?_;rw[rounds_succ];go_wp2;refine bret Tryz.results240 ?_;obtain⟨B1,GB⟩:=abd w7 241 #[Nl,.int .i64 0,.int .i64 0,.bool false,Nl,Nl,Nl,.bool false,y2.v,Nl];exact⟨w7.heap.size,y2,rfl,HG5.size,B1,HY5.gr GB,HG5.trans GB⟩
end
end Go.Proofs.YtbhbainhmfjpdaaGreatDoor
