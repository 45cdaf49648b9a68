/- Walks of the search and of what it calls, part 16. -/
import Derived.Test.YtbhbainhmfjpdaaGreatDoorMo
set_option linter.unusedVariables false
set_option linter.unusedSimpArgs false
set_option maxRecDepth 100000
set_option maxHeartbeats 8000000
namespace Go.Proofs.YtbhbainhmfjpdaaGreatDoor
open Go.RowKit
def exG (q:Q):Fm:=⟨[(0,Q.one)],q⟩
def exY (q:Q):Qr:=⟨⟨1,[],[varR 0]⟩,⟨[Q.zero],[Q.one],[]⟩,exG q⟩
theorem exX_one:exX 1=exY Q.one:=by unfold exX exY;rw[show Fm.addR (varR 0) (numR (ofQ 1))=exG Q.one from by decide,show ofQ 1=Q.one from by decide]
theorem exX_mone:exX (-1)=exY Q.mone:=by unfold exX exY;rw[show Fm.addR (varR 0) (numR (ofQ (-1)))=exG Q.mone from by decide,show ofQ 1=Q.one from by decide]
theorem exG_S {q:Q} (h:q.S 1):(exG q).S 1 1:=⟨⟨(sz_var 0).cn.srt,(sz_var 0).cn.nz,h.ok⟩,(sz_var 0).each,h,nr _⟩
theorem ex_ok {q:Q} (h:q.Ok):(exG q).Ok 1:=⟨fun i s t hs ht=>by simp[exG] at ht,fun t ht=>by rw[mj ht];exact⟨by decide,by decide,by decide,by decide⟩,h⟩
theorem exY_va {q:Q} (h:q.S 1):(exY q).Va 1:=by
 have hv:(varR 0).Ok 1:=ex_ok (by decide:Q.zero.Ok);refine⟨⟨nr _,by show 1≤256;decide,by show 0≤1024;decide,by show 1≤1;decide,by show 1≤256;decide,fun j f hf=>by simp[exY] at hf,fun f hf=>by rw[mj hf];exact (sz_var 0).fsm dx hv⟩,fun f hf=>(by cases hf),⟨nr _,by show 1≤256;decide,rfl,rfl,fun q hq=>by rw[mj hq];exact sz_zero,fun q hq=>by rw[mj hq];exact sz_one,fun i a b ha hb=>?_,by show 0≤256;decide,fun f hf=>(by cases hf),by decide⟩,ex_ok h.ok,(exG_S h).up dx (nr _)⟩;cases i with
 | zero=>
  simp only[exY,List.getElem?_cons_zero,oq] at ha hb;subst ha hb
  decide
 | succ i=>simp[exY] at ha
theorem exL_ok:PfOk exL:=⟨fun m hm=>by rw[mj hm];exact ((show ofQ 1=Q.one from by decide)▸sz_one:(ofQ 1).S 1).up dx,by decide⟩
theorem ex_en:EnOk (en0 exL):=⟨fun m hm=>(by cases hm),exL_ok⟩
theorem ex_red:reduceR (en0 exL)=en0 exL:=rfl
theorem ex_sc {q:Q} (h:q.S 1):((en0 exL).sc (exY q)).Va 1 1:=⟨exY_va h,fun d hd=>(by cases hd),by show 0≤1000;decide,fun m hm=>(by cases hm),by show 0≤1000;decide,by decide,by decide,by decide,by show 1+0≤8;decide⟩
theorem ex_ents {q:Q} (h:q.S 1):PCallsG Tryz.prog TE 12 [qyP (exY q),.agg (ndX (lfN exL))] (.tup [ensP (keptR (exY q) [en0 exL]),iP 0]):=
 p_entries (k:=0) (n:=lfN exL) ⟨rfl,rfl⟩ ⟨by decide,by decide⟩ dx (exY_va h) (by show 1+0≤8;decide) ((exG_S h).up dx dx) fun x hx=>by
  rw[show x=en0 exL from mj hx,ex_red];exact⟨ex_en,by show 0≤1000;decide,ex_en,ex_sc h⟩
theorem kept_one:keptR (exY Q.one) [en0 exL]=[en0 exL]:=by kernel_rfl
theorem kept_mone:keptR (exY Q.mone) [en0 exL]=[]:=by kernel_rfl
theorem ex_lf:Lf (exY Q.one) exL:=⟨⟨1,1,ex_sc sz_one⟩,ex_en,(exG_S sz_one).up dx dx,by kernel_rfl,by show 1+0≤8;decide,by decide,fun m hm=>by rw[mj hm];decide⟩
theorem ex_ents1:PCallsG Tryz.prog TE 12 [qyP (exY Q.one),.agg (ndX (lfN exL))] (.tup [ensP [en0 exL],iP 0]):=by
 have:=ex_ents sz_one;rwa [kept_one] at this
theorem ex_ents2:PCallsG Tryz.prog TE 12 [qyP (exY Q.mone),.agg (ndX (lfN exL))] (.tup [ensP [],iP 0]):=by
 have:=ex_ents sz_mone;rwa [kept_mone] at this
theorem p_ex1:PCalls Tryz.prog TF 23 [iP 1] (.tup [qyP (exY Q.one),.agg (ndX (lfN exL))]):=by
 have:=p_ex (c:=1) dx dx ((show ofQ 1=Q.one from by decide)▸sz_one);rwa [exX_one] at this
theorem p_ex2:PCalls Tryz.prog TF 23 [iP (-1)] (.tup [qyP (exY Q.mone),.agg (ndX (lfN exL))]):=by
 have:=p_ex (c:=-1) dx dx ((show ofQ (-1)=Q.mone from by decide)▸sz_mone);rwa [exX_mone] at this
section
attribute [local go_sem] Oper.semAt_some
theorem exres {w:World} {x:Qr} {l:List Mm} {v:Value} (h:(PV.tup [qyP x,.agg (ndX (lfN l))]).Rep w NoX v):∃(q:Qs) (n:Ns),v=.tuple #[.agg #[.int .i64 q.i,.slice q.a.A q.a.n q.a.c,.slice q.b.A q.b.n q.b.c,.slice q.c.A q.c.n q.c.c,.slice q.d.A q.d.n q.d.c,.slice q.e.A q.e.n q.e.c,.slice q.f.A q.f.n q.f.c,.bool q.s,.slice q.h.A q.h.n q.h.c,.slice q.k.A q.k.n q.k.c],.agg #[.slice n.a.A n.a.n n.a.c,.int .i64 0,.int .i64 0,.bool false,.slice n.b.A n.b.n n.b.c,.slice n.c.A n.c.n n.c.c,.slice n.d.A n.d.n n.d.c,.bool false,.slice n.f.A n.f.n n.f.c]]∧Qi w x q∧Ni w l n:=by
 obtain⟨u1,u2,rfl,h1,h2⟩:=tup2_inv h;obtain⟨q,rfl,hq⟩:=qs_of h1;obtain⟨n,rfl,hn⟩:=ns_of h2;exact⟨q,n,rfl,hq,hn⟩
theorem res_no {w:World} {v:Value} (h:(PV.tup [ensP [],iP 0]).Rep w NoX v):∃z:Sv,v=.tuple #[z.v,.int .i64 0]∧0=z.n:=by
 obtain⟨u1,u2,rfl,h1,h2⟩:=tup2_inv h;obtain rfl:=raw_inv h2;obtain⟨z,rfl,hz⟩:=rows_inv h1;exact⟨z,rfl,hz.symm⟩
theorem awake0 (w:World) (hw:LaidG w):
  Calls Tryz.prog 8 #[] w fun e w'=>e=.returned (.bool true)∧Gr w w':=by
 go_enter Tryz.func8,Tryz.ntmps8;go_wp2_with fail;refine cm2 (p_ex1.raw (PV.RepL.cons (c:=iP 1) (u:=.int .i64 1) (raw_to _) PV.RepL.nil)) fun vv w1 hvv G=>?_
 obtain⟨q,n,rfl,hq,hp⟩:=exres hvv;have HW:=I hw;clear hvv hw;have HQ:=I hq;have HP:=I hp;have HG:=I G;clear hq hp;go_upto_region 2 with fail;refine nw2 fun w2 GB D1 D2=>?_
 replace HQ:=I (HQ.gr GB);replace HP:=I (HP.gr GB);replace HG:=HG.tr GB;clear GB;generalize w1.heap.size+1=b at*;generalize w1.heap.size=a at*;go_wp2_with fail;refine cm2 (p_ex2.raw (PV.RepL.cons (c:=iP (-1)) (u:=.int .i64 (-1)) (raw_to _) PV.RepL.nil)) fun vv w3 hvv G=>?_
 obtain⟨qq,n2,rfl,hq2,hp2⟩:=exres hvv;clear hvv;obtain⟨B3,B4,GB⟩:=made2 w3 39 46 #[.int .i64 qq.i,qq.a.v,qq.b.v,qq.c.v,qq.d.v,qq.e.v,qq.f.v,.bool qq.s,qq.h.v,qq.k.v] #[n2.a.v,.int .i64 0,.int .i64 0,.bool false,n2.b.v,n2.c.v,n2.d.v,.bool false,n2.f.v];have GG:=G.trans GB;replace HQ:=I (HQ.gr GG);replace HP:=I (HP.gr GG);replace HG:=HG.tr GG;replace D1:=GG.hb D1;replace D2:=GG.hb D2;have HQ2:=I (hq2.gr GB);have D3:=I B3;clear B3 B4 GB GG hq2 hp2;go_upto_region 3 with fail;generalize (w3.alloc (.cells #[.int .i64 qq.i,qq.a.v,qq.b.v,qq.c.v,qq.d.v,qq.e.v,qq.f.v,.bool qq.s,qq.h.v,qq.k.v] 39)).alloc (.cells #[n2.a.v,.int .i64 0,.int .i64 0,.bool false,n2.b.v,n2.c.v,n2.d.v,.bool false,n2.f.v] 46)=w4 at*;generalize w3.heap.size+1=d at*;generalize w3.heap.size=c at*;have q0_:=D1.c10;have a0_:=D2.c9;go_wp2_with fail;refine cm2 (ex_ents1.raw (HW.gr HG) (PV.RepL.cons (rep_agg HQ) (PV.RepL.cons (rep_agg HP) PV.RepL.nil))) fun vv w5 hvv G=>?_
 obtain⟨z,rfl,hz⟩:=res_of hvv;clear hvv;have hzn:1=z.n:=hz.len;obtain⟨zA,zn,zc⟩:=z;simp only at hzn;subst hzn;replace HQ:=I (HQ.gr G);replace HP:=I (HP.gr G);replace HG:=HG.tr G;replace D1:=G.hb D1;replace D2:=G.hb D2;replace D3:=G.hb D3;replace HQ2:=I (HQ2.gr G);clear hz q0_ a0_;have q0_:=D3.c10;have a0_:=D2.c9;simp only[Sv.v];go_wp2_with fail;refine cm2 (ex_ents2.raw (HW.gr HG) (PV.RepL.cons (rep_agg HQ2) (PV.RepL.cons (rep_agg HP) PV.RepL.nil))) fun vv w6 hvv G=>?_
 obtain⟨z2,rfl,hz⟩:=res_no hvv;have hzn:=hz;clear hvv;obtain⟨yA,yn,yc⟩:=z2;simp only at hzn;subst hzn;replace HQ:=I (HQ.gr G);replace HP:=I (HP.gr G);replace HG:=HG.tr G;replace D1:=G.hb D1;replace D2:=G.hb D2;clear hz q0_ a0_ D3 HQ2;have q0_:=D1.c10;have a0_:=D2.c9;simp only[Sv.v];go_wp2_with fail;refine (reuse0 w6 q (exY Q.one) exL n (HW.gr HG) HQ ex_lf ex_ents1 HP).mono ?_;rintro e w7 ⟨y,rfl,G⟩;obtain⟨B5,GB⟩:=made1 w7 61 #[.int .i64 1,Nl,.int .i64 0,.int .i64 0,.bool false,Nl,Nl,Nl,.bool false,y.v,Nl,.int .i64 0];replace HG:=I ((HG.trans G).trans GB);have u0:=B5.c12.1;clear B5 GB G q0_ a0_ D1 D2 HQ HP;go_wp2;go_ret;exact⟨rfl,HG.out⟩
end
def eqL {α:Type} [Inhabited α] (f:α→α→Bool) (a b:List α):Bool:=a.length == b.length&&(List.range a.length).all fun i=>f (atZ a (i:Int)) (atZ b (i:Int))
section
variable {α:Type} [Inhabited α] {f:α→α→Bool} {a b:List α} {i:Nat}
theorem eqL_ne (h:a.length≠b.length):eqL f a b=false:=by
 unfold eqL;rw[beq_false_of_ne h];rfl
theorem eqL_bad (hi:i < a.length) (h:f (atZ a (i:Int)) (atZ b (i:Int))=false):eqL f a b=false:=by
 unfold eqL;rw[Bool.and_eq_false_iff,List.all_eq_false];exact .inr ⟨i,List.mem_range.2 hi,by rw[h];exact Bool.false_ne_true⟩
theorem eqL_ok (hl:a.length=b.length) (hi:a.length≤i) (h:∀j,j < i→f (atZ a (j:Int)) (atZ b (j:Int))=true):eqL f a b=true:=by
 unfold eqL;rw[hl,beq_self_eq_true,Bool.true_and,List.all_eq_true];exact fun j hj=>h j (by have:=List.mem_range.1 hj;omega)
theorem upto_succ {p:Nat→Prop} (h:∀j,j < i→p j) (h1:p i):∀j,j < i+1→p j:=fun j hj=>(Nat.lt_succ_iff_lt_or_eq.1 hj).elim (h j) fun e=>e▸h1
omit [Inhabited α] in
theorem len_ne {β:Type} {g:α→β} (h:(((a.map g).length:Int) != ((b.map g).length:Int))=true):a.length≠b.length:=by
 intro e;rw[List.length_map,List.length_map,e] at h;simp at h
omit [Inhabited α] in
theorem len_eq {β:Type} {g:α→β} (h:(((a.map g).length:Int) != ((b.map g).length:Int))=false):a.length=b.length:=by
 rw[List.length_map,List.length_map,bne_eq_false_iff_eq] at h;omega
end
def mmEq (x y:Mm):Bool:=rowEq x.1 y.1&&decide (x.2=y.2)
def lmEq (x y:Lm):Bool:=x.unit == y.unit&&(x.upper == y.upper&&(decide (x.value=y.value)&&eqL mmEq x.proof y.proof))
def enEq (x y:En):Bool:=eqL dcEq x.path y.path&&((x.empty == y.empty)&&(eqL lmEq x.lems y.lems&&eqL mmEq x.proof y.proof))
theorem r_samems (a b:List Mm) (h9:a.length≤1000000):PCalls Tryz.prog [] 97 [mmsP a,mmsP b] (bP (eqL mmEq a b)):=by
 refine pcA [] Tryz.func97 (fun D=>?_);refine a2 (fun e10=>?_) (fun e10=>?_)
 ·have hn:=len_ne e10;exact ar (c:=congrArg bP (eqL_ne hn).symm)
 ·have hl:=len_eq e10;refine au ?_;refine pl (ι:={i:Nat // i≤a.length∧∀j,j < i→mmEq (atZ a (j:Int)) (atZ b (j:Int))=true}) (fun i=>[(0,.pv (mmsP a)),(1,.pv (mmsP b)),(5,.pv (iP (i.1:Int)))]) (fun i=>[]) [] (fun i=>a.length - i.1) ⟨0,nq _,fun j hj=>absurd hj (Nat.not_lt_zero j)⟩ (ai Y (ai Y (ai Y trivial))) trivial (fun _=>rfl) ?_;intro ⟨i,hi0,hg⟩;refine a2 (fun e14=>?_) (fun e14=>?_)
  ·have hi:i < a.length:=lt_of e14;have hib:i < b.length:=hl▸hi;refine ax (c:=(getmap (get_of hi))) ?_;refine ax (c:=(getmap (get_of hib))) ?_;refine au ?_;refine rr0 (!rowEq (atZ a (i:Int)).1 (atZ b (i:Int)).1) Y Y Y Y Y Y Y Y Y (.inr ⟨rfl,rfl⟩) ?_;refine a2 (fun e28=>?_) (fun e28=>?_)
   ·exact ar (c:=congrArg bP (eqL_bad hi (by simp_all [mmEq])).symm)
   ·refine ax (c:=(getmap (get_of hi))) ?_;refine ax (c:=(getmap (get_of hib))) ?_;refine ac (c:=r_same) ?_;refine a2 (fun e41=>?_) (fun e41=>?_)
    ·exact ar (c:=congrArg bP (eqL_bad hi (by simp_all [mmEq])).symm)
    ·refine aa (c:=ari_succ (by show i≤_;omega)) ?_;refine au ?_;exact pe ⟨i+1,hi,upto_succ (p:=fun j=>mmEq (atZ a (j:Int)) (atZ b (j:Int))=true) hg (by simp_all [mmEq])⟩ (ai Y (ai Y (ai Y trivial))) trivial Y (by show a.length - (i+1) < a.length - i;omega)
  ·have hj:a.length≤i:=ge_of e14;exact ar (c:=congrArg bP (eqL_ok hl hj hg).symm)
theorem r_samelms (a b:List Lm) (h9:a.length≤1000000) (ha:∀m∈a,m.proof.length≤1000000):PCalls Tryz.prog [] 96 [lmsP a,lmsP b] (bP (eqL lmEq a b)):=by
 refine pcA [] Tryz.func96 (fun D=>?_);refine a2 (fun e10=>?_) (fun e10=>?_)
 ·have hn:=len_ne e10;exact ar (c:=congrArg bP (eqL_ne hn).symm)
 ·have hl:=len_eq e10;refine au ?_;refine pl (ι:={i:Nat // i≤a.length∧∀j,j < i→lmEq (atZ a (j:Int)) (atZ b (j:Int))=true}) (fun i=>[(0,.pv (lmsP a)),(1,.pv (lmsP b)),(5,.pv (iP (i.1:Int)))]) (fun i=>[]) [] (fun i=>a.length - i.1) ⟨0,nq _,fun j hj=>absurd hj (Nat.not_lt_zero j)⟩ (ai Y (ai Y (ai Y trivial))) trivial (fun _=>rfl) ?_;intro ⟨i,hi0,hg⟩;refine a2 (fun e14=>?_) (fun e14=>?_)
  ·have hi:i < a.length:=lt_of e14;have hib:i < b.length:=hl▸hi;refine ax (c:=(getmap (get_of hi))) ?_;refine ax (c:=(getmap (get_of hib))) ?_;refine a2 (fun e28=>?_) (fun e28=>?_)
   ·exact ar (c:=congrArg bP (eqL_bad hi (by simp_all [lmEq])).symm)
   ·refine ax (c:=(getmap (get_of hi))) ?_;refine ax (c:=(getmap (get_of hib))) ?_;refine au ?_;refine re0 (((atZ a (i:Int)).upper != (atZ b (i:Int)).upper)) Y Y Y Y Y Y (.inr ⟨rfl,rfl⟩) ?_;refine a2 (fun e41=>?_) (fun e41=>?_)
    ·exact ar (c:=congrArg bP (eqL_bad hi (by simp_all [lmEq])).symm)
    ·refine ax (c:=(getmap (get_of hi))) ?_;refine ax (c:=(getmap (get_of hib))) ?_;refine ac (c:=r_same) ?_;refine a2 (fun e55=>?_) (fun e55=>?_)
     ·exact ar (c:=congrArg bP (eqL_bad hi (by simp_all [lmEq])).symm)
     ·refine ax (c:=(getmap (get_of hi))) ?_;refine ax (c:=(getmap (get_of hib))) ?_;refine ac (c:=r_samems _ _ (ha _ (mg (get_of hi)))) ?_;refine a2 (fun e68=>?_) (fun e68=>?_)
      ·exact ar (c:=congrArg bP (eqL_bad hi (by simp_all [lmEq])).symm)
      ·refine aa (c:=ari_succ (by show i≤_;omega)) ?_;refine au ?_;exact pe ⟨i+1,hi,upto_succ (p:=fun j=>lmEq (atZ a (j:Int)) (atZ b (j:Int))=true) hg (by simp_all [lmEq])⟩ (ai Y (ai Y (ai Y trivial))) trivial Y (by show a.length - (i+1) < a.length - i;omega)
  ·have hj:a.length≤i:=ge_of e14;exact ar (c:=congrArg bP (eqL_ok hl hj hg).symm)
theorem r_samedc (x y:Dc):PCalls Tryz.prog [] 95 [dcP x,dcP y] (bP (dcEq x y)):=by
 refine pcA [42] Tryz.func95 (fun D=>?_);refine a2 (fun e10=>?_) (fun e10=>?_)
 ·refine a2 (fun e17=>?_) (fun e17=>?_)
  ·refine ac (c:=r_same) ?_;exact ar (c:=by (try simp only[List.length_map] at *);simp only[dcEq,e10,e17,sb]<;>rfl)
  ·exact ar (c:=by (try simp only[List.length_map] at *);simp only[dcEq,e10,e17,sb]<;>rfl)
 ·exact ar (c:=by (try simp only[List.length_map] at *);simp only[dcEq,e10,sb]<;>rfl)
theorem r_samepath (a b:List Dc) (h9:a.length≤1000000):PCalls Tryz.prog [] 45 [dcsP a,dcsP b] (bP (eqL dcEq a b)):=by
 refine pcA [] Tryz.func45 (fun D=>?_);refine a2 (fun e10=>?_) (fun e10=>?_)
 ·have hn:=len_ne e10;exact ar (c:=congrArg bP (eqL_ne hn).symm)
 ·have hl:=len_eq e10;refine au ?_;refine pl (ι:={i:Nat // i≤a.length∧∀j,j < i→dcEq (atZ a (j:Int)) (atZ b (j:Int))=true}) (fun i=>[(0,.pv (dcsP a)),(1,.pv (dcsP b)),(5,.pv (iP (i.1:Int)))]) (fun i=>[]) [] (fun i=>a.length - i.1) ⟨0,nq _,fun j hj=>absurd hj (Nat.not_lt_zero j)⟩ (ai Y (ai Y (ai Y trivial))) trivial (fun _=>rfl) ?_;intro ⟨i,hi0,hg⟩;refine a2 (fun e14=>?_) (fun e14=>?_)
  ·have hi:i < a.length:=lt_of e14;have hib:i < b.length:=hl▸hi;refine ax (c:=(getmap (get_of hi))) ?_;refine ax (c:=(getmap (get_of hib))) ?_;refine ac (c:=r_samedc _ _) ?_;refine a2 (fun e26=>?_) (fun e26=>?_)
   ·replace e26:=not_t e26;exact ar (c:=congrArg bP (eqL_bad hi (by simp_all [dcEq])).symm)
   ·replace e26:=not_f e26;refine aa (c:=ari_succ (by show i≤_;omega)) ?_;refine au ?_;exact pe ⟨i+1,hi,upto_succ (p:=fun j=>dcEq (atZ a (j:Int)) (atZ b (j:Int))=true) hg (by simp_all [dcEq])⟩ (ai Y (ai Y (ai Y trivial))) trivial Y (by show a.length - (i+1) < a.length - i;omega)
  ·have hj:a.length≤i:=ge_of e14;exact ar (c:=congrArg bP (eqL_ok hl hj hg).symm)
theorem r_samenode (a b:List Lm) (e f:Bool) (p q:List Mm) (h9:a.length≤1000000) (ha:∀m∈a,m.proof.length≤1000000) (hp:p.length≤1000000):PCalls Tryz.prog [] 46 [.agg [lmsP a,iP 0,iP 0,bP false,.nat 0,.nat 0,.rows 46 9 ndT [],bP e,mmsP p],.agg [lmsP b,iP 0,iP 0,bP false,.nat 0,.nat 0,.rows 46 9 ndT [],bP f,mmsP q],iP 1] (bP ((e == f)&&(eqL lmEq a b&&eqL mmEq p q))):=by
 refine pcA [46] Tryz.func46 (fun D=>?_);refine akF (c:=by exact (show _=false from rfl)) ?_;refine au ?_;refine re0 ((e != f)) Y Y Y Y Y Y (.inr ⟨rfl,rfl⟩) ?_;refine a2 (fun e17=>?_) (fun e17=>?_)
 ·exact ar (c:=congrArg bP (by simp_all))
 ·refine akF (c:=by exact (show _=false from rfl)) ?_;refine ac (c:=r_samedc dc0 dc0) ?_;refine ac (c:=r_samelms a b h9 ha) ?_;refine a2 (fun e42=>?_) (fun e42=>?_)
  ·exact ar (c:=congrArg bP (by simp_all))
  ·refine ac (c:=r_samems p q hp) ?_;refine a2 (fun e49=>?_) (fun e49=>?_)
   ·exact ar (c:=congrArg bP (by simp_all))
   ·refine au ?_;refine pl (ι:=Unit) (fun _=>[(2,.pv (iP 1)),(3,.box 3 0),(4,.box 4 0),(7,.pv (iP 0))]) (fun _=>[(3,.box 46 [.pv (lmsP a),.pv (iP 0),.pv (iP 0),.pv (bP false),.pv (.nat 0),.pv (.nat 0),.pv (.rows 46 9 ndT []),.pv (bP e),.pv (mmsP p)]),(4,.box 46 [.pv (lmsP b),.pv (iP 0),.pv (iP 0),.pv (bP false),.pv (.nat 0),.pv (.nat 0),.pv (.rows 46 9 ndT []),.pv (bP f),.pv (mmsP q)])]) [46] (fun _=>0) () (ai Y (ai Y (ai Y (ai Y trivial)))) (ai Y (ai Y trivial)) (fun _=>rfl) ?_;intro _;refine akF (c:=by exact (show _=false from rfl)) ?_;exact ar (c:=congrArg bP (by simp_all))
theorem r_sameens (a b:List En) (h9:a.length≤1000000) (ha:∀x∈a,x.path.length≤1000000∧x.lems.length≤1000000∧(∀m∈x.lems,m.proof.length≤1000000)∧x.proof.length≤1000000):PCalls Tryz.prog [] 14 [ensP a,ensP b] (bP (eqL enEq a b)):=by
 refine pcA [] Tryz.func14 (fun D=>?_);refine a2 (fun e10=>?_) (fun e10=>?_)
 ·have hn:=len_ne e10;exact ar (c:=congrArg bP (eqL_ne hn).symm)
 ·have hl:=len_eq e10;refine au ?_;refine pl (ι:={i:Nat // i≤a.length∧∀j,j < i→enEq (atZ a (j:Int)) (atZ b (j:Int))=true}) (fun i=>[(0,.pv (ensP a)),(1,.pv (ensP b)),(5,.pv (iP (i.1:Int)))]) (fun i=>[]) [] (fun i=>a.length - i.1) ⟨0,nq _,fun j hj=>absurd hj (Nat.not_lt_zero j)⟩ (ai Y (ai Y (ai Y trivial))) trivial (fun _=>rfl) ?_;intro ⟨i,hi0,hg⟩;refine a2 (fun e14=>?_) (fun e14=>?_)
  ·have hi:i < a.length:=lt_of e14;have hib:i < b.length:=hl▸hi;have hx:=ha _ (mg (get_of hi));refine ax (c:=(getmap (get_of hi))) ?_;refine ax (c:=(getmap (get_of hib))) ?_;refine ac (c:=r_samepath _ _ hx.1) ?_;refine a2 (fun e29=>?_) (fun e29=>?_)
   ·replace e29:=not_t e29;exact ar (c:=congrArg bP (eqL_bad hi (by simp only[enEq,e10,e14,e29,sb])).symm)
   ·replace e29:=not_f e29;refine ax (c:=(getmap (get_of hi))) ?_;refine ax (c:=(getmap (get_of hib))) ?_;refine ac (c:=r_samenode _ _ _ _ _ _ hx.2.1 hx.2.2.1 hx.2.2.2) ?_;refine a2 (fun e42=>?_) (fun e42=>?_)
    ·exact ar (c:=congrArg bP (eqL_bad hi (by simp only[Bool.not_eq_true',Bool.not_eq_false'] at e42;simp only[enEq,e10,e14,e29,e42,sb])).symm)
    ·refine aa (c:=ari_succ (by show i≤_;omega)) ?_;refine au ?_;exact pe ⟨i+1,hi,upto_succ (p:=fun j=>enEq (atZ a (j:Int)) (atZ b (j:Int))=true) hg (by simp only[Bool.not_eq_true',Bool.not_eq_false'] at e42;simp only[enEq,e10,e14,e29,e42,sb])⟩ (ai Y (ai Y (ai Y trivial))) trivial Y (by show a.length - (i+1) < a.length - i;omega)
  ·have hj:a.length≤i:=ge_of e14;exact ar (c:=congrArg bP (eqL_ok hl hj hg).symm)
theorem r_grow0T {s:Sc} {a b:Nat} (h:GrowOk a b 0 s) (hv:∀p∈s.q.g.units,∀t∈p.terms,0≤t.1∧t.1≤1000) (hg:s.q.goal.S 3 8) (hgv:∀t∈s.q.goal.terms,0≤t.1∧t.1≤1000):PCalls Tryz.prog TF 25 [scP s,iP 0,bP true] (.tup [ndP (growR 0 s true).1,ratP (growR 0 s true).2]):=by
 have hb:(boundedR s).Va a b:=h _ (nr _);have hq:(boundedR s).q=s.q:=(bounded_q s _).1;have hlen:=bounded_len s s.q.g.units.length;refine pcA [85,46,35,42] Tryz.func25 (fun D=>?_);refine akT (c:=by exact (show _=true from rfl)) ?_;refine ac (c:=r_bounded h hv) ?_;refine ac (c:=r_above hb hg hgv) ?_;refine au ?_;refine ro0 Y Y Y (fun hd=>opE_sub tab_ok Y Y Y (.inr ⟨_,rfl,show _=some (SV.pv (iP ((0:Nat):Int))) from rfl⟩) (.inl ⟨rfl,rfl⟩) (by rw[List.length_map];exact nq _) (nr _) Y dx hd) ?_;exact ar (c:=by rw[List.take_length,← List.map_drop];rfl)
theorem r_grow0F {s:Sc} {a b:Nat} (h:GrowOk a b 0 s) (hv:∀p∈s.q.g.units,∀t∈p.terms,0≤t.1∧t.1≤1000) (hg:s.q.goal.S 3 8) (hgv:∀t∈s.q.goal.terms,0≤t.1∧t.1≤1000):PCalls Tryz.prog TF 25 [scP s,iP 0,bP false] (.tup [ndP (growR 0 s false).1,ratP (growR 0 s false).2]):=by
 have hb:(boundedR s).Va a b:=h _ (nr _);have hq:(boundedR s).q=s.q:=(bounded_q s _).1;have hlen:=bounded_len s s.q.g.units.length;refine pcA [85,46,35,42] Tryz.func25 (fun D=>?_);refine akT (c:=by exact (show _=true from rfl)) ?_;refine ac (c:=r_bounded h hv) ?_;refine ac (c:=r_above hb hg hgv) ?_;refine au ?_;refine ro0 Y Y Y (fun hd=>opE_sub tab_ok Y Y Y (.inr ⟨_,rfl,rfl⟩) (.inl ⟨rfl,rfl⟩) (by rw[List.length_map];rw[List.length_map];exact hlen) (nr _) Y dx hd) ?_;exact ar (c:=by rw[List.take_length,← List.map_drop];rw[List.length_map];rfl)
theorem r_growST {k:Nat} {s:Sc} (hp9:s.path.length≤100) (hk9:k≤1000) (ihA:PCalls Tryz.prog TF 25 [scP (s.dec 1 k),iP (k:Int),bP false] (.tup [ndP (growR k (s.dec 1 k) false).1,ratP (growR k (s.dec 1 k) false).2])) (ihB:PCalls Tryz.prog TF 25 [scP (s.dec 2 k),iP (k:Int),bP false] (.tup [ndP (growR k (s.dec 2 k) false).1,ratP (growR k (s.dec 2 k) false).2])) (hA:(growR k (s.dec 1 k) false).2.S 1000) (hB:(growR k (s.dec 2 k) false).2.S 1000):PCalls Tryz.prog TF 25 [scP s,iP ((k+1:Nat):Int),bP true] (.tup [ndP (growR (k+1) s true).1,ratP (growR (k+1) s true).2]):=by
 simp only[growR];unfold Sc.dec at*;rw[← scR_eq] at ihA ihB;generalize growR k ⟨s.q,s.path++[⟨1,(k:Int),Q.zero⟩],s.lems⟩ false=A at*;generalize growR k ⟨s.q,s.path++[⟨2,(k:Int),Q.zero⟩],s.lems⟩ false=B at*;obtain⟨⟨l1,d1,k1,e1,p1⟩,v1⟩:=A;obtain⟨⟨l2,d2,k2,e2,p2⟩,v2⟩:=B;simp only at hA hB;refine pcA [85,46,35,42] Tryz.func25 (fun D=>?_);refine akF (c:=by exact (show _=false from beq_eq_false_iff_ne.2 om)) ?_;refine aa (c:=ari_back om) ?_;refine aa (c:=ari_back om) ?_;refine au ?_;refine rp0 el_Decision (by simp;omega) Y Y Y Y Y Y Y Y ?_;refine au ?_;refine rp0 el_Decision (by simp;omega) Y Y Y Y Y Y Y Y ?_;refine aa (c:=ari_back om) ?_;refine ac (c:=ihA) ?_;refine au ?_;refine rp0 el_Decision (by simp;omega) Y Y Y Y Y Y Y Y ?_;refine au ?_;refine rp0 el_Decision (by simp;omega) Y Y Y Y Y Y Y Y ?_;refine aa (c:=ari_back om) ?_;refine ac (c:=ihB) ?_;refine ac (c:=r_min (hA.sm dx) (hB.sm dx) hA.ok hB.neg.ok ((hA.add hB.neg).sm dx)) ?_;exact ar (c:=rfl)
theorem r_growSF {k:Nat} {s:Sc} (hp9:s.path.length≤100) (hk9:k≤1000) (ihA:PCalls Tryz.prog TF 25 [scP (s.dec 1 k),iP (k:Int),bP false] (.tup [ndP (growR k (s.dec 1 k) false).1,ratP (growR k (s.dec 1 k) false).2])) (ihB:PCalls Tryz.prog TF 25 [scP (s.dec 2 k),iP (k:Int),bP false] (.tup [ndP (growR k (s.dec 2 k) false).1,ratP (growR k (s.dec 2 k) false).2])) (hA:(growR k (s.dec 1 k) false).2.S 1000) (hB:(growR k (s.dec 2 k) false).2.S 1000):PCalls Tryz.prog TF 25 [scP s,iP ((k+1:Nat):Int),bP false] (.tup [ndP (growR (k+1) s false).1,ratP (growR (k+1) s false).2]):=by
 simp only[growR];unfold Sc.dec at*;rw[← scR_eq] at ihA ihB;generalize growR k ⟨s.q,s.path++[⟨1,(k:Int),Q.zero⟩],s.lems⟩ false=A at*;generalize growR k ⟨s.q,s.path++[⟨2,(k:Int),Q.zero⟩],s.lems⟩ false=B at*;obtain⟨⟨l1,d1,k1,e1,p1⟩,v1⟩:=A;obtain⟨⟨l2,d2,k2,e2,p2⟩,v2⟩:=B;simp only at hA hB;refine pcA [85,46,35,42] Tryz.func25 (fun D=>?_);refine akF (c:=by exact (show _=false from beq_eq_false_iff_ne.2 om)) ?_;refine aa (c:=ari_back om) ?_;refine aa (c:=ari_back om) ?_;refine au ?_;refine rp0 el_Decision (by simp;omega) Y Y Y Y Y Y Y Y ?_;refine au ?_;refine rp0 el_Decision (by simp;omega) Y Y Y Y Y Y Y Y ?_;refine aa (c:=ari_back om) ?_;refine ac (c:=ihA) ?_;refine au ?_;refine rp0 el_Decision (by simp;omega) Y Y Y Y Y Y Y Y ?_;refine au ?_;refine rp0 el_Decision (by simp;omega) Y Y Y Y Y Y Y Y ?_;refine aa (c:=ari_back om) ?_;refine ac (c:=ihB) ?_;refine ac (c:=r_min (hA.sm dx) (hB.sm dx) hA.ok hB.neg.ok ((hA.add hB.neg).sm dx)) ?_;exact ar (c:=rfl)
theorem r_growF:∀(k:Nat) {s:Sc} {a b:Nat},k≤1000→GrowOk a b k s→(∀p∈s.q.g.units,∀t∈p.terms,0≤t.1∧t.1≤1000)→s.q.goal.S 3 8→(∀t∈s.q.goal.terms,0≤t.1∧t.1≤1000)→PCalls Tryz.prog TF 25 [scP s,iP (k:Int),bP false] (.tup [ndP (growR k s false).1,ratP (growR k s false).2])
 | 0,s,a,b,hk,h,hv,hg,hgv=>r_grow0F h hv hg hgv
 | k+1,s,a,b,hk,h,hv,hg,hgv=>r_growSF h.2.2.2.2 om (r_growF k om h.1 hv hg hgv) (r_growF k om h.2.1 hv hg hgv) h.2.2.1 h.2.2.2.1
theorem r_growT {k:Nat} {s:Sc} {a b:Nat} (hk:k≤1000) (h:GrowOk a b k s) (hv:∀p∈s.q.g.units,∀t∈p.terms,0≤t.1∧t.1≤1000) (hg:s.q.goal.S 3 8) (hgv:∀t∈s.q.goal.terms,0≤t.1∧t.1≤1000):PCalls Tryz.prog TF 25 [scP s,iP (k:Int),bP true] (.tup [ndP (growR k s true).1,ratP (growR k s true).2]):=by
 cases k with
 | zero=>exact r_grow0T h hv hg hgv
 | succ k=>exact r_growST h.2.2.2.2 om (r_growF k om h.1 hv hg hgv) (r_growF k om h.2.1 hv hg hgv) h.2.2.1 h.2.2.2.1
def spC (u:Nat):Q:=quot (decide (((u % 7:Nat):Int) - 3 < 0)) (((u % 7:Nat):Int) - 3).natAbs 2
theorem spC_S (u:Nat):(spC u).S 1:=by
 have h:(((u % 7:Nat):Int) - 3).natAbs < 10:=by omega
 have h1:(limbs (((u % 7:Nat):Int) - 3).natAbs).length≤1:=limbs_len_le (nk h dx);exact quot_S _ h1 dx (limbs_len_le (k:=1) dx)
def spM (p:List Mm) (i:Nat) (c:Q):List Mm:=p.set i ((atZ p (i:Int)).1,Q.add (atZ p (i:Int)).2 c)
def spL (l:List Lm) (i:Nat) (c:Q):List Lm:=l.set i ⟨(atZ l (i:Int)).unit,(atZ l (i:Int)).upper,Q.add (atZ l (i:Int)).value c,(atZ l (i:Int)).proof⟩
def spN:Nat→Nd→Nat→Nd
 | 0,.mk ls d ks e p,u=>bif decide (0 < (p.length:Int))&&decide (((u % 4:Nat):Int) < 2) then .mk ls d ks e (spM p (u / 4 % p.length) (spC u)) else bif decide (0 < (ls.length:Int)) then .mk (spL ls (u / 4 % ls.length) (spC u)) d ks e p else .mk ls d ks e p
 | k+1,.mk ls d ks e p,u=>match ks[u % 2]? with
  | some c=>.mk ls d (ks.set (u % 2) (spN k c (u / 2))) e p
  | none=>.mk ls d ks e p
theorem kidC {ks:List Nd} {i:Nat} {c:Nd} (h:ks[i]?=some c):(ndCs ks)[i]?=some (ndC c):=by rw[ndCs_map];exact getmap h
theorem spl_zero {α:Type} {l m:List α} (h:m.length=l.length):spl l 0 m=m:=by
 have:=spl_all m l [] (by simpa using h) rfl;simpa using this
theorem ndC_len (n:Nd):(ndC n).length=9:=by cases n;rfl
theorem kid_set {ks:List Nd} {i:Nat} {c c':Nd}:([]++ndCs ks).set i (spl (ndC c) 0 (ndC c'))=ndCs (ks.set i c'):=by
 rw[List.nil_append,spl_zero (by rw[ndC_len,ndC_len]),ndCs_map,ndCs_map,List.map_set]
theorem spM_map {p:List Mm} {i:Nat} {c:Q}:([]++p.map mmC).set i (spl (mmC (atZ p (i:Int))) 4 (qC (Q.add (atZ p (i:Int)).2 c)))=(spM p i c).map mmC:=by
 rw[List.nil_append,spM,List.map_set];rfl
theorem spL_map {p:List Lm} {i:Nat} {c:Q}:([]++p.map lmC).set i (spl (lmC (atZ p (i:Int))) 2 (qC (Q.add (atZ p (i:Int)).value c)))=(spL p i c).map lmC:=by
 rw[List.nil_append,spL,List.map_set];rfl
theorem r_spS {ls:List Lm} {d:Dc} {ks:List Nd} {e:Bool} {p:List Mm} {u:Nat} {c c1:Nd} (h2:ks.length=2) (hc:ks[u % 2]?=some c) (hu:u < 65536) (ih:PCalls Tryz.prog TU 11 [ndP c,.raw (.int .u16 ((u / 2:Nat):Int))] (ndP c1)):PCalls Tryz.prog TU 11 [ndP (.mk ls d ks e p),.raw (.int .u16 (u:Int))] (ndP (.mk ls d (ks.set (u % 2) c1) e p)):=by
 have hk:=kidC hc;have hs:=kid_set (ks:=ks) (i:=u % 2) (c:=c) (c':=c1);have hl:([]++ndCs ks).length=2:=by rw[List.nil_append,ndCs_map,List.length_map,h2]
 obtain⟨l1,d1,k1,e1,p1⟩:=c;obtain⟨l2,d2,k2,e2,p2⟩:=c1;refine pcA [46,35] Tryz.func11 (fun D=>?_);refine akT (c:=by exact (show _=true from by rw[show (ndCs ks).length=2 from hl];rfl)) ?_;refine rn Y (pi Y ?_);refine pr0 (qg 1 ?_);refine ro0 Y Y Y (fun hd=>opE_remZ Y Y Y dx (rem_u u 2) hd) ?_;refine ro0 Y Y Y (fun hd=>opE_convZ (ds:=.int .u16) (j:=.i64) Y Y (by kernel_rfl) (by kernel_rfl) (conv_u _ om) hd) ?_;refine au ?_;refine rp0 el_Node (by rw[show (ndCs ks).length=2 from hl];decide) Y Y Y Y Y Y Y Y ?_;refine ax (c:=hk) ?_;refine qg 2 ?_;refine ro0 Y Y Y (fun hd=>opE_quoZ Y Y Y dx (quo_u u 2 hu) hd) ?_;refine ac (c:=ih) ?_;refine ro0 Y Y Y (fun hd=>opE_idxE (i:=u % 2) tab_ok Y Y Y Y Y Y dx Y hk hd) ?_;refine ro0 Y Y Y (fun hd=>opE_storeN (i:=u % 2) (j:=0) tab_ok Y Y Y Y Y Y Y Y hk Y (nr 9) Y Y Y) ?_;exact ar (c:=congrArg (fun x=>PV.agg [lmsP ls,iP d.kind,iP d.index,bP d.at_.neg,.nat d.at_.num,.nat d.at_.den,.rows 46 9 ndT x,bP e,mmsP p]) hs)
theorem r_spL {ls:List Lm} {d:Dc} {e:Bool} {p:List Mm} {u:Nat} (hu:u < 65536) (hp:∀m∈p,m.2.S 5000) (hl:∀m∈ls,m.value.S 5000) (p9:p.length≤100000) (l9:ls.length≤100000):PCalls Tryz.prog TU 11 [ndP (.mk ls d [] e p),.raw (.int .u16 (u:Int))] (ndP (spN 0 (.mk ls d [] e p) u)):=by
 have hc:=spC_S u;rw[spN];refine pcA [46,35,98,100] Tryz.func11 (fun D=>?_);refine akF (c:=by exact (show _=false from rfl)) ?_;refine rn Y (pj Y ?_);refine pk (pr0 (qg 1 ?_));refine ro0 Y Y Y (fun hd=>opE_remZ Y Y Y dx (rem_u u 7) hd) ?_;refine ro0 Y Y Y (fun hd=>opE_convZ (ds:=.int .u16) (j:=.i64) Y Y (by kernel_rfl) (by kernel_rfl) (conv_u _ om) hd) ?_;refine aa (c:=ari_sub om om om om) ?_;refine ac (c:=r_frac (((u % 7:Nat):Int) - 3) 2 om om dx dx) ?_;refine a2 (fun e48=>?_) (fun e48=>?_)
 ·rw[List.length_map] at e48;refine qg 1 ?_;refine ro0 Y Y Y (fun hd=>opE_remZ Y Y Y dx (rem_u u 4) hd) ?_;refine a2 (fun e52=>?_) (fun e52=>?_)
  ·have hp0:0 < p.length:=by have:=of_decide_eq_true e48;omega
   have hi:u / 4 % p.length < p.length:=Nat.mod_lt _ hp0;have hm:=hp _ (mg (get_of hi));refine pr0 (qg 1 ?_);refine ro0 Y Y Y (fun hd=>opE_quoZ Y Y Y dx (quo_u u 4 hu) hd) ?_;refine ro0 Y Y Y (fun hd=>opE_convZ (ds:=.int .u16) (j:=.i64) Y Y (by kernel_rfl) (by kernel_rfl) (conv_u _ om) hd) ?_;refine qg 3 ?_;refine ro0 Y Y Y (fun hd=>opE_remZ Y Y Y (by rw[List.length_map];omega) ((congrArg (fun n:Nat=>Int.tmod ((u / 4:Nat):Int) (n:Int)) (List.length_map ..)).trans (rem_u (u / 4) p.length)) hd) ?_;refine au ?_;refine rp0 el_Mult (by rw[List.length_map];exact nt (Nat.add_le_add_left p9 _) dx) Y Y Y Y Y Y Y Y ?_;refine qg 2 ?_;refine rn Y (pr0 (qg 6 ?_));refine ro0 Y Y Y (fun hd=>opE_idxE (i:=u / 4 % p.length) tab_ok Y Y Y Y Y Y dx Y (getmap (get_of hi)) hd) ?_;refine qg 1 ?_;refine ro0 Y Y Y (fun hd=>opE_loadN (i:=u / 4 % p.length) (j:=4) tab_ok Y Y Y Y Y Y (getmap (get_of hi)) Y dx hd) ?_;refine ac (c:=r_add (hm.sm dx) (hc.sm dx) hm.ok hc.ok) ?_;refine ro0 Y Y Y (fun hd=>opE_idxE (i:=u / 4 % p.length) tab_ok Y Y Y Y Y Y dx Y (getmap (get_of hi)) hd) ?_;refine qg 1 ?_;refine ro0 Y Y Y (fun hd=>opE_storeN (i:=u / 4 % p.length) (j:=4) tab_ok Y Y Y Y Y Y Y Y (getmap (get_of hi)) Y (nr 7) Y Y Y) ?_;exact ar (c:=by rw[e48,e52];exact congrArg (fun x=>PV.agg [lmsP ls,iP d.kind,iP d.index,bP d.at_.neg,.nat d.at_.num,.nat d.at_.den,.rows 46 9 ndT [],bP e,.rows 98 7 [200] x]) spM_map)
  ·refine a2 (fun e82=>?_) (fun e82=>?_)
   ·rw[List.length_map] at e82;have hp0:0 < ls.length:=by have:=of_decide_eq_true e82;omega
    have hi:u / 4 % ls.length < ls.length:=Nat.mod_lt _ hp0;have hm:=hl _ (mg (get_of hi));refine pr0 (qg 1 ?_);refine ro0 Y Y Y (fun hd=>opE_quoZ Y Y Y dx (quo_u u 4 hu) hd) ?_;refine ro0 Y Y Y (fun hd=>opE_convZ (ds:=.int .u16) (j:=.i64) Y Y (by kernel_rfl) (by kernel_rfl) (conv_u _ om) hd) ?_;refine qg 3 ?_;refine ro0 Y Y Y (fun hd=>opE_remZ Y Y Y (by rw[List.length_map];omega) ((congrArg (fun n:Nat=>Int.tmod ((u / 4:Nat):Int) (n:Int)) (List.length_map ..)).trans (rem_u (u / 4) ls.length)) hd) ?_;refine au ?_;refine rp0 el_Lemma (by rw[List.length_map];exact nt (Nat.add_le_add_left l9 _) dx) Y Y Y Y Y Y Y Y ?_;refine qg 2 ?_;refine rn Y (pr0' (qg 6 ?_));refine ro0 Y Y Y (fun hd=>opE_idxE (i:=u / 4 % ls.length) tab_ok Y Y Y Y Y Y dx Y (getmap (get_of hi)) hd) ?_;refine qg 1 ?_;refine ro0 Y Y Y (fun hd=>opE_loadN (i:=u / 4 % ls.length) (j:=2) tab_ok Y Y Y Y Y Y (getmap (get_of hi)) Y dx hd) ?_;refine ac (c:=r_add (hm.sm dx) (hc.sm dx) hm.ok hc.ok) ?_;refine ro0 Y Y Y (fun hd=>opE_idxE (i:=u / 4 % ls.length) tab_ok Y Y Y Y Y Y dx Y (getmap (get_of hi)) hd) ?_;refine qg 1 ?_;refine ro0 Y Y Y (fun hd=>opE_storeN (i:=u / 4 % ls.length) (j:=2) tab_ok Y Y Y Y Y Y Y Y (getmap (get_of hi)) Y (show 2+3≤6 from by decide) Y Y Y) ?_;exact ar (c:=by rw[e48,e52,e82];exact congrArg (fun x=>PV.agg [.rows 100 6 [200,98] x,iP d.kind,iP d.index,bP d.at_.neg,.nat d.at_.num,.nat d.at_.den,.rows 46 9 ndT [],bP e,mmsP p]) spL_map)
   ·rw[List.length_map] at e82;exact ar (c:=by rw[e48,e52,e82];rfl)
 ·rw[List.length_map] at e48;refine a2 (fun e82=>?_) (fun e82=>?_)
  ·rw[List.length_map] at e82;have hp0:0 < ls.length:=by have:=of_decide_eq_true e82;omega
   have hi:u / 4 % ls.length < ls.length:=Nat.mod_lt _ hp0;have hm:=hl _ (mg (get_of hi));refine pr0 (qg 1 ?_);refine ro0 Y Y Y (fun hd=>opE_quoZ Y Y Y dx (quo_u u 4 hu) hd) ?_;refine ro0 Y Y Y (fun hd=>opE_convZ (ds:=.int .u16) (j:=.i64) Y Y (by kernel_rfl) (by kernel_rfl) (conv_u _ om) hd) ?_;refine qg 3 ?_;refine ro0 Y Y Y (fun hd=>opE_remZ Y Y Y (by rw[List.length_map];omega) ((congrArg (fun n:Nat=>Int.tmod ((u / 4:Nat):Int) (n:Int)) (List.length_map ..)).trans (rem_u (u / 4) ls.length)) hd) ?_;refine au ?_;refine rp0 el_Lemma (by rw[List.length_map];exact nt (Nat.add_le_add_left l9 _) dx) Y Y Y Y Y Y Y Y ?_;refine qg 2 ?_;refine rn Y (pr0' (qg 6 ?_));refine ro0 Y Y Y (fun hd=>opE_idxE (i:=u / 4 % ls.length) tab_ok Y Y Y Y Y Y dx Y (getmap (get_of hi)) hd) ?_;refine qg 1 ?_;refine ro0 Y Y Y (fun hd=>opE_loadN (i:=u / 4 % ls.length) (j:=2) tab_ok Y Y Y Y Y Y (getmap (get_of hi)) Y dx hd) ?_;refine ac (c:=r_add (hm.sm dx) (hc.sm dx) hm.ok hc.ok) ?_;refine ro0 Y Y Y (fun hd=>opE_idxE (i:=u / 4 % ls.length) tab_ok Y Y Y Y Y Y dx Y (getmap (get_of hi)) hd) ?_;refine qg 1 ?_;refine ro0 Y Y Y (fun hd=>opE_storeN (i:=u / 4 % ls.length) (j:=2) tab_ok Y Y Y Y Y Y Y Y (getmap (get_of hi)) Y (show 2+3≤6 from by decide) Y Y Y) ?_;exact ar (c:=by rw[e48,e82];exact congrArg (fun x=>PV.agg [.rows 100 6 [200,98] x,iP d.kind,iP d.index,bP d.at_.neg,.nat d.at_.num,.nat d.at_.den,.rows 46 9 ndT [],bP e,mmsP p]) spL_map)
  ·rw[List.length_map] at e82;exact ar (c:=by rw[e48,e82];rfl)
theorem r_pos {q:Q} (h:q.neg=false) (h0:0 < q.num):0 < q.r:=by
 unfold Q.r;rw[h];simp only[sgnR,cond_false];have h1:(0:Rat) < (q.num:Rat):=by exact_mod_cast h0
 have h2:(0:Rat) < (q.un:Rat):=by exact_mod_cast q.un_pos
 rw[Rat.div_def];exact Rat.mul_pos h1 (Rat.inv_pos.2 h2)
theorem isg_le {q:Q} (h:q.r≤0):sgQ q≤0:=by
 apply Classical.byContradiction
 intro hc;obtain⟨h1,h2⟩:=isg_pos hc;have:=r_pos h1 h2
 grind
theorem abs_nonneg (q:Q):0≤q.abs.r:=by
 rcases Nat.eq_zero_or_pos q.num with h | h
 ·rw[num0_r (q:=q.abs) h];grind
 ·have:=r_pos (q:=q.abs) rfl h
  grind
theorem box_le (a q:Q):isg (Q.add a (Q.add a q.abs).neg').neg (Q.add a (Q.add a q.abs).neg').num≤0:=by
 refine isg_le (q:=Q.add a (Q.add a q.abs).neg') ?_;rw[Q.add_r,Q.neg_r,Q.add_r];have:=abs_nonneg q
 grind
theorem r_neg' {q:Q} (h:q.neg=true) (h0:0 < q.num):q.r < 0:=by
 have:q.r=-(Q.mk false q.num q.den).r:=by
  unfold Q.r;have:(Q.mk false q.num q.den).un=q.un:=rfl;rw[this,h];simp only[sgnR,cond_true,cond_false];grind
 have hp:=r_pos (q:=Q.mk false q.num q.den) rfl h0
 grind
theorem sign_cases (q:Q):(q.sign=0∧q.num=0)∨(q.sign=1∧q.neg=false∧0 < q.num)∨(q.sign=-1∧q.neg=true∧0 < q.num):=by
 unfold Q.sign;by_cases h:q.num=0
 ·left;exact⟨if_pos h,h⟩
 ·rw[if_neg h];cases hn:q.neg with
  | false=>right;left;exact⟨rfl,rfl,by omega⟩
  | true=>right;right;exact⟨rfl,rfl,by omega⟩
theorem lt_r {x y:Q} (hx:x.neg=false) (hy:y.neg=false) (h:y.num*x.un < x.num*y.un):y.r < x.r:=by
 have h1:=x.un_ne;have h2:=y.un_ne;have p1:(0:Rat) < (x.un:Rat):=by exact_mod_cast x.un_pos
 have p2:(0:Rat) < (y.un:Rat):=by exact_mod_cast y.un_pos
 have h3:((y.num*x.un:Nat):Rat) < ((x.num*y.un:Nat):Rat):=by exact_mod_cast h
 rw[Rat.natCast_mul,Rat.natCast_mul] at h3;have e:x.r - y.r=((x.num:Rat)*y.un - y.num*x.un)*((x.un:Rat)⁻¹*(y.un:Rat)⁻¹):=by
  unfold Q.r;rw[hx,hy];simp only[sgnR,cond_false]
  grind
 have:0 < x.r - y.r:=by
  rw[e];exact Rat.mul_pos (by grind) (Rat.mul_pos (Rat.inv_pos.2 p1) (Rat.inv_pos.2 p2))
 grind
theorem pos_neg_r {q:Q} (h:q.neg=true):q.r=-(Q.mk false q.num q.den).r:=by
 unfold Q.r;have:(Q.mk false q.num q.den).un=q.un:=rfl;rw[this,h];simp only[sgnR,cond_true,cond_false];grind
theorem cmp_le {x y:Q} (h:x.r≤y.r):Q.cmpQ x y≤0:=by
 unfold Q.cmpQ;split
 ·decide
 ·rename_i g1
  split
  ·rename_i g2
   exfalso
   rcases sign_cases x with ⟨a1,a2⟩ | ⟨a1,a2,a3⟩ | ⟨a1,a2,a3⟩<;>rcases sign_cases y with ⟨b1,b2⟩ | ⟨b1,b2,b3⟩ | ⟨b1,b2,b3⟩<;>first | omega | skip
   ·have:=num0_r a2;have:=r_neg' b2 b3;grind
   ·have:=r_pos a2 a3;have:=num0_r b2;grind
   ·have:=r_pos a2 a3;have:=r_neg' b2 b3;grind
  ·rename_i g2
   rcases sign_cases x with ⟨a1,a2⟩ | ⟨a1,a2,a3⟩ | ⟨a1,a2,a3⟩<;>rcases sign_cases y with ⟨b1,b2⟩ | ⟨b1,b2,b3⟩ | ⟨b1,b2,b3⟩<;>first | omega | skip
   ·rw[a2,b2,Nat.zero_mul,Nat.zero_mul];simp[cmpI,isg,cmpN]
   ·have pa:=Nat.mul_pos a3 y.un_pos;have pb:=Nat.mul_pos b3 x.un_pos;unfold Q.sg;rw[a2,b2];simp only[Bool.false_and];unfold cmpI isg;rw[if_neg (Nat.ne_of_gt pa),if_neg (Nat.ne_of_gt pb)];simp only[Bool.false_eq_true,if_false];rw[if_neg om,if_neg om,if_neg om];unfold cmpN;split
    ·decide
    ·split
     ·rename_i hlt
      exfalso
      have:=lt_r a2 b2 hlt
      grind
     ·decide
   ·have pa:=Nat.mul_pos a3 y.un_pos;have pb:=Nat.mul_pos b3 x.un_pos;unfold Q.sg;rw[a2,b2,dt a3,dt b3,dt pa,dt pb];simp only[Bool.and_self];unfold cmpI isg;rw[if_neg (Nat.ne_of_gt pa),if_neg (Nat.ne_of_gt pb)];simp only[if_true];rw[if_neg om,if_neg om,if_pos om];unfold cmpN;split
    ·decide
    ·split
     ·rename_i hlt
      exfalso
      have:=lt_r (x:=Q.mk false y.num y.den) (y:=Q.mk false x.num x.den) rfl rfl hlt;rw[pos_neg_r a2,pos_neg_r b2] at h
      grind
     ·decide
theorem boxQ_spec:∀(n:Nat) (r:List Nat),(boxQ n r).1.1.length=n∧(boxQ n r).1.2.length=n∧∀(i:Nat) (a b:Q),(boxQ n r).1.1[i]?=some a→(boxQ n r).1.2[i]?=some b→a.Qt∧∃q:Q,q.Qt∧b=Q.add a q.abs
 | 0,r=>⟨rfl,rfl,fun i a b h=>by simp[boxQ] at h⟩
 | n+1,r=>by
  rw[boxQ_succ];obtain⟨h1,h2,h3⟩:=boxQ_spec n (numQ (numQ r).2).2;refine⟨by simp[h1],by simp[h2],fun i a b ha hb=>?_⟩;cases i with
  | zero=>simp at ha hb;subst ha hb;exact⟨numQ_qt _,_,numQ_qt _,rfl⟩
  | succ i=>exact h3 i a b (by simpa using ha) (by simpa using hb)
theorem unitsQ_form:∀(n v:Nat) (r:List Nat) (f:Fm),f∈(unitsQ n v r).1→∃v' r',f=(formQ v' r').1
 | 0,v,r,f,h=>by cases h
 | n+1,v,r,f,h=>by
  have h:f∈(formQ v r).1::(unitsQ n (v+1) (formQ v r).2).1:=h;rcases List.mem_cons.1 h with e | e
  ·exact⟨_,_,e⟩
  ·exact unitsQ_form n _ _ f e
theorem form_dz {f:Fm} {v n:Nat} {r:List Nat} (he:f=(formQ v r).1) (h:f.Ok n):f.Dz n 16:=by
 subst he;have hq:=formQ_qt v r;exact⟨fun t ht=>⟨qt_rz (hq.each t ht),(h.each t ht).1,(h.each t ht).2.1⟩,qt_rz hq.const⟩
theorem rz_S2 {q:Q} {D M:Nat} (h:q.Ok) (hz:Rz q.r D M) (hD:0 < D) (hD9:D < 18446744073709551616) (hM:M < 18446744073709551616):q.S 2:=Q.Dz.S ⟨h,hz⟩ hD hD9 hM
theorem region_va (n:Nat) (r:List Nat) (h0:1≤n) (h9:n≤3):(regionQ n r).1.Va n 2∧(∀q∈(regionQ n r).1.lo,Rz q.r 4 32)∧∀q∈(regionQ n r).1.hi,Rz q.r 4 32:=by
 obtain⟨h1,h2,h3⟩:=boxQ_spec n r;have lo:∀q∈(boxQ n r).1.1,q.Qt:=fun q hq=>by
  obtain⟨i,hi,rfl⟩:=List.mem_iff_getElem.1 hq;exact (h3 i _ _ (ge hi) (ge om)).1
 have hi:∀q∈(boxQ n r).1.2,q.Ok∧Rz q.r 4 32:=fun q hq=>by
  obtain⟨i,hi,rfl⟩:=List.mem_iff_getElem.1 hq;obtain⟨a1,p,a2,a3⟩:=h3 i _ _ (ge om) (ge hi);rw[a3];exact⟨Q.add_ok ..,by rw[Q.add_r];exact (qt_rz a1).add (Rz.abs (qt_rz a2))⟩
 refine⟨⟨h0,by omega,h1,h2,fun q hq=>rz_S2 (lo q hq).ok (qt_rz (lo q hq)) dx dx dx,fun q hq=>rz_S2 (hi q hq).1 (hi q hq).2 dx dx dx,fun i a b ha hb=>?_,?_,fun f hf=>?_,by decide⟩,fun q hq=>(qt_rz (lo q hq)).up dx,fun q hq=>(hi q hq).2⟩
 ·obtain⟨_,p,_,rfl⟩:=h3 i a b ha hb;refine⟨box_le a p,cmp_le ?_⟩;rw[Q.add_r];have:=abs_nonneg p
  grind
 ·show (outsQ _ _ _).1.length≤256;rw[outsQ_len];have:=nx_lt (n:=3) dx (boxQ n r).2;omega
 ·have:=outsQ_all _ _ _ f hf;exact⟨this.ok,(smallF_S this).up dx (nr _)⟩
theorem query_va (r:List Nat):(queryQ r).1.Va 2∧(∀p∈(queryQ r).1.g.units,p.Dz ((queryQ r).1.g.inputs+(queryQ r).1.g.units.length) 16)∧(queryQ r).1.goal.Dz ((queryQ r).1.g.inputs+(queryQ r).1.g.units.length) 16∧(queryQ r).1.g.inputs≤3∧(queryQ r).1.g.units.length≤4:=by
 have hg:=graphQ_ok r;obtain⟨h1,h2,h3⟩:=region_va (graphQ r).1.inputs (graphQ r).2 hg.i0 hg.i9;have hgoal:=formQ_small ((graphQ r).1.inputs+(graphQ r).1.units.length) (regionQ (graphQ r).1.inputs (graphQ r).2).2;have hu:∀f∈(graphQ r).1.units,f.Ok ((graphQ r).1.inputs+(graphQ r).1.units.length)∧f.S 2 ((graphQ r).1.inputs+(graphQ r).1.units.length):=fun f hf=>by
  obtain⟨j,hj,rfl⟩:=List.mem_iff_getElem.1 hf;have hs:=hg.us j _ (ge hj);exact⟨hs.ok.mono om,(smallF_S hs).up dx om⟩
 refine⟨⟨hg.va,fun f hf=>(hu f hf).2,h1,hgoal.ok,(smallF_S hgoal).up dx (nr _)⟩,fun p hp=>?_,form_dz rfl hgoal.ok,hg.i9,hg.u9⟩;obtain⟨v',r',e⟩:=unitsQ_form _ _ _ p hp;exact form_dz e (hu p hp).1
theorem scope_va (r:List Nat):(⟨(queryQ r).1,[],[]⟩:Sc).Va 2 3∧(⟨(queryQ r).1,[],[]⟩:Sc).Dz 4 32:=by
 obtain⟨h1,h2,h3,h4,h5⟩:=query_va r;have hg:=graphQ_ok r;obtain⟨_,g2,g3⟩:=region_va (graphQ r).1.inputs (graphQ r).2 hg.i0 hg.i9;exact⟨⟨h1,fun d hd=>(by cases hd),nq _,fun m hm=>(by cases hm),nq _,by decide,by decide,nr _,by show (queryQ r).1.g.inputs+(queryQ r).1.g.units.length≤8;omega⟩,⟨g2,g3,fun m hm=>(by cases hm)⟩⟩
theorem nums1:∀u,u < 5→∀j,j < u+1→4 ^ j*4 < 79228162514264337593543950336∧MM 4 32 j < 79228162514264337593543950336:=by decide
theorem nums2:∀u,u < 5→(∀j,j < u+1→MM (4 ^ u*4) (MM 4 32 u) j < 79228162514264337593543950336)∧4*(4 ^ u*(4 ^ u*4))*1 < 79228162514264337593543950336∧79228162514264337593543+8*(16*MM (4 ^ u*4) (MM 4 32 u) u)*1 < 79228162514264337593543950336:=by decide
def scope1 (q:Qr):Sc:=boundedR ⟨q,[],[]⟩
theorem grow_in {q:Qr} {K:Nat} (h:(⟨q,[],[]⟩:Sc).Va 2 3) (hz:(⟨q,[],[]⟩:Sc).Dz 4 32) (hu:∀p∈q.g.units,p.Dz (q.g.inputs+q.g.units.length) 16) (hg:∀t∈q.goal.terms,Rz t.2.r 4 16∧0≤t.1∧t.1 < ((q.g.inputs+q.g.units.length:Nat):Int)) (u4:q.g.units.length≤4) (hc:Rz q.goal.const.r (4*(4 ^ q.g.units.length*(4 ^ q.g.units.length*4))*1) K) (hK:K≤79228162514264337593543):GrowIn (scope1 q) 2 (4 ^ q.g.units.length*4) (MM 4 32 q.g.units.length) 1 K:=by
 have n1:=nums1 q.g.units.length om q.g.units.length om;obtain⟨n2,n3,n4⟩:=nums2 q.g.units.length om;obtain⟨v,z,l⟩:=bounded_dz (s:=⟨q,[],[]⟩) h (nq _) hz hu dx q.g.units.length (nr _) n1.1 n1.2;have hq:(scope1 q).q=q:=(bounded_q ⟨q,[],[]⟩ q.g.units.length).1;refine⟨v,?_,z,by rw[hq];exact hu,Nat.mul_pos (Nat.pow_pos dx) dx,by rw[hq];exact hg,by rw[hq];exact nt h.q.goal.len h.n9,by rw[hq];exact hc,by decide,by rw[hq];exact n3,fun j hj=>?_,by rw[hq];omega⟩
 ·have:(scope1 q).lems.length≤0+2*q.g.units.length:=l;omega
 ·rw[hq] at hj;exact n2 j om
def splitsQ (L:List Nat) (units:Nat):Nat:=if 0 < L.length then min (atZ L ((L.length - 1:Nat):Int) % 3) units else 0
def Qr.raise (q:Qr) (least:Q):Qr:=⟨q.g,q.rg,⟨q.goal.terms,Q.add q.goal.const least.neg'⟩⟩
def treeQ (L:List Nat):Qr:=
 bif decide (sgQ (growR (splitsQ L (queryQ L).1.g.units.length) (scope1 (queryQ L).1) true).2 < 0) then (queryQ L).1.raise (growR (splitsQ L (queryQ L).1.g.units.length) (scope1 (queryQ L).1) true).2 else (queryQ L).1
def treeN (L:List Nat):Nd:=(growR (splitsQ L (queryQ L).1.g.units.length) (scope1 (treeQ L)) true).1
theorem nums3:∀u,u < 5→16*(4 ^ u*(4 ^ u*4)*1)+(16*(4 ^ u*(4 ^ u*4)*1)+8*(16*MM (4 ^ u*4) (MM 4 32 u) u)*1)≤79228162514264337593543:=by decide
theorem tree_in1 (L:List Nat):GrowIn (scope1 (queryQ L).1) 2 (4 ^ (queryQ L).1.g.units.length*4) (MM 4 32 (queryQ L).1.g.units.length) 1 (16*(4 ^ (queryQ L).1.g.units.length*(4 ^ (queryQ L).1.g.units.length*4)*1)):=by
 obtain⟨h1,h2,h3,h4,h5⟩:=query_va L;obtain⟨s1,s2⟩:=scope_va L;have n3:=nums3 (queryQ L).1.g.units.length om;refine grow_in s1 s2 h2 h3.each h5 ?_ om;have:=h3.const.scale (4 ^ (queryQ L).1.g.units.length*(4 ^ (queryQ L).1.g.units.length*4)*1);rw[← Nat.mul_assoc] at this;exact this
theorem scope1_q (q:Qr):(scope1 q).q=q∧(scope1 q).path=[]:=bounded_q ⟨q,[],[]⟩ _
theorem splits_le (L:List Nat) (n:Nat):splitsQ L n≤n:=by
 unfold splitsQ;split
 ·exact Nat.min_le_right _ _
 ·exact nq _
theorem tree_one (L:List Nat):GrowOk 2 3 (splitsQ L (queryQ L).1.g.units.length) (scope1 (queryQ L).1)∧(growR (splitsQ L (queryQ L).1.g.units.length) (scope1 (queryQ L).1) true).2.S 3∧Rz (growR (splitsQ L (queryQ L).1.g.units.length) (scope1 (queryQ L).1) true).2.r (4*(4 ^ (queryQ L).1.g.units.length*(4 ^ (queryQ L).1.g.units.length*4))*1) (16*(4 ^ (queryQ L).1.g.units.length*(4 ^ (queryQ L).1.g.units.length*4)*1)+8*(16*MM (4 ^ (queryQ L).1.g.units.length*4) (MM 4 32 (queryQ L).1.g.units.length) (queryQ L).1.g.units.length)*1):=by
 have h:=tree_in1 L;obtain⟨_,_,_,_,h5⟩:=query_va L;have:=GrowIn.ok dx (splitsQ L (queryQ L).1.g.units.length) (root:=true) h (by
  rw[(scope1_q _).2];have:=splits_le L (queryQ L).1.g.units.length;show 0+_≤100;omega)
 rw[(scope1_q _).1] at this;exact this
theorem treeQ_same (L:List Nat):(treeQ L).g=(queryQ L).1.g∧(treeQ L).rg=(queryQ L).1.rg∧(treeQ L).goal.terms=(queryQ L).1.goal.terms:=by
 unfold treeQ;cases decide (sgQ (growR (splitsQ L (queryQ L).1.g.units.length) (scope1 (queryQ L).1) true).2 < 0)<;>exact⟨rfl,rfl,rfl⟩
theorem tree_two (L:List Nat):(⟨treeQ L,[],[]⟩:Sc).Va 2 3∧(⟨treeQ L,[],[]⟩:Sc).Dz 4 32∧GrowOk 2 3 (splitsQ L (queryQ L).1.g.units.length) (scope1 (treeQ L))∧(treeQ L).goal.S 3 8:=by
 obtain⟨q1,q2,q3,q4,q5⟩:=query_va L;obtain⟨s1,s2⟩:=scope_va L;obtain⟨g1,g2,g3⟩:=tree_one L;have n3:=nums3 (queryQ L).1.g.units.length om;have n2:=(nums2 (queryQ L).1.g.units.length om).2.1;obtain⟨e1,e2,e3⟩:=treeQ_same L;have h16:Rz (queryQ L).1.goal.const.r (4*(4 ^ (queryQ L).1.g.units.length*(4 ^ (queryQ L).1.g.units.length*4))*1) (16*(4 ^ (queryQ L).1.g.units.length*(4 ^ (queryQ L).1.g.units.length*4)*1)):=by
  have:=q3.const.scale (4 ^ (queryQ L).1.g.units.length*(4 ^ (queryQ L).1.g.units.length*4)*1);rw[← Nat.mul_assoc] at this;exact this
 have hc:(treeQ L).goal.const.S 3∧Rz (treeQ L).goal.const.r (4*(4 ^ (queryQ L).1.g.units.length*(4 ^ (queryQ L).1.g.units.length*4))*1) 79228162514264337593543:=by
  unfold treeQ;cases decide (sgQ (growR (splitsQ L (queryQ L).1.g.units.length) (scope1 (queryQ L).1) true).2 < 0) with
  | false=>exact⟨q1.goal.const.ok |> fun ho=>rz_S ho h16 (Nat.mul_pos (Nat.mul_pos dx (Nat.mul_pos (Nat.pow_pos dx) (Nat.mul_pos (Nat.pow_pos dx) dx))) dx) n2 om,h16.up om⟩
  | true=>
   have hr:Rz (Q.add (queryQ L).1.goal.const (growR (splitsQ L (queryQ L).1.g.units.length) (scope1 (queryQ L).1) true).2.neg').r (4*(4 ^ (queryQ L).1.g.units.length*(4 ^ (queryQ L).1.g.units.length*4))*1) 79228162514264337593543:=by
    rw[Q.add_r,Q.neg_r];exact (h16.add g3.neg).up n3
   exact⟨rz_S (Q.add_ok ..) hr (Nat.mul_pos (Nat.mul_pos dx (Nat.mul_pos (Nat.pow_pos dx) (Nat.mul_pos (Nat.pow_pos dx) dx))) dx) n2 dx,hr⟩
 have hgS:(treeQ L).goal.S 3 8:=⟨⟨by rw[e3];exact q1.goal.cn.srt,by rw[e3];exact q1.goal.cn.nz,hc.1.ok⟩,fun t ht=>by
  rw[e3] at ht;exact tq_S (q3.each t ht).1 (q1.goal.each t ht).ok,hc.1,by rw[e3];exact nt q1.goal.len (by show (queryQ L).1.g.inputs+(queryQ L).1.g.units.length≤8;omega)⟩
 have hva:(⟨treeQ L,[],[]⟩:Sc).Va 2 3:=by
  refine⟨⟨by rw[e1];exact q1.g,by rw[e1];exact q1.us,by rw[e1,e2];exact q1.rg,⟨by rw[e3];exact q1.ok.asc,by rw[e3,e1];exact q1.ok.each,hc.1.ok⟩,⟨hgS.cn,fun t ht=>(hgS.each t ht).up dx,hc.1.up dx,by rw[e3,e1];exact q1.goal.len⟩⟩,fun d hd=>(by cases hd),nq _,fun m hm=>(by cases hm),nq _,by decide,by decide,nr _,by show (treeQ L).g.inputs+(treeQ L).g.units.length≤8;rw[e1];omega⟩
 have hdz:(⟨treeQ L,[],[]⟩:Sc).Dz 4 32:=⟨by show ∀q∈(treeQ L).rg.lo,_;rw[e2];exact s2.lo,by show ∀q∈(treeQ L).rg.hi,_;rw[e2];exact s2.hi,fun m hm=>(by cases hm)⟩;refine⟨hva,hdz,?_,hgS⟩;have gi:=grow_in hva hdz (by rw[e1];exact q2) (by rw[e3,e1];exact q3.each) (by rw[e1];exact q5) (by rw[e1];exact hc.2) (nr _);exact (GrowIn.ok dx (splitsQ L (queryQ L).1.g.units.length) (root:=true) gi (by
  rw[(scope1_q _).2];have:=splits_le L (queryQ L).1.g.units.length;show 0+_≤100;omega)).1
where
 tq_S {q:Q} (h:Rz q.r 4 16) (ho:q.Ok):q.S 3:=rz_S ho h dx dx dx
theorem splits_of {L:List Nat} {n:Nat} (h:0 < L.length):(if (n:Int) < IntKind.wrap .i64 (((atZ L ((L.length - 1:Nat):Int):Nat):Int).tmod 3) then (n:Int) else IntKind.wrap .i64 (((atZ L ((L.length - 1:Nat):Int):Nat):Int).tmod 3))=(splitsQ L n:Int):=by
 have e:IntKind.wrap .i64 (((atZ L ((L.length - 1:Nat):Int):Nat):Int).tmod 3)=((atZ L ((L.length - 1:Nat):Int) % 3:Nat):Int):=by
  generalize atZ L ((L.length - 1:Nat):Int)=b;have:((b:Int).tmod 3)=((b % 3:Nat):Int):=by rw[Int.tmod_eq_emod_of_nonneg om];omega
  rw[this,i64_wrap om om]
 rw[e];unfold splitsQ;rw[if_pos h];split<;>omega
theorem splits_0 {L:List Nat} {n:Nat} (h:L.length=0):(0:Int)=(splitsQ L n:Int):=by
 unfold splitsQ;rw[if_neg om];rfl
theorem bd_va {q:Qr} (h:(⟨q,[],[]⟩:Sc).Va 2 3) (hz:(⟨q,[],[]⟩:Sc).Dz 4 32) (hu:∀p∈q.g.units,p.Dz (q.g.inputs+q.g.units.length) 16) (u4:q.g.units.length≤4):∀j,j≤q.g.units.length→(boundedN ⟨q,[],[]⟩ j).Va 2 3:=fun j hj=>by
 have n1:=nums1 q.g.units.length om j om;exact (bounded_dz (s:=⟨q,[],[]⟩) h (nq _) hz hu dx j hj n1.1 n1.2).1
theorem dz_vars {f:Fm} {n M:Nat} (h:f.Dz n M) (hn:n≤1000):∀t∈f.terms,0≤t.1∧t.1≤1000:=fun t ht=>by
 have:=(h.each t ht).2;omega
theorem goal3 (L:List Nat):(queryQ L).1.goal.S 3 8:=by
 obtain⟨q1,q2,q3,q4,q5⟩:=query_va L;refine⟨q1.goal.cn,fun t ht=>rz_S (q1.goal.each t ht).ok (q3.each t ht).1 dx dx dx,rz_S q1.goal.const.ok q3.const dx dx dx,nt q1.goal.len om⟩
theorem r_tree {A:Option Addr} {k:Nat} {L:List Nat} (hl:∀y∈L,y < 256) (hn:L.length≤1000):PCallsW (By ⟨A,L.length,k⟩ L) Tryz.prog TQ 9 [.raw (.slice A L.length k)] (.tup [qyP (treeQ L),ndP (treeN L)]):=by
 obtain⟨q1,q2,q3,q4,q5⟩:=query_va L;obtain⟨s1,s2⟩:=scope_va L;obtain⟨g1,g2,g3⟩:=tree_one L;obtain⟨v1,v2,v3,v4⟩:=tree_two L;obtain⟨t1,t2,t3⟩:=treeQ_same L;have hi:=r_instance (x:=⟨A,L.length,k⟩) hl hn;have hsp:=splits_le L (queryQ L).1.g.units.length;have hb1:=r_bounded (s:=⟨(queryQ L).1,[],[]⟩) (bd_va s1 s2 q2 q5) (fun p hp=>dz_vars (q2 p hp) om);have hg1:=r_growT (k:=splitsQ L (queryQ L).1.g.units.length) om g1 (by rw[(scope1_q _).1];exact fun p hp=>dz_vars (q2 p hp) om) (by rw[(scope1_q _).1];exact goal3 L) (by rw[(scope1_q _).1];exact dz_vars q3 om);have hb2:=r_bounded (s:=⟨treeQ L,[],[]⟩) (bd_va v1 v2 (by rw[t1];exact q2) (by rw[t1];exact q5)) (by show ∀p∈(treeQ L).g.units,_;rw[t1];exact fun p hp=>dz_vars (q2 p hp) om);have hg2:=r_growT (k:=splitsQ L (queryQ L).1.g.units.length) om v3 (by rw[(scope1_q _).1,t1];exact fun p hp=>dz_vars (q2 p hp) om) (by rw[(scope1_q _).1];exact v4) (by rw[(scope1_q _).1,t3];exact dz_vars q3 om);have hc:(queryQ L).1.goal.const.S 100:=q1.goal.const;have hq2:treeQ L=(bif decide (sgQ (growR (splitsQ L (queryQ L).1.g.units.length) (scope1 (queryQ L).1) true).2 < 0) then (queryQ L).1.raise (growR (splitsQ L (queryQ L).1.g.units.length) (scope1 (queryQ L).1) true).2 else (queryQ L).1):=rfl;unfold treeN;change PCalls _ _ _ _ (scP (scope1 (queryQ L).1)) at hb1;change PCalls _ _ _ _ (scP (scope1 (treeQ L))) at hb2;clear q1 q2 q3 s1 s2 g1 g3 v1 v2 v3 v4 t1 t2 t3;generalize treeQ L=q' at*;generalize (queryQ L).1=q at*;generalize scope1 q=sc1 at*;generalize scope1 q'=sc2 at*;generalize growR (splitsQ L q.g.units.length) sc1 true=G1 at*;generalize growR (splitsQ L q.g.units.length) sc2 true=G2 at*;obtain⟨⟨l1,d1,k1,e1,p1⟩,w1⟩:=G1;obtain⟨⟨l2,d2,k2,e2,p2⟩,w2⟩:=G2;simp only at*;refine pcW [39,46] (by kernel_rfl) Tryz.func9 rfl rfl (fun D hF hM hH=>?_);refine pa Y Y ?_
 apply pcutP (sl:=[(2,_),(3,_),(4,_),(0,_)]) (rs:=[(2,_),(3,_),(4,_)]) [39,46,35] (True)
 case h1=>
  refine au ?_;refine rcw hM (fun _=>hH.gr) (hi) Y Y Y Y Y Y Y ?_;refine au ?_;refine⟨?_,trivial⟩;refine Sub.of ?_ ?_ ?_
  ·exact (c4 Y Y Y Y trivial)
  ·exact (c3 Y Y Y trivial)
  ·rfl
 case h2=>
  intro _;refine pa Y Y ?_
  apply pcutP (sl:=[(2,_),(3,_),(4,_),(5,.pv (iP ((splitsQ L q.g.units.length:Nat):Int)))]) (rs:=[(2,_),(3,_),(4,_)]) [39,46,35] (True)
  case h1=>
   refine pr0 (qg 1 ?_);refine ro0 Y Y Y (fun hd=>opE_lenR Y Y Y hd) ?_;refine a2 (fun e14=>?_) (fun e14=>?_)
   ·have h14:0 < L.length:=by have h:=of_decide_eq_true e14;omega
    have h18:ariO .sub .i64 (L.length:Int) 1=some ((L.length - 1:Nat):Int):=by exact ari_pred (dt om) om
    obtain⟨ad,hA,_⟩:=hH.at (show L.length - 1 < L.length by omega);simp only at hA;subst hA;have hc:∀w,Gr D.w0 w→w.cell? (ad.add (L.length - 1))=some (bv (atZ L ((L.length - 1:Nat):Int))):=fun w G=>by
     obtain⟨ad2,h1,h2⟩:=(hH.gr G).at (show L.length - 1 < L.length by omega);injection h1 with h1;subst h1;exact h2
    refine pr0' (qg 2 ?_);refine ro0 Y Y Y (fun hd=>opE_lenR Y Y Y hd) ?_;refine aa (c:=h18) ?_;refine ro0 Y Y Y (fun hd=>opE_idxR (i:=L.length - 1) Y Y Y Y Y om hd) ?_;refine ro0 Y Y Y (fun hd=>opE_loadR Y hM hc Y Y hd) ?_;refine ro0 Y Y Y (fun hd=>opE_rem Y Y Y dx hd) ?_;refine ro0 Y Y Y (fun hd=>opE_conv (ds:=.int .u8) (j:=.i64) Y Y (by kernel_rfl) (by kernel_rfl) hd) ?_;refine qg 4 ?_;refine ro0 Y Y Y (fun hd=>opE_min Y Y Y Y hd) ?_;refine au ?_;refine⟨?_,trivial⟩;refine Sub.of ?_ ?_ ?_
    ·exact (c3 Y Y Y (ai (congrArg (fun z=>some (SV.pv (iP z))) (by rw[List.length_map];exact splits_of h14)) trivial))
    ·exact (c3 Y Y Y trivial)
    ·rfl
   ·have h14:L.length=0:=by have h:=of_decide_eq_false e14;omega
    refine au ?_;refine⟨?_,trivial⟩;refine Sub.of ?_ ?_ ?_
    ·exact (c3 Y Y Y (ai (congrArg (fun z=>some (SV.pv (iP z))) (splits_0 h14)) trivial))
    ·exact (c3 Y Y Y trivial)
    ·rfl
  case h2=>
   intro _;refine ac (c:=hb1) ?_;refine ac (c:=hg1) ?_;refine qg 7 ?_;refine rn Y ?_
   apply pcutP (sl:=[(2,_),(3,_),(4,_),(5,_)]) (rs:=[(2,_),(3,_),(4,.box 39 [.pv (iP q'.g.inputs),.pv (formsP q'.g.units),.pv (formsP q'.g.outputs),.pv (ratsP q'.rg.lo),.pv (ratsP q'.rg.hi),.pv (formsP q'.rg.rows),.pv (termsP q'.goal.terms),.pv (bP q'.goal.const.neg),.pv (.nat q'.goal.const.num),.pv (.nat q'.goal.const.den)])]) [39,46,35] (True)
   case h1=>
    refine ac (c:=r_sign (g2.sm dx)) ?_;refine a2 (fun e38=>?_) (fun e38=>?_)
    ·refine ac (c:=r_sub (hc.sm dx) (g2.sm dx) hc.ok g2.neg.ok) ?_;refine au ?_;refine⟨?_,trivial⟩;refine Sub.of ?_ ?_ ?_
     ·exact (c4 Y Y Y Y trivial)
     ·exact (c2 Y Y (ai (congrArg (fun q:Qr=>some (Res.box 39 [.pv (iP q.g.inputs),.pv (formsP q.g.units),.pv (formsP q.g.outputs),.pv (ratsP q.rg.lo),.pv (ratsP q.rg.hi),.pv (formsP q.rg.rows),.pv (termsP q.goal.terms),.pv (bP q.goal.const.neg),.pv (.nat q.goal.const.num),.pv (.nat q.goal.const.den)])) (show q.raise w1=q' by rw[hq2,e38];rfl)) trivial))
     ·rfl
    ·refine au ?_;refine⟨?_,trivial⟩;refine Sub.of ?_ ?_ ?_
     ·exact (c4 Y Y Y Y trivial)
     ·exact (c2 Y Y (ai (congrArg (fun q:Qr=>some (Res.box 39 [.pv (iP q.g.inputs),.pv (formsP q.g.units),.pv (formsP q.g.outputs),.pv (ratsP q.rg.lo),.pv (ratsP q.rg.hi),.pv (formsP q.rg.rows),.pv (termsP q.goal.terms),.pv (bP q.goal.const.neg),.pv (.nat q.goal.const.num),.pv (.nat q.goal.const.den)])) (show q=q' by rw[hq2,e38];rfl)) trivial))
     ·rfl
   case h2=>
    intro _;refine ac (c:=hb2) ?_;refine ac (c:=hg2) ?_;exact ar (c:=rfl)
def Nd.Good:Nat→Nd→Prop
 | 0,.mk ls _ _ _ p=>(∀m∈ls,LmOk m)∧ls.length≤100∧PfOk p
 | k+1,.mk ls d ks _ _=>(∀m∈ls,LmOk m)∧ls.length≤100∧d.at_=Q.zero∧∀a∈ks,Nd.Good k a
theorem Nd.Good.lim:∀{k:Nat} {n:Nd},n.Good k→n.Lim k
 | 0,.mk ls d ks e p,h=>⟨h.2.1,nt h.2.2.len dx⟩
 | k+1,.mk ls d ks e p,h=>⟨h.2.1,fun a ha=>(h.2.2.2 a ha).lim⟩
structure EnG (x:En) (n:Nat):Prop where
 ok:EnOk x
 len:x.lems.length≤n
 at_:∀d∈x.path,d.at_=Q.zero
 path:x.path.length≤100
theorem opp_at (d:Dc):(oppD d).at_=d.at_:=by unfold oppD;cases decide (0 < d.kind)&&decide (d.kind < 5)<;>rfl
theorem ent_good:∀(k:Nat) (n:Nd) (path:List Dc) (lems:List Lm),n.Good k→(∀m∈lems,LmOk m)→(∀d∈path,d.at_=Q.zero)→path.length+k≤100→∀x∈entR k n path lems,EnG x (lems.length+100*(k+1))
 | 0,.mk ls d ks e p,path,lems,h,hl,hp,h9,x,hx=>by
  obtain rfl:=mj hx;refine⟨⟨fun m hm=>?_,h.2.2⟩,by show (lems++ls).length≤_;rw[List.length_append];have:=h.2.1;omega,hp,h9⟩;rcases List.mem_append.1 hm with e | e
  ·exact hl m e
  ·exact h.1 m e
 | k+1,.mk ls d ks e p,path,lems,h,hl,hp,h9,x,hx=>by
  obtain⟨h1,h2,h3,h4⟩:=h;have hl2:∀m∈lems++ls,LmOk m:=fun m hm=>by
   rcases List.mem_append.1 hm with e | e
   ·exact hl m e
   ·exact h1 m e
  match ks,hx with
  | [],hx=>cases hx
  | [_],hx=>cases hx
  | [a,b],hx=>
   have hp2:∀d':Dc,d'.at_=Q.zero→∀z∈path++[d'],z.at_=Q.zero:=fun d' hd z hz=>by
    rcases List.mem_append.1 hz with e | e
    ·exact hp z e
    ·rw[mj e];exact hd
   have key:EnG x ((lems++ls).length+100*(k+1)):=by
    rcases List.mem_append.1 (show x∈entR k a _ _++entR k b _ _ from hx) with e | e
    ·exact ent_good k a _ _ (h4 a (mf ..)) hl2 (hp2 d h3) (by rw[List.length_append];show path.length+1+k≤100;omega) x e
    ·exact ent_good k b _ _ (h4 b (List.mem_cons_of_mem _ (mf ..))) hl2 (hp2 _ ((opp_at d).trans h3)) (by rw[List.length_append];show path.length+1+k≤100;omega) x e
   refine⟨key.ok,nt key.len ?_,key.at_,key.path⟩;rw[List.length_append];omega
  | _::_::_::_,hx=>cases hx
theorem renM_S {to:List Int} {l:List Mm} (h:PfOk l):PfOk (l.map (renM to)):=by
 refine⟨fun m hm=>?_,by rw[List.length_map];exact h.len⟩;obtain⟨m',h1,rfl⟩:=List.mem_map.1 hm;exact h.each m' h1
theorem keep_mem {to:List Int}:∀{is:List Bool} {ls:List Lm},(∀m∈ls,LmOk m)→(∀m∈keepL to is ls,LmOk m)∧(keepL to is ls).length≤ls.length
 | [],ls,h=>⟨(fun m hm=>by cases ls<;>cases hm),nq _⟩
 | b::is,[],h=>⟨(fun m hm=>by cases hm),nq _⟩
 | b::is,m::ls,h=>by
  obtain⟨h1,h2⟩:=keep_mem (to:=to) (is:=is) (ls:=ls) fun z hz=>h z (List.mem_cons_of_mem _ hz)
  rw[keepL];cases b with
  | true=>
   refine⟨fun z hz=>?_,by rw[cond_true,List.length_cons,List.length_cons];omega⟩;rcases List.mem_cons.1 hz with e | e
   ·have:=h m (mf ..);rw[e];exact⟨this.value,renM_S this.proof⟩
   ·exact h1 z e
  | false=>exact⟨h1,by rw[cond_false,List.length_cons];omega⟩
theorem EnG.reduce {x:En} {n:Nat} (h:EnG x n):EnG (reduceR x) n:=by
 obtain⟨h1,h2⟩:=keep_mem (to:=numsR (marksR x.lems x.proof)) (is:=marksR x.lems x.proof) h.ok.lems;exact⟨⟨h1,renM_S h.ok.proof⟩,nt h2 h.len,h.at_,h.path⟩
theorem EnG.va {x:En} {n a:Nat} {q:Qr} (h:EnG x n) (hn:n≤1000) (hq:q.Va a) (ha:1≤a) (ha2:a≤2) (h4:q.g.inputs+q.g.units.length≤8):(x.sc q).Va a 8:=
 ⟨hq,fun d hd=>by rw[h.at_ d hd];exact sz_zero.up ha,nt h.path dx,fun m hm=>(h.ok.lems m hm).value,nt h.len hn,by decide,by decide,ha2,h4⟩
theorem bd_lm {s:Sc} {a b:Nat} (hv:∀j,j≤s.q.g.units.length→(boundedN s j).Va a b) (hl:∀m∈s.lems,LmOk m):∀j,j≤s.q.g.units.length→(∀m∈(boundedN s j).lems,LmOk m)∧(boundedN s j).lems.length≤s.lems.length+2*j
 | 0,_=>⟨hl,nr _⟩
 | j+1,hj=>by
  obtain⟨h1,h2⟩:=bd_lm hv hl j om;have h3:=hv j om;have h4:=hv (j+1) hj;have hq:(boundedN s j).q=s.q:=(bounded_q s j).1;have hm:atZ (boundedN s j).q.g.units (j:Int)∈(boundedN s j).q.g.units:=atZ_mem om (by rw[hq];omega);have hp:(atZ (boundedN s j).q.g.units (j:Int)).S 2 8:=(h3.q.us _ hm).up h3.a9 h3.n9;obtain⟨_,a2,a3⟩:=aboveR_S h3 (hp.up (t:=3) (m:=8) dx dx);obtain⟨_,b2,b3⟩:=aboveR_S h3 ((hp.scaleR sz_mone).up (t:=3) (m:=8) dx dx);have mem:∀m∈(boundedN s (j+1)).lems,m∈(boundedN s j).lems∨m.proof=(aboveR (boundedN s j) (atZ (boundedN s j).q.g.units (j:Int))).2.1∨m.proof=(aboveR (boundedN s j) (Fm.scaleR (atZ (boundedN s j).q.g.units (j:Int)) Q.mone)).2.1:=fun m hm=>by
   have hm':m∈addLm _ _ _ _:=hm;unfold addLm at hm';rcases List.mem_append.1 hm' with e | e
   ·exact .inl e
   ·right
    rcases List.mem_append.1 e with e | e
    ·left
     revert e
     cases (aboveR (boundedN s j) (atZ (boundedN s j).q.g.units (j:Int))).2.2 with
     | true=>intro e;rw[mj e]
     | false=>intro e;cases e
    ·right
     revert e
     cases (aboveR (boundedN s j) (Fm.scaleR (atZ (boundedN s j).q.g.units (j:Int)) Q.mone)).2.2 with
     | true=>intro e;rw[mj e]
     | false=>intro e;cases e
  refine⟨fun m hm=>⟨(h4.lems m hm).up h4.b9,?_⟩,?_⟩
  ·rcases mem m hm with e | e | e
   ·exact (h1 m e).proof
   ·rw[e];exact⟨fun z hz=>(a2 z hz).up dx,a3⟩
   ·rw[e];exact⟨fun z hz=>(b2 z hz).up dx,b3⟩
  ·show (addLm _ _ _ _).length≤_;unfold addLm;rw[List.length_append,List.length_append];have:∀(b:Bool) (x:Lm),(bif b then [x] else []).length≤1:=fun b x=>by cases b<;>simp
   have t1:=this (aboveR (boundedN s j) (atZ (boundedN s j).q.g.units (j:Int))).2.2 ⟨(j:Int),false,(aboveR (boundedN s j) (atZ (boundedN s j).q.g.units (j:Int))).1,(aboveR (boundedN s j) (atZ (boundedN s j).q.g.units (j:Int))).2.1⟩;have t2:=this (aboveR (boundedN s j) (Fm.scaleR (atZ (boundedN s j).q.g.units (j:Int)) Q.mone)).2.2 ⟨(j:Int),true,(aboveR (boundedN s j) (Fm.scaleR (atZ (boundedN s j).q.g.units (j:Int)) Q.mone)).1.neg',(aboveR (boundedN s j) (Fm.scaleR (atZ (boundedN s j).q.g.units (j:Int)) Q.mone)).2.1⟩;omega
theorem grow_good {a b:Nat}:∀(k:Nat) {s:Sc} {root:Bool},GrowOk a b k s→(∀m∈s.lems,LmOk m)→s.lems.length+2*s.q.g.units.length≤100→s.q.goal.S 3 8→Nd.Good k (growR k s root).1
 | 0,s,root,h,hl,h9,hg=>by
  have hv:∀j,j≤s.q.g.units.length→(boundedN s j).Va a b:=h;obtain⟨h1,h2⟩:=bd_lm hv hl s.q.g.units.length (nr _);obtain⟨_,a2,a3⟩:=aboveR_S (hv _ (nr _)) hg;refine⟨fun m hm=>h1 m (List.mem_of_mem_drop hm),?_,fun z hz=>(a2 z hz).up dx,a3⟩;rw[List.length_drop];have:(boundedR s).lems.length≤_:=h2;omega
 | k+1,s,root,h,hl,h9,hg=>by
  refine⟨?_,?_,rfl,fun x hx=>?_⟩
  ·cases root with
   | true=>exact hl
   | false=>intro m hm;cases hm
  ·cases root with
   | true=>show s.lems.length≤100;omega
   | false=>exact nq _
  ·rcases List.mem_cons.1 hx with e | e
   ·rw[e];exact grow_good k h.1 hl h9 hg
   ·rw[mj e];exact grow_good k h.2.1 hl h9 hg
theorem grow_wf:∀(k:Nat) (s:Sc) (root:Bool),Nd.Wf k (growR k s root).1
 | 0,s,root=>⟨rfl,rfl⟩
 | k+1,s,root=>⟨rfl,rfl,Int.le_refl 1,(show (1:Int)≤4 by decide),_,_,rfl,grow_wf k _ _,grow_wf k _ _⟩
abbrev treeK (L:List Nat):Nat:=splitsQ L (queryQ L).1.g.units.length
theorem treeK_le (L:List Nat):treeK L≤2:=by
 unfold treeK splitsQ;split
 ·exact nt (Nat.min_le_left _ _) om
 ·exact nq _
theorem tree_good (L:List Nat):(treeQ L).Va 2∧(treeQ L).g.inputs+(treeQ L).g.units.length≤8∧(treeQ L).goal.S 100 8∧(treeN L).Wf (treeK L)∧(treeN L).Good (treeK L):=by
 obtain⟨q1,q2,q3,q4,q5⟩:=query_va L;obtain⟨v1,v2,v3,v4⟩:=tree_two L;obtain⟨t1,t2,t3⟩:=treeQ_same L;have hb:=bd_va v1 v2 (by rw[t1];exact q2) (by rw[t1];exact q5);obtain⟨l1,l2⟩:=bd_lm (s:=⟨treeQ L,[],[]⟩) hb (fun m hm=>by cases hm) (treeQ L).g.units.length (nr _);have hq:(scope1 (treeQ L)).q=treeQ L:=(scope1_q _).1;refine⟨v1.q,by rw[t1];omega,v4.up dx dx,grow_wf _ _ _,grow_good _ v3 l1 ?_ (by rw[hq];exact v4)⟩;rw[hq,t1];have:(scope1 (treeQ L)).lems.length≤0+2*(treeQ L).g.units.length:=l2;rw[t1] at this;omega
theorem ent_all {k a:Nat} {n:Nd} {q:Qr} (hg:n.Good k) (hk:k≤8) (hq:q.Va a) (ha:1≤a) (ha2:a≤2) (h4:q.g.inputs+q.g.units.length≤8):∀x∈entR k n [] [],EnOk x∧x.lems.length≤1000∧EnOk (reduceR x)∧((reduceR x).sc q).Va a 8:=fun x hx=>by
 have h:=ent_good k n [] [] hg (fun m hm=>by cases hm) (fun d hd=>by cases hd) (by show 0+k≤100;omega) x hx;have h9:([]:List Lm).length+100*(k+1)≤1000:=by show 0+100*(k+1)≤1000;omega
 exact⟨h.ok,nt h.len h9,h.reduce.ok,h.reduce.va h9 hq ha ha2 h4⟩
theorem spN_wf:∀(k:Nat) (n:Nd) (u:Nat),n.Wf k→(spN k n u).Wf k
 | 0,.mk ls d ks e p,u,h=>by
  obtain⟨rfl,rfl⟩:=h;rw[spN];cases decide (0 < (p.length:Int))&&decide (((u % 4:Nat):Int) < 2) with
  | true=>exact⟨rfl,rfl⟩
  | false=>cases decide (0 < (ls.length:Int))<;>exact⟨rfl,rfl⟩
 | k+1,.mk ls d ks e p,u,h=>by
  obtain⟨rfl,rfl,h1,h2,a,b,rfl,ha,hb⟩:=h;rw[spN];rcases Nat.mod_two_eq_zero_or_one u with e | e
  ·rw[e];exact⟨rfl,rfl,h1,h2,_,_,rfl,spN_wf k a _ ha,hb⟩
  ·rw[e];exact⟨rfl,rfl,h1,h2,_,_,rfl,ha,spN_wf k b _ hb⟩
def Nd.Tight:Nat→Nd→Prop
 | 0,.mk ls _ _ _ p=>(∀m∈ls,m.value.S 6)∧∀m∈p,m.2.S 490
 | k+1,.mk _ _ ks _ _=>∀a∈ks,Nd.Tight k a
theorem spN_good:∀(k:Nat) (n:Nd) (u:Nat),n.Good k→n.Tight k→(spN k n u).Good k
 | 0,.mk ls d ks e p,u,⟨h1,h2,h3⟩,⟨t1,t2⟩=>by
  have hc:=spC_S u;rw[spN];cases e1:decide (0 < (p.length:Int))&&decide (((u % 4:Nat):Int) < 2) with
  | true=>
   rw[be] at e1;have hp0:0 < p.length:=by have:=of_decide_eq_true e1.1;omega
   have hm:=t2 _ (mg (get_of (Nat.mod_lt (u / 4) hp0)));refine⟨h1,h2,fun m hm'=>?_,by rw[spM,List.length_set];exact h3.len⟩;rcases List.mem_or_eq_of_mem_set hm' with e | e
   ·exact h3.each m e
   ·rw[e];exact (hm.add hc).up dx
  | false=>
   cases e2:decide (0 < (ls.length:Int)) with
   | true=>
    have hp0:0 < ls.length:=by have:=of_decide_eq_true e2;omega
    have hg:=mg (get_of (Nat.mod_lt (u / 4) hp0));refine⟨fun m hm'=>?_,by rw[spL,List.length_set];exact h2,h3⟩;rcases List.mem_or_eq_of_mem_set hm' with e | e
    ·exact h1 m e
    ·rw[e];exact⟨((t1 _ hg).add hc).up dx,(h1 _ hg).proof⟩
   | false=>exact⟨h1,h2,h3⟩
 | k+1,.mk ls d ks e p,u,⟨h1,h2,h3,h4⟩,t=>by
  rw[spN];cases e:ks[u % 2]? with
  | none=>exact⟨h1,h2,h3,h4⟩
  | some c=>
   have hc:=mg e;refine⟨h1,h2,h3,fun a ha=>?_⟩;rcases List.mem_or_eq_of_mem_set ha with e | e
   ·exact h4 a e
   ·rw[e];exact spN_good k c _ (h4 c hc) (t c hc)
theorem grow_tight {a b:Nat} (hb:b≤6):∀(k:Nat) {s:Sc} {root:Bool},GrowOk a b k s→s.q.goal.S 3 8→Nd.Tight k (growR k s root).1
 | 0,s,root,h,hg=>by
  have hv:∀j,j≤s.q.g.units.length→(boundedN s j).Va a b:=h;have h4:=hv s.q.g.units.length (nr _);obtain⟨_,a2,_⟩:=aboveR_S h4 hg;exact⟨fun m hm=>(h4.lems m (List.mem_of_mem_drop hm)).up hb,fun z hz=>(a2 z hz).up dx⟩
 | k+1,s,root,h,hg=>fun x hx=>by
  rcases List.mem_cons.1 hx with e | e
  ·rw[e];exact grow_tight hb k h.1 hg
  ·rw[mj e];exact grow_tight hb k h.2.1 hg
theorem tree_tight (L:List Nat):(treeN L).Tight (treeK L):=by
 obtain⟨v1,v2,v3,v4⟩:=tree_two L;have hq:(scope1 (treeQ L)).q=treeQ L:=(scope1_q _).1;exact grow_tight dx _ v3 (by rw[hq];exact v4)
theorem eqL_refl {α:Type} [Inhabited α] {f:α→α→Bool} (h:∀x,f x x=true) (l:List α):eqL f l l=true:=by
 unfold eqL;rw[beq_self_eq_true,Bool.true_and,List.all_eq_true];exact fun i _=>h _
theorem mmEq_refl (x:Mm):mmEq x x=true:=by unfold mmEq;rw[rowEq_eq];simp
theorem lmEq_refl (x:Lm):lmEq x x=true:=by unfold lmEq;rw[eqL_refl mmEq_refl];simp
theorem dcEq_refl (x:Dc):dcEq x x=true:=by rw[dcEq_eq];simp
theorem enEq_refl (x:En):enEq x x=true:=by unfold enEq;rw[eqL_refl dcEq_refl,eqL_refl lmEq_refl,eqL_refl mmEq_refl];simp
abbrev TL:List Nat:=[35,37,138,200,224]
theorem p_awakeW:PCallsW LaidG Tryz.prog [] 8 [] (bP true):=⟨by kernel_rfl,fun w X us hw _ _ hr=>by
 obtain rfl:=PV.RepL.inv0 hr;exact (awake0 w hw).mono fun e w' ⟨he,G⟩=>⟨_,he,raw_to _,G⟩⟩
theorem r_spN:∀(k:Nat) (n:Nd) (u:Nat),n.Wf k→n.Good k→n.Tight k→u < 65536→PCalls Tryz.prog TU 11 [ndP n,.raw (.int .u16 (u:Int))] (ndP (spN k n u))
 | 0,.mk ls d ks e p,u,⟨_,h2⟩,g,t,hu=>by
  subst h2;exact r_spL hu (fun m hm=>(t.2 m hm).up dx) (fun m hm=>(t.1 m hm).up dx) (nt g.2.2.len dx) (nt g.2.1 dx)
 | k+1,.mk ls d ks e p,u,⟨_,_,_,_,a,b,h3,ha,hb⟩,g,t,hu=>by
  subst h3;have g4:=g.2.2.2;rcases Nat.mod_two_eq_zero_or_one u with e1 | e1
  ·have hc:[a,b][u % 2]?=some a:=by rw[e1];rfl
   have:=r_spS (ls:=ls) (d:=d) (e:=e) (p:=p) rfl hc hu (r_spN k a (u / 2) ha (g4 a (mf ..)) (t a (mf ..)) om);rw[spN,hc];exact this
  ·have hc:[a,b][u % 2]?=some b:=by rw[e1];rfl
   have:=r_spS (ls:=ls) (d:=d) (e:=e) (p:=p) rfl hc hu (r_spN k b (u / 2) hb (g4 b (List.mem_cons_of_mem _ (mf ..))) (t b (List.mem_cons_of_mem _ (mf ..))) om);rw[spN,hc];exact this
def EnZ (x:En):Prop:=x.path.length≤1000000∧x.lems.length≤1000000∧(∀m∈x.lems,m.proof.length≤1000000)∧x.proof.length≤1000000
theorem EnZ.of {x:En} {q:Qr} {a b:Nat} (h:EnOk x) (k:(x.sc q).Va a b):EnZ x:=⟨nt k.p9 dx,nt k.l9 dx,fun m hm=>nt (h.lems m hm).proof.len dx,nt h.proof.len dx⟩
theorem kept_mem {q:Qr} {l:List En} {y:En} (h:y∈keptR q l):∃x∈l,reduceR x=y:=by
 unfold keptR at h;exact List.mem_map.1 (List.mem_filter.1 h).1
theorem bytes_len {k:IntKind} {w:World} {a:Option Addr} {len cap:Nat} {zs:List Int} (h:IsRow k w a len cap zs):(bytesOf zs len).length=len:=by
 unfold bytesOf;rw[List.length_map,h.lens]
theorem PCallsW.in1 {H:World→Prop} {P:Program} {T:List Nat} {f:FuncId} {args:List PV} {b:Bool} (h:PCallsW H P T f args (bP b)) {w:World} (hw:H w) {us:List Value} (hr:PV.RepL w NoX args us):Calls P f us.toArray w fun e w'=>e=.returned (.bool b)∧Below w.heap.size w w':=
 (h.2 w NoX us hw (fun _ h=>h.elim) (fun _ _ _ _ h=>h.elim) hr).mono fun e w' ⟨v,he,hv,G⟩=>⟨by rw[he,raw_inv hv],G.below⟩
abbrev keR (e k:Nat) (ts:List Nat) (xs:List (List PV)):List (Nat×Res):=[(1000,.tok e k ts xs)]
def KCalls (P:Program) (Tg:List Nat) (f:FuncId) (args:List SV) (e k:Nat) (ts:List Nat) (xs xs':List (List PV)):Prop:=callB P f=true∧
 ∀(w:World) (X:Nat→Prop) (B:Nat→Nat) (T:Nat→Sv) (us:List Value),(∀b,X b→b < w.heap.size)→(∀b cs t fr,X b→w.heap[b]?=some (.cells cs t fr)→t ∉ Tg)→(∀b,X b→¬LentR (keR e k ts xs) B T b)→MPre w X B T (keR e k ts xs)→SV.RepL w (OwnZ X (keR e k ts xs) B T) B T (.tok 1000::args) us→(∀i∈SV.idsL (.tok 1000::args),(lookL (keR e k ts xs) i).isSome=true)→
  Calls P f us.toArray w fun ex w'=>∃v,ex=.returned v∧MPre w' X B T (keR e k ts xs')∧Fr (LentR (keR e k ts xs) B T) w w'
def RetK (P:Program) (tab:Tab) (fn:Func) (e k:Nat) (ts:List Nat) (xs':List (List PV)):Exit→St→Prop
 | .ret,st | .normal,st=>RetOk P tab fn st (.tup [])∧st.slot 0=some (.tok 1000)∧st.res 1000=some (.tok e k ts xs')
 | _,_=>False
theorem keR_at {e k:Nat} {ts:List Nat} {xs:List (List PV)} {i:Nat} {r:Res} (h:lookL (keR e k ts xs) i=some r):i=1000∧r=.tok e k ts xs:=by
 rw[lookL] at h;cases hb:Nat.beq i 1000 with
 | true=>rw[hb] at h;injection h with h;exact⟨Nat.eq_of_beq_eq_true hb,h.symm⟩
 | false=>rw[hb] at h;cases h
theorem sv_inj {x y:Sv} (h:x.v=y.v):x=y:=by
 obtain⟨A,n,c⟩:=x;obtain⟨A',n',c'⟩:=y;injection h with e1 e2 e3;subst e1 e2 e3;rfl
section
variable {P:Program} {tab:Tab}
theorem KCalls.of {T:List Nat} {f:FuncId} {args:List SV} {e k:Nat} {ts:List Nat} {xs xs':List (List PV)} {fn:Func} {c:Code} (tys:List Nat) (hT:TblOk P tab) (hm:P.follows .mixedOrders=true) (hcall:callB P f=true) (hf:P.funcs[f]?=some fn) (hb:fn.body=some c) (hn:Nat.ble (args.length+1) fn.ntmps=true) (hck:(Nat.ble fn.ntmps 1000&&tys.contains e)=true) (h:∀D:Dom P T 1,PW (D.cx fn.ntmps) c (St.initM (.tok 1000::args) (keR e k ts xs) tys) (RetK P tab fn e k ts xs')):KCalls P T f args e k ts xs xs':=by
 refine⟨hcall,fun w X B Tk us hX hXT hXL hpre hr hids=>?_⟩;have hn:=Nat.le_of_ble_eq_true hn;simp only[be] at hck
 let D:Dom P T 1:=⟨w,X,hX,hm,hXT,LentR (keR e k ts xs) B Tk,hXL,fun i=>(lookL (keR e k ts xs) i).isSome=true,B,fun _=>(Tk 1000).v⟩
 refine calls_of_wp hf hb ?_;have hlen:=hr.len;have hat:∀(t:Nat) (s:SV),(SV.tok 1000::args)[t]?=some s→SV.Rep w (OwnZ X (keR e k ts xs) B Tk) B Tk s ((us.toArray++Array.replicate (fn.ntmps - us.toArray.size) undef).getD t undef):=fun t s e=>by
  obtain⟨u,hu,hpr⟩:=hr.at e;have hut:(us.toArray++Array.replicate (fn.ntmps - us.toArray.size) undef).getD t undef=u:=by
   have hlt:=(gs hu).1;rw[Array.getD_eq_getD_getElem?,Array.getElem?_append_left (by simpa using hlt)];simp[hu]
  rw[hut];exact hpr
 have h0:(us.toArray++Array.replicate (fn.ntmps - us.toArray.size) undef).getD 0 undef=(Tk 1000).v:=by
  have:=hat 0 _ rfl;rw[SV.Rep] at this;exact this
 have hinv:Inv (D.cx fn.ntmps) (St.initM (.tok 1000::args) (keR e k ts xs) tys) { tmps:=us.toArray++Array.replicate (fn.ntmps - us.toArray.size) undef,defers:=[] } w:=by
  refine⟨B,Tk,⟨⟨by simp at hlen ⊢;omega,fun t ht=>?_⟩,rfl,⟨Fr.refl _ w,fun i h=>rfl⟩,fun t s e=>hat t s e,fun t s e i hi=>?_,fun i r e=>?_,fun i r e=>hpre.alive i r e,fun i r j q b e1 e2=>hpre.apart i r j q b e1 e2⟩⟩
  ·obtain rfl:t=0:=Nat.lt_one_iff.1 ht;exact h0
  ·exact hids i (idsL_mem (mg (show (SV.tok 1000::args)[t]?=some s from e)) hi)
  ·exact (hpre.inn i r e).wide (fun b hb _=>.inr ⟨i,r,e,hb⟩) fun b hb=>hb
 refine Code.wp_mono (fun ex a w' hq=>?_) (h D _ w (fun i r e=>by
  obtain⟨_,rfl⟩:=keR_at (show lookL (keR _ k ts xs) i=some r from e);exact List.contains_iff_mem.1 hck.2) hinv)
 obtain⟨st,h1,_,h3⟩:=hq;have fin:RetOk P tab fn st (.tup [])∧st.slot 0=some (.tok 1000)∧st.res 1000=some (.tok e k ts xs')→∃v,(results fn a.tmps).run P w'=.ok v w'∧a.defers=[]∧MPre w' X B Tk (keR e k ts xs')∧Fr (LentR (keR e k ts xs) B Tk) w w':=fun ⟨h1,h2,h4⟩=>by
  obtain⟨v,g1,g2⟩:=ret_run (C:=D.cx fn.ntmps) hT h3 h1;obtain⟨B',T',hi⟩:=h3;have s0:=hi.slot 0 _ h2;rw[SV.Rep] at s0;have e0:T' 1000=Tk 1000:=sv_inj (s0.symm.trans (hi.size.2 0 Nat.zero_lt_one));have eB:B' 1000=B 1000:=hi.gr.fix 1000 ⟨rfl,Nat.le_of_ble_eq_true hck.1⟩;have sub:∀b,OwnZ X (keR e k ts xs') B Tk b→Own0 (D.cx fn.ntmps) st B' T' b:=fun b hb=>by
   rcases hb with hb | ⟨i,r,k1,k2⟩
   ·exact .inl hb
   ·obtain⟨rfl,rfl⟩:=keR_at k1;exact .inr ⟨1000,_,h4,by rw[eB,e0];exact k2⟩
  refine⟨v,g1,hi.dfr,⟨fun i r k1=>?_,fun i r k1 j hj=>?_,fun i r j q b k1 k2 _ _=>by rw[(keR_at k1).1,(keR_at k2).1]⟩,hi.gr.fr⟩
  ·obtain⟨rfl,rfl⟩:=keR_at k1;exact ((hi.inn 1000 _ h4).wide (fun _ _ _=>trivial) sub).reB eB.symm e0.symm fun j hj=>by cases hj
  ·obtain⟨rfl,rfl⟩:=keR_at k1;cases hj
 cases ex with
 | ret=>
  obtain⟨v,g1,g2,g3⟩:=fin h1;exact bodyPost_ret g1 g2 ⟨v,rfl,g3⟩
 | normal=>
  obtain⟨v,g1,g2,g3⟩:=fin h1;exact bodyPost_end g1 g2 ⟨v,rfl,g3⟩
 | _=>exact h1.elim
end
section
variable {C:Cx} {o:Oper} {st:St}
theorem opE_callKK {c:Call} {f:FuncId} {ss args:List SV} {e k:Nat} {ts:List Nat} {xs xs':List (List PV)} {Tg:List Nat} (hp:KCalls C.P Tg f args e k ts xs xs') (hok:RowOk k ts xs') (hn:xs'.length=xs.length) (ho:o.op=.call c) (hc:c.callee=.value (.func f)) (ha:evL st c.args.toList=some ss) (hss:ss=.tok 1000::args) (h0:SV.idsL args=[]) (hre:st.res 1000=some (.tok e k ts xs)) (he:st.tys.contains e=true) (hT:Tg.all (fun t=>C.T.contains t)=true) (hty:Tg.all (fun t=>!st.tys.contains t)=true) (hd:∀d,o.dst=some d→C.dk d):OpE C st.tys o st ⟨.any,some (1000,.tok e k ts xs'),[1000],false⟩:=by
 subst hss;refine⟨fun i r e=>by injection e with e;injection e with e1 e2;subst e1 e2;exact⟨mf ..,List.contains_iff_mem.1 he⟩,fun st1 h1 h2 hts a w ⟨B,T,hi⟩=>?_⟩;have hre':=hre;rw[← h2 1000 (mf ..)] at hre';rw[← evL_agree (o:=o) (st1:=st1) (rb:=[]) ⟨h1,fun i hi=>by cases hi⟩ fun x hx=>by
  rw[ho];simp only[Op.operands,Call.operands,hc,Array.mem_append];exact .inr (Array.mem_toList_iff.1 hx)] at ha
 obtain⟨g1,g2⟩:=evL_rep hi ha;have hrs:AllL st1.res (keR e k ts xs):=⟨hre',trivial⟩;obtain⟨hpre,sub⟩:=pre_lent hi hrs rfl;have old:∀b,Own0 C st1 B T b→b < w.heap.size:=fun b hb=>by
  rcases hb with hb | ⟨i,r,hr,hb⟩
  ·exact nk (C.old b hb) hi.gr.size
  ·exact ((hi.inn i r hr).lo hb).2
 have run:(execOp a.eval o).run C.P w=.ok (.enter f (c.args.toList.map a.eval).toArray) w:=by
  simp only[execOp,ho,resolve,hc,Sem.run_bind];have hf:a.eval (.func f)=.func (.func f) #[] #[]:=rfl;rw[hf];simp only[Deferred.ofValue];simp[invoke,callB_run hp.1];rw[← Array.toList_map,Array.toArray_toList]
 have hids:∀i∈SV.idsL (.tok 1000::args),(lookL (keR e k ts xs) i).isSome=true:=fun i hi=>by
  rw[SV.idsL,h0,List.append_nil] at hi;rw[mj hi];rfl
 have hcall:=hp.2 w (fun b=>Own0 C st1 B T b∧¬LentR (keR e k ts xs) B T b) B T _ (fun b hb=>old b hb.1) (fun b cs t fr hb hh htg=>by
  have htc:=List.all_eq_true.1 hT t htg;have hty':=List.all_eq_true.1 hty t htg;rcases hb.1 with hb1 | ⟨i,r,hr,hb1⟩
  ·have hh':C.w0.heap[b]?=some (.cells cs t fr):=by rw[← hi.gr.old hb1];exact hh
   exact C.hT b cs t fr hb1 hh' (List.contains_iff_mem.1 htc)
  ·have h1:=(hi.inn i r hr).typ hb1 hh;have h2:=hts i r hr;rw[← h1] at h2;rw[List.contains_iff_mem.2 h2] at hty';cases hty') (fun b hb=>hb.2) hpre (g1.still (B':=B) (T':=T) ⟨nr _,fun b cs t fr hx hh ht=>⟨rfl,fun hb=>hx (sub b hb)⟩⟩ fun _ _=>⟨rfl,rfl⟩) hids
 refine doesAt_enter run (hcall.mono fun ex w' ⟨v,hex,hm,F⟩=>⟨v,hex,?_⟩);obtain⟨us',m1,m2,m3,m4,m5,m6⟩:=hm.inn 1000 _ rfl;have key:Inv C (Eff.app ⟨.any,some (1000,.tok e k ts xs'),[1000],false⟩ none st1) a w':=by
  refine inv_elt hi hre' (us':=us') m1 (F.wide fun b _ ⟨i,r,k1,k2⟩=>by obtain⟨rfl,rfl⟩:=keR_at k1;exact k2) (fun S=>PV.RepLL.still (ts:=ts) m2 ⟨nr _,fun b cs t fr hx hh ht=>⟨rfl,fun hb=>hx ?_⟩⟩ fun r hr c hc=>((hok r hr).2 c hc).2) hok hn;by_cases hl:LentR (keR e k ts xs) B T b
  ·obtain⟨i,r,k1,k2⟩:=hl;obtain⟨rfl,rfl⟩:=keR_at k1;exact .inr ⟨1000,_,rfl,k2⟩
  ·refine .inl ⟨?_,hl⟩;rcases hb with hb | ⟨i,r,hr,hb⟩
   ·exact .inl hb
   ·simp only[Eff.app] at hr;cases hq:Nat.beq i 1000 with
    | true=>
     obtain rfl:=Nat.eq_of_beq_eq_true hq;rw[hq] at hr;injection hr with hr;subst hr;exact .inr ⟨1000,_,hre',hb⟩
    | false=>rw[hq] at hr;exact .inr ⟨i,r,hr,hb⟩
 obtain⟨B2,T2,hk⟩:=key;have:=inv_val hk (Gr.refl w') (dst:=o.dst) (s:=.any) (v:=v) (rb:=[]) (kt:=false) (by rw[SV.Rep];trivial) (fun i hi=>by cases (show i∈([]:List Nat) from hi)) hd;exact this
end
section
variable {T:List Nat} {Z:Nat} {D:Dom Tryz.prog T Z} {N:Nat} {st:St} {Q:Exit→St→Prop} {ops:List Oper} {draw:Bool} {acc:List Itm} {k e:Nat} {ts:List Nat} {xs':List (List PV)}
theorem rk0 {ks:List Nat} {c:Call} {f:FuncId} {ss args:List SV} {kk:Nat} {xs:List (List PV)} {Tg:List Nat} {dst:Option Nat} {ty:TypeId} {pos:String} {af:Array Edge} {gd:Option (Nat×Bool)} (hp:KCalls Tryz.prog Tg f args e kk ts xs xs') (hok:RowOk kk ts xs') (hn:xs'.length=xs.length) (hk:nthL ops k=some ⟨dst,.call c,ty,pos,af,gd⟩) (hw:wantS ops.toArray ⟨dst,.call c,ty,pos,af,gd⟩ st=some true) (hd:dstB ⟨dst,.call c,ty,pos,af,gd⟩ N Z=true) (hc:c.callee=.value (.func f)) (ha:evL st c.args.toList=some ss) (hss:ss=.tok 1000::args) (h0:SV.idsL args=[]) (hre:st.res 1000=some (.tok e kk ts xs)) (hT:(st.tys.contains e&&(Tg.all (fun t=>T.contains t)&&Tg.all (fun t=>!st.tys.contains t)))=true) (next:Reg (D.cx N) ops draw Q (acc++[⟨k,true,⟨.any,some (1000,.tok e kk ts xs'),[1000],false⟩,lkOf ops k st (⟨.any,some (1000,.tok e kk ts xs'),[1000],false⟩:Eff)⟩]) ks ((⟨.any,some (1000,.tok e kk ts xs'),[1000],false⟩:Eff).app dst st)):Reg (D.cx N) ops draw Q acc (k::ks) st:=by
 simp only[be] at hT;exact reg_op hk hw hd (fun hd=>opE_callKK (C:=D.cx N) hp hok hn rfl hc ha hss h0 hre hT.1 hT.2.1 hT.2.2 hd) next
theorem pck {f:FuncId} {args:List SV} {xs:List (List PV)} {fn:Func} {c:Code} (tys:List Nat) (hcall:callB Tryz.prog f=true) (hf:(Tryz.prog).funcs[f]?=some fn) (hb:fn.body=some c) (hn:(Nat.ble (args.length+1) fn.ntmps&&(Nat.ble fn.ntmps 1000&&tys.contains e))=true) (h:∀D:Dom Tryz.prog T 1,W D fn.ntmps c (St.initM (.tok 1000::args) (keR e k ts xs) tys) (RetK Tryz.prog tab fn e k ts xs')):KCalls Tryz.prog T f args e k ts xs xs':=by
 rw[be] at hn;exact KCalls.of tys tab_ok mixed hcall hf hb hn.1 hn.2 h
theorem retk {fn:Func} (h:retE tab st fn.results.toList=some (.tup [])) (h0:st.slot 0=some (.tok 1000)) (h1:st.res 1000=some (.tok e k ts xs')):RetK Tryz.prog tab fn e k ts xs' .normal st:=⟨ret_ok h rfl,h0,h1⟩
end
def mk1 (is:List Bool) (z:Int):List Bool:=bif decide (0 < z)&&decide (z≤(is.length:Int)) then is.set (z - 1).toNat true else is
def markF:List Mm→List Bool→List Bool
 | [],is=>is
 | m::l,is=>markF l (mk1 (mk1 is m.1.lo) m.1.hi)
theorem mk1_len (is:List Bool) (z:Int):(mk1 is z).length=is.length:=by
 unfold mk1;cases decide (0 < z)&&decide (z≤(is.length:Int))<;>simp
theorem markF_len:∀(l:List Mm) (is:List Bool),(markF l is).length=is.length
 | [],is=>rfl
 | m::l,is=>by rw[markF,markF_len l,mk1_len,mk1_len]
theorem markF_app:∀(l m:List Mm) (is:List Bool),markF (l++m) is=markF m (markF l is)
 | [],m,is=>rfl
 | a::l,m,is=>by rw[List.cons_append,markF,markF,markF_app l]
theorem mark_step {l:List Mm} {i:Nat} {is:List Bool} (hi:i < l.length):markF (l.take (i+1)) is=mk1 (mk1 (markF (l.take i) is) (atZ l (i:Int)).1.lo) (atZ l (i:Int)).1.hi:=by
 rw[List.take_add_one,get_of hi,markF_app];rfl
theorem mk1_t {is:List Bool} {z:Int} (h1:decide (0 < z)=true) (h2:decide (z≤((bsC is).length:Int))=true):(bsC is).set (z - 1).toNat [bP true]=bsC (mk1 is z):=by
 rw[List.length_map] at h2;unfold mk1;rw[h1,h2];exact (List.map_set ..).symm
theorem mk1_f {is:List Bool} {z:Int} (h1:decide (0 < z)=false):bsC is=bsC (mk1 is z):=by
 unfold mk1;rw[h1];rfl
theorem mk1_g {is:List Bool} {z:Int} (h2:decide (z≤((bsC is).length:Int))=false):bsC is=bsC (mk1 is z):=by
 rw[List.length_map] at h2;unfold mk1;rw[h2,Bool.and_false];rfl
theorem bs_at {is:List Bool} {z:Int} (h1:decide (0 < z)=true) (h2:decide (z≤((bsC is).length:Int))=true):(bsC is)[(z - 1).toNat]?=some [bP (atZ is (z - 1))]:=by
 rw[List.length_map] at h2;have h1:=of_decide_eq_true h1;have h2:=of_decide_eq_true h2;exact getmap (f:=fun b=>[bP b]) (atZ_in om om rfl)
theorem r_mark {l:List Mm} {is:List Bool} (h9:l.length≤1000000) (hs9:is.length≤1000000):KCalls Tryz.prog [] 145 [.pv (mmsP l)] 4 1 [] (bsC is) (bsC (markF l is)):=by
 refine pck [96,4] (by kernel_rfl) Tryz.func145 Y Y (fun D=>?_);refine au ?_;refine pl (ι:={i:Nat // i≤l.length}) (fun i=>[(0,.tok 1000),(1,.pv (mmsP l)),(4,.pv (iP (i.1:Int)))]) (fun i=>[(1000,.tok 4 1 [] (bsC (markF (l.take i.1) is)))]) [96,4] (fun i=>l.length - i.1) ⟨0,nq _⟩ (c3 Y Y Y trivial) (ai Y trivial) (fun _=>rfl) ?_;intro ⟨i,hi0⟩;refine a2 (fun e9=>?_) (fun e9=>?_)
 ·have hi:i < l.length:=lt_of e9;have hq:(markF (l.take i) is).length≤1000000:=by rw[markF_len];exact hs9
  refine ax (c:=(getmap (get_of hi))) ?_;refine qg 4 ?_;refine rn Y ?_
  apply pcut (sl:=[(5,_),(0,_),(1,_),(4,_)]) (rs:=[(5,_),(1000,.tok 4 1 [] (bsC (mk1 (markF (l.take i) is) (atZ l (i:Int)).1.lo)))])
  case h1=>
   refine a2 (fun e20=>?_) (fun e20=>?_)
   ·refine a2 (fun e26=>?_) (fun e26=>?_)
    ·have k1:=of_decide_eq_true e20;have k2:(atZ l (i:Int)).1.lo≤(((markF (l.take i) is).map fun b=>[bP b]).length:Int):=of_decide_eq_true e26;rw[List.length_map] at k2;refine aa (c:=ari_sub om om om om) ?_;refine ro0 Y Y Y (fun hd=>opE_idxE (i:=((atZ l (i:Int)).1.lo - 1).toNat) tab_ok Y Y Y Y Y Y dx (Int.toNat_of_nonneg (by have:=of_decide_eq_true e20;omega)).symm (bs_at e20 e26) hd) ?_;refine ro0 Y Y Y (fun hd=>opE_storeE (i:=((atZ l (i:Int)).1.lo - 1).toNat) (j:=0) tab_ok Y Y Y Y Y Y Y (bs_at e20 e26) Y Y Y Y Y) ?_;refine au ?_;refine Sub.of ?_ ?_ ?_
     ·exact (c4 Y Y Y Y trivial)
     ·exact (ai (rfl) (ai (congrArg (fun x=>some (Res.tok _ _ _ x)) (mk1_t e20 e26)) trivial))
     ·rfl
    ·refine au ?_;refine Sub.of ?_ ?_ ?_
     ·exact (c4 Y Y Y Y trivial)
     ·exact (ai (rfl) (ai (congrArg (fun x=>some (Res.tok _ _ _ x)) (mk1_g e26)) trivial))
     ·rfl
   ·refine au ?_;refine Sub.of ?_ ?_ ?_
    ·exact (c4 Y Y Y Y trivial)
    ·exact (ai (rfl) (ai (congrArg (fun x=>some (Res.tok _ _ _ x)) (mk1_f e20)) trivial))
    ·rfl
  case h2=>
   refine a2 (fun e35=>?_) (fun e35=>?_)
   ·refine a2 (fun e41=>?_) (fun e41=>?_)
    ·have k3:=of_decide_eq_true e35;have k4:(atZ l (i:Int)).1.hi≤(((mk1 (markF (l.take i) is) (atZ l (i:Int)).1.lo).map fun b=>[bP b]).length:Int):=of_decide_eq_true e41;rw[List.length_map,mk1_len] at k4;refine aa (c:=ari_sub om om om om) ?_;refine ro0 Y Y Y (fun hd=>opE_idxE (i:=((atZ l (i:Int)).1.hi - 1).toNat) tab_ok Y Y Y Y Y Y dx (Int.toNat_of_nonneg (by have:=of_decide_eq_true e35;omega)).symm (bs_at e35 e41) hd) ?_;refine ro0 Y Y Y (fun hd=>opE_storeE (i:=((atZ l (i:Int)).1.hi - 1).toNat) (j:=0) tab_ok Y Y Y Y Y Y Y (bs_at e35 e41) Y Y Y Y Y) ?_;refine aa (c:=ari_succ (by show i≤_;omega)) ?_;refine au ?_;exact pe ⟨i+1,hi⟩ (c3 Y Y Y trivial) (ai (congrArg (fun x=>some (Res.tok 4 1 [] x)) (show _=bsC (markF (l.take (i+1)) is) from by rw[mark_step hi];exact mk1_t e35 e41)) trivial) Y (by show l.length - (i+1) < l.length - i;omega)
    ·refine aa (c:=ari_succ (by show i≤_;omega)) ?_;refine au ?_;exact pe ⟨i+1,hi⟩ (c3 Y Y Y trivial) (ai (congrArg (fun x=>some (Res.tok 4 1 [] x)) (show _=bsC (markF (l.take (i+1)) is) from by rw[mark_step hi];exact mk1_g e41)) trivial) Y (by show l.length - (i+1) < l.length - i;omega)
   ·refine aa (c:=ari_succ (by show i≤_;omega)) ?_;refine au ?_;exact pe ⟨i+1,hi⟩ (c3 Y Y Y trivial) (ai (congrArg (fun x=>some (Res.tok 4 1 [] x)) (show _=bsC (markF (l.take (i+1)) is) from by rw[mark_step hi];exact mk1_f e35)) trivial) Y (by show l.length - (i+1) < l.length - i;omega)
 ·have hj:l.length≤i:=ge_of e9;refine au ?_;exact retk Y Y (congrArg (fun x=>some (Res.tok 4 1 [] (bsC x))) (by rw[List.take_of_length_le hj]))
end Go.Proofs.YtbhbainhmfjpdaaGreatDoor
