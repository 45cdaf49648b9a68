/- Walks of the search and of what it calls, part 18. -/
import Derived.Test.YtbhbainhmfjpdaaGreatDoorMq
import Derived.OpenShut
set_option linter.unusedSectionVars false
set_option linter.unusedVariables false
set_option linter.unusedSimpArgs false
set_option maxRecDepth 100000
set_option maxHeartbeats 8000000
namespace Go.Proofs.YtbhbainhmfjpdaaGreatDoor
open Go.RowKit
theorem a26 {ls:List Lm} {n u:Int} {up:Bool} (h:(aw ls n u up).2=true):n≤(ls.length:Int):=by
  unfold aw at h;cases hc:decide (n < 1)||(decide ((ls.length:Int) < n)||(((atZ ls (n - 1)).unit != u)||((atZ ls (n - 1)).upper != up))) with
  | true=>rw[hc] at h;cases h
  | false=>
    simp only[Bool.or_eq_false_iff,decide_eq_false_iff_not] at hc;omega
theorem aff {s:Sc} {r:Rw} (h:(bo s r).2=true):r.lo≤(s.lems.length:Int)∧r.hi≤(s.lems.length:Int):=by
  have h0:(0:Int)≤(s.lems.length:Int):=Int.natCast_nonneg _;have h1:=fun e=>a26 (ls:=s.lems) (n:=r.lo) (u:=r.index) (up:=false) e
  have h2:=fun e=>a26 (ls:=s.lems) (n:=r.hi) (u:=r.index) (up:=true) e
  unfold bo at h;cases h5:decide (5≤r.kind) with
  | true=>
    rw[h5,cond_true] at h;unfold ce at h;generalize aw s.lems r.lo r.index false=l at*;generalize aw s.lems r.hi r.index true=u at*;cases hi:decide (r.index < 0)||decide ((s.q.g.units.length:Int)≤r.index) with
    | true=>rw[hi] at h;cases h
    | false=>
      rw[hi,cond_false] at h;cases hk:(bz (varR (s.q.g.inputs+r.index)) (atZ s.q.g.units r.index) l u (onQ s r l) (offQ s r u) r).2 with
      | false=>rw[hk] at h;cases h
      | true=>
        clear h;unfold bz onQ offQ at hk;simp only[Bool.cond_eq_ite] at hk
        repeat' split at hk
        all_goals simp only[be,Bool.or_eq_true,beq_iff_eq,Bool.false_eq_true] at hk
        all_goals first
          | (constructor<;>omega)
          | (obtain⟨a,b⟩:=hk;have:=h1 a;omega)
          | (obtain⟨a,b⟩:=hk;have:=h2 a;omega)
          | (obtain⟨a,b,_⟩:=hk;exact⟨h1 a,h2 b⟩)
          | (obtain⟨a,b | b⟩:=hk
             · omega
             · first | (have:=h1 b.1;omega) | (have:=h2 b.1;omega))
  | false=>
    rw[h5,cond_false] at h;cases hz:(r.lo != 0)||((r.hi != 0)||decide (r.index < 0)) with
    | true=>rw[hz] at h;cases h
    | false=>
      simp only[Bool.or_eq_false_iff,bne_eq_false_iff_eq] at hz;omega
theorem go_num {s:Sc}:∀{l:List Mm} {acc F:Fm},eu s l acc=some F→∀m∈l,m.1.lo≤(s.lems.length:Int)∧m.1.hi≤(s.lems.length:Int)
  | [],_,_,_,m,hm=>by cases hm
  | x::l,acc,F,h,m,hm=>by
    rw[eu] at h;cases hf:(bo s x.1).2 with
    | false=>rw[hf] at h;cases h
    | true=>
      rw[hf,cond_true] at h;rcases zP.1 hm with rfl | hm
      · exact aff hf
      · exact go_num h m hm
theorem a80 {s:Sc} {l:List Mm} (h:(sumR s l).2=0):∀m∈l,m.1.lo≤(s.lems.length:Int)∧m.1.hi≤(s.lems.length:Int):=by
  unfold sumR at h;cases hc:fj l with
  | false=>rw[hc] at h;cases h
  | true=>
    rw[hc,cond_true] at h;cases hg:eu s l Fm.zero with
    | none=>rw[hg] at h;cases h
    | some f=>exact go_num hg
theorem y7 {s:Sc} {f:Fm} {l:List Mm} (h:dv s f l=true):∀m∈l,m.1.lo≤(s.lems.length:Int)∧m.1.hi≤(s.lems.length:Int):=by
  unfold dv at h;cases hc:(sumR s l).2 != 0 with
  | true=>rw[hc] at h;cases h
  | false=>exact a80 (by simpa using hc)
theorem a45 {q:Qr} {x:En} (h:d6 q x=true) (h9:x.lems.length≤1000):(∀m∈x.proof,m.1.lo≤1000000∧m.1.hi≤1000000)∧∀y∈x.lems,∀m∈y.proof,m.1.lo≤1000000∧m.1.hi≤1000000:=by
  unfold d6 t4 at h;simp only[be,Bool.not_eq_true',List.any_eq_false,List.mem_range] at h;obtain⟨⟨-,h1⟩,h2⟩:=h
  constructor
  · intro m hm
    have key:m.1.lo≤(((x.sc q).lems.length:Nat):Int)∧m.1.hi≤(((x.sc q).lems.length:Nat):Int):=by
      cases he:x.empty with
      | true=>
        rw[he,cond_true] at h2;unfold g9 at h2;rw[be,beq_iff_eq] at h2;exact a80 h2.1 m hm
      | false=>
        rw[he,cond_false] at h2;exact y7 h2 m hm
    have:(x.sc q).lems.length=x.lems.length:=rfl;omega
  · intro y hy m hm
    obtain⟨i,hi,rfl⟩:=List.mem_iff_getElem.1 hy;have h3:=h1 i hi;have e:atZ (x.sc q).lems (i:Int)=x.lems[i]:=bm (ge hi);have h4:gy ⟨q,x.path,x.lems.take i⟩ x.lems[i]=true:=by
      have h5:badL (x.sc q) i=false:=by simpa using h3
      unfold badL at h5;rw[e,Bool.not_eq_false'] at h5;exact h5
    unfold gy at h4;cases hc:decide ((x.lems[i]).unit < 0)||decide ((q.g.units.length:Int)≤(x.lems[i]).unit) with
    | true=>rw[show (decide ((x.lems[i]).unit < 0)||decide (((⟨q,x.path,x.lems.take i⟩:Sc).q.g.units.length:Int)≤(x.lems[i]).unit))=true from hc] at h4;cases h4
    | false=>
      rw[show (decide ((x.lems[i]).unit < 0)||decide (((⟨q,x.path,x.lems.take i⟩:Sc).q.g.units.length:Int)≤(x.lems[i]).unit))=false from hc,cond_false] at h4;have:=y7 h4 m hm;have h6:(⟨q,x.path,x.lems.take i⟩:Sc).lems.length≤1000:=by show (x.lems.take i).length≤_;rw[List.length_take];omega
      omega
abbrev RTp (q:Qr) (path:List Dc) (n:Nd) (c:Int):Prop:=∀m:Int,c≤m→m≤5000→PCalls Tryz.prog TF 94 [scP ⟨q,path,[]⟩,.agg (ndX n),iP m] (.tup [bP true,iP (m - c)])
structure Gd (q:Qr) (x:En):Prop where
  lg:Lg q x
  rt:RTp q x.path (lfV x) 1
theorem an9 {q:Qr} {x:En} {a b:Nat} (hv:(x.sc q).Va a b) (hx:EnOk x) (hg:q.goal.S 100 8) (ha:d6 q x=true):Gd q x:=by
  have h9:x.lems.length≤1000:=hv.l9;obtain⟨n1,n2⟩:=a45 ha h9;refine⟨⟨?_,nt hx.proof.len dx,n1,by omega,fun y hy=>⟨nt (hx.lems y hy).proof.len dx,n2 y hy⟩⟩,fun m h1 h5=>?_⟩
  · have:=a9t hv hx hg
    rwa [ha] at this
  · have:=ai1 (q:=q) (path:=x.path) (ls:=x.lems) (e:=x.empty) (p:=x.proof) hv hx.lems hx.proof hg h1 h5
    rw[a7k,be] at ha;rw[ha.2] at this;exact this
structure Pt (q:Qr) (A B:List PV) (path:List Dc) (n:Nd) (ks:List PV) (nd:Nd) (c:Int):Prop where
  c0:0≤c
  graft:XCalls Tryz.prog TG 240 [.box 1000 0,.pv (scP ⟨q,path,[]⟩)] (gR q A B) (gR q A B) (.pv (.tup [vxP n ks,bP true]))
  tree:PCalls Tryz.prog TU 161 [vxP n ks] (.agg (ndX nd))
  right:RTp q path nd c
theorem ol {q:Qr} {A B:List PV} {x:En} (hp:PthU x.path) (hk:j4 .string (A.map .pv)) (hA:mget (A.map .pv) (.string (keyB x.path)) (some (enS x))) (hx:Gd q x):Pt q A B x.path (lfV x) [] (lfV x) 1:=
  ⟨by decide,aec hp hk hA hx.lg,aij,hx.rt⟩
theorem ue {q:Qr} {A B:List PV} {path:List Dc} {d:Dc} {n1 n2 e1 e2:Nd} {k1 k2:List PV} {c1 c2:Int} {a:Nat} (hp:PthU path) (hkA:j4 .string (A.map .pv)) (hkB:j4 .string (B.map .pv)) (hA:mget (A.map .pv) (.string (keyB path)) none) (hB:mget (B.map .pv) (.string (keyB path)) (some (.pv (dcsP [d,oppD d])))) (hq:q.Va a) (h4:q.g.inputs+q.g.units.length≤400) (hf:cz q d=true) (hu:d.Un) (h1:PthU (path++[d])) (h2:PthU (path++[oppD d])) (x:Pt q A B (path++[d]) n1 k1 e1 c1) (y:Pt q A B (path++[oppD d]) n2 k2 e2 c2):Pt q A B path (spV d) [vxP n1 k1,vxP n2 k2] (.mk [] d [e1,e2] false []) (1+c1+c2):=
  ⟨by have:=x.c0;have:=y.c0;omega,aeb hp hkA hkB hA hB hq h4 hf hu h1 h2 x.graft y.graft,aii x.tree y.tree,fun m hm h5=>by
    have:=ada hq hu hf h1 h2 x.right y.right x.c0 y.c0 hm h5;rw[show ndX (.mk [] d [e1,e2] false [])=[lmsP [],iP d.kind,iP d.index,bP d.at_.neg,.nat d.at_.num,.nat d.at_.den,.rows 46 9 ndT [ndX e1,ndX e2],bP false,mmsP []] from by rw[← kv e1,← kv e2];rfl];exact this⟩
def Sg (q:Qr) (E:List En):Prop:=∃(A B:List PV) (n:Nd) (ks:List PV) (nd:Nd) (c:Int),c≤5000∧XCalls Tryz.prog TU 99 [.pv (qyP q),.pv (ensP E)] [] (gR q A B) (.box 1000 0)∧Pt q A B [] n ks nd c
abbrev kV (l:List Dc):PV:=.raw (.string (keyB l))
theorem ao4 {k:Int} {j:Nat} (hk:k=1∨k=2) (h:j < 8):(⟨k,(j:Int),Q.zero⟩:Dc).Un:=⟨hk,⟨j,rfl,h⟩,rfl⟩
theorem a3v {q:Qr} {j:Nat} (h:j < q.g.units.length):cz q ⟨1,(j:Int),Q.zero⟩=true:=by
  unfold cz;simp only;rw[dt (by omega:(0:Int)≤(j:Int)),dt (by omega:(j:Int) < (q.g.units.length:Int))];rfl
theorem pth0:PthU []:=⟨fun d h=>(by cases h),by decide,by decide⟩
theorem sg0 {q:Qr} {x:En} (hp:x.path=[]) (hx:Gd q x):Sg q [x]:=by
  obtain⟨p,l,m,f⟩:=x;have hp:p=[]:=hp;subst hp;exact⟨[kV [],ensP [⟨[],l,m,f⟩]],[],_,_,_,_,dx,ae9 pth0,ol (x:=⟨[],l,m,f⟩) pth0 (mkS mk0) mgY hx⟩
theorem nek {a b:List Dc} (ha:PthU a) (hb:PthU b) (h:a≠b):Value.string (keyB a)≠Value.string (keyB b):=aor ha.un hb.un h
theorem sg1 {q:Qr} {d d':Dc} {x y:En} {a:Nat} (hp:x.path=[d]) (hp':y.path=[d']) (hd:oppD d=d') (hx:Gd q x) (hy:Gd q y) (hq:q.Va a) (h4:q.g.inputs+q.g.units.length≤400) (hf:cz q d=true) (h1:PthU [d]) (h2:PthU [d']) (hne:d'≠d):Sg q [x,y]:=by
  obtain⟨p,l,m,f⟩:=x;obtain⟨p',l',m',f'⟩:=y;have hp:p=[d]:=hp;have hp':p'=[d']:=hp';subst hp hp' hd;have u1:=h1.un d (List.mem_singleton_self _);have u2:=h2.un _ (List.mem_singleton_self _);have n1:=nek h1 pth0 (by simp);have n2:=nek h2 pth0 (by simp);have n3:=nek h1 h2 (by simpa using Ne.symm hne);exact⟨[kV [d],ensP [⟨[d],l,m,f⟩],kV [oppD d],ensP [⟨[oppD d],l',m',f'⟩]],[kV [],dcsP [d,oppD d]],_,_,_,_,dx,ae8 u1 u2 pth0 h1 h2 (fun e=>hne (uq u2 u1 e)) n3,
    ue (path:=[]) (d:=d) pth0 (mkS (mkS mk0)) (mkS mk0) (mgN n1 (mgN n2 mg0)) mgY hq h4 hf u1 h1 h2 (ol (x:=⟨[d],l,m,f⟩) h1 (mkS (mkS mk0)) mgY hx) (ol (x:=⟨[oppD d],l',m',f'⟩) h2 (mkS (mkS mk0)) (mgN n3 mgY) hy)⟩
theorem sg2 {q:Qr} {d d' b b':Dc} {x y z t:En} {a:Nat} (px:x.path=[d,b]) (py:y.path=[d,b']) (pz:z.path=[d',b]) (pt:t.path=[d',b']) (hd:oppD d=d') (hb:oppD b=b') (hx:Gd q x) (hy:Gd q y) (hz:Gd q z) (ht:Gd q t) (hq:q.Va a) (h4:q.g.inputs+q.g.units.length≤400) (hf:cz q d=true) (hg:cz q b=true) (h1:PthU [d]) (h2:PthU [d']) (h3:PthU [d,b]) (h5:PthU [d,b']) (h6:PthU [d',b]) (h7:PthU [d',b']) (hne:d'≠d) (hnb:b'≠b):Sg q [x,y,z,t]:=by
  obtain⟨p,l,m,f⟩:=x;obtain⟨p',l',m',f'⟩:=y;obtain⟨p2,l2,m2,f2⟩:=z;obtain⟨p3,l3,m3,f3⟩:=t;have px:p=[d,b]:=px;have py:p'=[d,b']:=py;have pz:p2=[d',b]:=pz;have pt:p3=[d',b']:=pt;subst px py pz pt hd hb;have u1:=h1.un d (List.mem_singleton_self _);have u2:=h2.un _ (List.mem_singleton_self _);have u3:=h3.un b (by simp);have u4:=h5.un (oppD b) (by simp);have hnd:=Ne.symm hne;have hnc:=Ne.symm hnb;have n0d:=nek pth0 h1 (by simp);have n0e:=nek pth0 h2 (by simp);have nde:=nek h1 h2 (by simpa using hnd);have k3:=nek h3 h5 (by simpa using hnc);have k4:=nek h3 h6 (by simpa using hnd);have k5:=nek h3 h7 (by simp[hnd]);have k6:=nek h5 h6 (by simp[hnd]);have k7:=nek h5 h7 (by simpa using hnd);have k8:=nek h6 h7 (by simpa using hnc);have z0:∀{c e:Dc},PthU [c,e]→Value.string (keyB [c,e])≠Value.string (keyB []):=fun h=>nek h pth0 (by simp)
  have z1:∀{c e g:Dc},PthU [c,e]→PthU [g]→Value.string (keyB [c,e])≠Value.string (keyB [g]):=fun h k=>nek h k (by simp)
  have mk4:j4 .string ([kV [d,b],ensP [⟨[d,b],l,m,f⟩],kV [d,oppD b],ensP [⟨[d,oppD b],l',m',f'⟩],kV [oppD d,b],ensP [⟨[oppD d,b],l2,m2,f2⟩],kV [oppD d,oppD b],ensP [⟨[oppD d,oppD b],l3,m3,f3⟩]].map .pv):=mkS (mkS (mkS (mkS mk0)));have mk3:j4 .string ([kV [],dcsP [d,oppD d],kV [d],dcsP [b,oppD b],kV [oppD d],dcsP [b,oppD b]].map .pv):=mkS (mkS (mkS mk0));refine⟨[kV [d,b],ensP [⟨[d,b],l,m,f⟩],kV [d,oppD b],ensP [⟨[d,oppD b],l',m',f'⟩],kV [oppD d,b],ensP [⟨[oppD d,b],l2,m2,f2⟩],kV [oppD d,oppD b],ensP [⟨[oppD d,oppD b],l3,m3,f3⟩]],[kV [],dcsP [d,oppD d],kV [d],dcsP [b,oppD b],kV [oppD d],dcsP [b,oppD b]],_,_,_,_,?_,ae7 u3 u4 u3 u4 u1 u2 pth0 h1 h3 h5 h2 h6 h7 (fun e=>hnb (uq u4 u3 e)) (fun e=>hnb (uq u4 u3 e)) (fun e=>hne (uq u2 u1 e)) n0d n0e nde k3 k4 k5 k6 k7 k8,
    ue (path:=[]) (d:=d) pth0 mk4 mk3 (mgN (z0 h3) (mgN (z0 h5) (mgN (z0 h6) (mgN (z0 h7) mg0)))) mgY hq h4 hf u1 h1 h2
      (ue (path:=[d]) (d:=b) h1 mk4 mk3 (mgN (z1 h3 h1) (mgN (z1 h5 h1) (mgN (z1 h6 h1) (mgN (z1 h7 h1) mg0)))) (mgN n0d mgY) hq h4 hg u3 h3 h5 (ol (x:=⟨[d,b],l,m,f⟩) h3 mk4 mgY hx) (ol (x:=⟨[d,oppD b],l',m',f'⟩) h5 mk4 (mgN k3 mgY) hy))
      (ue (path:=[oppD d]) (d:=b) h2 mk4 mk3 (mgN (z1 h3 h2) (mgN (z1 h5 h2) (mgN (z1 h6 h2) (mgN (z1 h7 h2) mg0)))) (mgN n0e (mgN nde mgY)) hq h4 hg u3 h6 h7 (ol (x:=⟨[oppD d,b],l2,m2,f2⟩) h6 mk4 (mgN k4 (mgN k6 mgY)) hz) (ol (x:=⟨[oppD d,oppD b],l3,m3,f3⟩) h7 mk4 (mgN k5 (mgN k7 (mgN k8 mgY))) ht))⟩
  decide
theorem ent0 (n:Nd) (path:List Dc) (lems:List Lm):∃x,entR 0 n path lems=[x]∧x.path=path:=by
  obtain⟨ls,d,ks,e,p⟩:=n;exact⟨_,rfl,rfl⟩
theorem ahi (L:List Nat):Sg (bu L) (lr (bu L) (entR (jk L) (o8 L) [] []))∧lr (bu L) (entR (jk L) (o8 L) [] [])=(entR (jk L) (o8 L) [] []).map d7:=by
  obtain⟨g1,g2,g3,g4,g5⟩:=a10 L;have hk2:=a4e L;have hE:=abu g5 (nt hk2 dx) g1 dx dx g2;have hu:jk L≤(bu L).g.units.length:=by rw[(km L).1];exact mc L _
  have he:lr (bu L) (entR (jk L) (o8 L) [] [])=(entR (jk L) (o8 L) [] []).map d7:=List.filter_eq_self.2 fun y hy=>by
    obtain⟨x,hx,rfl⟩:=List.mem_map.1 hy;exact xq L x hx
  refine⟨?_,he⟩;rw[he];have hg:∀x∈entR (jk L) (o8 L) [] [],Gd (bu L) (d7 x):=fun x hx=>an9 (hE x hx).2.2.2 (hE x hx).2.2.1 g3 (xq L x hx)
  have h4:(bu L).g.inputs+(bu L).g.units.length≤400:=nt g2 dx;clear he hE g2 g3 g4 g5;have u:∀(k:Int) (j:Nat),k=1∨k=2→j < 2→(⟨k,(j:Int),Q.zero⟩:Dc).Un:=fun k j hk hj=>ao4 hk om
  have p1:∀(k:Int) (j:Nat),k=1∨k=2→j < 2→PthU [(⟨k,(j:Int),Q.zero⟩:Dc)]:=fun k j hk hj=>⟨fun d h=>by rw[mj h];exact u k j hk hj,by simp,by simp⟩
  have p2:∀(k l:Int),k=1∨k=2→l=1∨l=2→PthU [(⟨k,1,Q.zero⟩:Dc),⟨l,0,Q.zero⟩]:=fun k l hk hl=>⟨fun d h=>by
    rcases zP.1 h with rfl | h
    · exact u k 1 hk dx
    · rw[mj h];exact u l 0 hl dx,by simp,by simp⟩
  unfold o8 at hg ⊢;have ek:cj L (ak L).1.g.units.length=jk L:=rfl;rw[ek] at hg ⊢;generalize jk L=K at*;generalize cw (bu L)=s at*;generalize bu L=q at*
  match K,hk2 with
  | 0,_=>
    obtain⟨x,e,hp⟩:=ent0 (bp 0 s true).1 [] [];rw[e] at hg ⊢;exact sg0 hp (hg x (List.mem_singleton_self _))
  | 1,_=>
    obtain⟨x,e1,hx⟩:=ent0 (bp 0 (s.dec 1 0) false).1 [⟨1,0,Q.zero⟩] ([]++s.lems);obtain⟨y,e2,hy⟩:=ent0 (bp 0 (s.dec 2 0) false).1 [⟨2,0,Q.zero⟩] ([]++s.lems);have e:entR 1 (bp 1 s true).1 [] []=[x,y]:=by
      show entR 0 (bp 0 (s.dec 1 0) false).1 [⟨1,0,Q.zero⟩] ([]++s.lems)++entR 0 (bp 0 (s.dec 2 0) false).1 [⟨2,0,Q.zero⟩] ([]++s.lems)=_;rw[e1,e2];rfl
    rw[e] at hg ⊢;exact sg1 (x:=d7 x) (y:=d7 y) hx hy rfl (hg x (by simp)) (hg y (by simp)) g1 h4 (a3v (j:=0) hu) (p1 1 0 (.inl rfl) dx) (p1 2 0 (.inr rfl) dx) dx
  | 2,_=>
    obtain⟨x,e1,hx⟩:=ent0 (bp 0 ((s.dec 1 1).dec 1 0) false).1 [⟨1,1,Q.zero⟩,⟨1,0,Q.zero⟩] (([]++s.lems)++[]);obtain⟨y,e2,hy⟩:=ent0 (bp 0 ((s.dec 1 1).dec 2 0) false).1 [⟨1,1,Q.zero⟩,⟨2,0,Q.zero⟩] (([]++s.lems)++[]);obtain⟨z,e3,hz⟩:=ent0 (bp 0 ((s.dec 2 1).dec 1 0) false).1 [⟨2,1,Q.zero⟩,⟨1,0,Q.zero⟩] (([]++s.lems)++[]);obtain⟨t,e4,ht⟩:=ent0 (bp 0 ((s.dec 2 1).dec 2 0) false).1 [⟨2,1,Q.zero⟩,⟨2,0,Q.zero⟩] (([]++s.lems)++[]);have e:entR 2 (bp 2 s true).1 [] []=[x,y,z,t]:=by
      show (entR 0 (bp 0 ((s.dec 1 1).dec 1 0) false).1 [⟨1,1,Q.zero⟩,⟨1,0,Q.zero⟩] (([]++s.lems)++[])++entR 0 (bp 0 ((s.dec 1 1).dec 2 0) false).1 [⟨1,1,Q.zero⟩,⟨2,0,Q.zero⟩] (([]++s.lems)++[]))++(entR 0 (bp 0 ((s.dec 2 1).dec 1 0) false).1 [⟨2,1,Q.zero⟩,⟨1,0,Q.zero⟩] (([]++s.lems)++[])++entR 0 (bp 0 ((s.dec 2 1).dec 2 0) false).1 [⟨2,1,Q.zero⟩,⟨2,0,Q.zero⟩] (([]++s.lems)++[]))=_;rw[e1,e2,e3,e4];rfl
    rw[e] at hg ⊢;exact sg2 (x:=d7 x) (y:=d7 y) (z:=d7 z) (t:=d7 t) hx hy hz ht rfl rfl (hg x (by simp)) (hg y (by simp)) (hg z (by simp)) (hg t (by simp)) g1 h4 (a3v (j:=1) hu) (a3v (j:=0) om) (p1 1 1 (.inl rfl) dx) (p1 2 1 (.inr rfl) dx) (p2 1 1 (.inl rfl) (.inl rfl)) (p2 1 2 (.inl rfl) (.inr rfl)) (p2 2 1 (.inr rfl) (.inl rfl)) (p2 2 2 (.inr rfl) (.inr rfl)) dx dx
def en0 (l:List Mm):En:=⟨[],[],false,l⟩
def lfN (l:List Mm):Nd:=.mk [] ⟨0,0,Q.zero⟩ [] false l
def exX (c:Int):Qr:=⟨⟨1,[],[varR 0]⟩,⟨[Q.zero],[ofQ 1],[]⟩,Fm.addR (varR 0) (numR (ofQ c))⟩
def exL:List Mm:=[(⟨1,0,0,0⟩,ofQ 1)]
theorem p_ex {c:Int} (h1:-1000000000≤c) (h2:c≤1000000000) (hs:(ofQ c).S 1):PCalls Tryz.prog TF 23 [iP c] (.tup [qyP (exX c),.agg (ndX (lfN exL))]):=by
 refine pcA [39,46,27,39] Tryz.func23 (fun D=>?_);refine ac (c:=a38 0) ?_;refine ac (c:=r_of 1 dx dx) ?_;refine ac (c:=a38 0) ?_;refine ac (c:=r_of c h1 h2) ?_;refine ac (c:=a1e) ?_;refine ac (c:=a52 (ff 0) (db hs) dx dx) ?_;refine ac (c:=r_of 1 dx dx) ?_;exact ar (c:=rfl)
def exG (q:Q):Fm:=⟨[(0,Q.one)],q⟩
def exY (q:Q):Qr:=⟨⟨1,[],[varR 0]⟩,⟨[Q.zero],[Q.one],[]⟩,exG q⟩
theorem ak9:exX 1=exY Q.one:=by unfold exX exY;rw[show Fm.addR (varR 0) (numR (ofQ 1))=exG Q.one from by decide,show ofQ 1=Q.one from by decide]
theorem afj:exX (-1)=exY Q.mone:=by unfold exX exY;rw[show Fm.addR (varR 0) (numR (ofQ (-1)))=exG Q.mone from by decide,show ofQ 1=Q.one from by decide]
theorem aka {q:Q} (h:q.S 1):(exG q).S 1 1:=⟨⟨(ff 0).cn.srt,(ff 0).cn.nz,h.ok⟩,(ff 0).each,h,nr _⟩
theorem anc {q:Q} (h:q.Ok):(exG q).Ok 1:=⟨fun i s t hs ht=>by simp[exG] at ht,fun t ht=>by rw[mj ht];exact⟨by decide,by decide,by decide,by decide⟩,h⟩
theorem abt {q:Q} (h:q.S 1):(exY q).Va 1:=by
 have hv:(varR 0).Ok 1:=anc (by decide:Q.zero.Ok);refine⟨⟨nr _,by show 1≤256;decide,by show 0≤1024;decide,by show 1≤1;decide,by show 1≤256;decide,fun j f hf=>by simp[exY] at hf,fun f hf=>by rw[mj hf];exact (ff 0).fsm dx hv⟩,fun f hf=>(by cases hf),⟨nr _,by show 1≤256;decide,rfl,rfl,fun q hq=>by rw[mj hq];exact sz_zero,fun q hq=>by rw[mj hq];exact sz_one,fun i a b ha hb=>?_,by show 0≤256;decide,fun f hf=>(by cases hf),by decide⟩,anc h.ok,(aka h).up dx (nr _)⟩;cases i with
 | zero=>
  simp only[exY,List.getElem?_cons_zero,oq] at ha hb;subst ha hb
  decide
 | succ i=>simp[exY] at ha
theorem ane:PfOk exL:=⟨fun m hm=>by rw[mj hm];exact ((show ofQ 1=Q.one from by decide)▸sz_one:(ofQ 1).S 1).up dx,by decide⟩
theorem ak8:EnOk (en0 exL):=⟨fun m hm=>(by cases hm),ane⟩
theorem anb:d7 (en0 exL)=en0 exL:=rfl
theorem ana {q:Q} (h:q.S 1):((en0 exL).sc (exY q)).Va 1 1:=⟨abt h,fun d hd=>(by cases hd),by show 0≤1000;decide,fun m hm=>(by cases hm),by show 0≤1000;decide,by decide,by decide,by decide,by show 1+0≤8;decide⟩
theorem abr {q:Q} (h:q.S 1):f6 Tryz.prog TE 12 [qyP (exY q),.agg (ndX (lfN exL))] (.tup [ensP (lr (exY q) [en0 exL]),iP 0]):=
 a1k (k:=0) (n:=lfN exL) ⟨rfl,rfl⟩ ⟨by decide,by decide⟩ dx (abt h) (by show 1+0≤8;decide) ((aka h).up dx dx) fun x hx=>by
  rw[show x=en0 exL from mj hx,anb];exact⟨ak8,by show 0≤1000;decide,ak8,ana h⟩
theorem af1:lr (exY Q.one) [en0 exL]=[en0 exL]:=by kernel_rfl
theorem ab6:lr (exY Q.mone) [en0 exL]=[]:=by kernel_rfl
theorem a6b:f6 Tryz.prog TE 12 [qyP (exY Q.one),.agg (ndX (lfN exL))] (.tup [ensP [en0 exL],iP 0]):=by
 have:=abr sz_one;rwa [af1] at this
theorem afi:f6 Tryz.prog TE 12 [qyP (exY Q.mone),.agg (ndX (lfN exL))] (.tup [ensP [],iP 0]):=by
 have:=abr er;rwa [ab6] at this
theorem aok:PCalls Tryz.prog TF 23 [iP 1] (.tup [qyP (exY Q.one),.agg (ndX (lfN exL))]):=by
 have:=p_ex (c:=1) dx dx ((show ofQ 1=Q.one from by decide)▸sz_one);rwa [ak9] at this
theorem aoj:PCalls Tryz.prog TF 23 [iP (-1)] (.tup [qyP (exY Q.mone),.agg (ndX (lfN exL))]):=by
 have:=p_ex (c:=-1) dx dx ((show ofQ (-1)=Q.mone from by decide)▸er);rwa [afj] at this
theorem aou:Sg (exY Q.one) [en0 exL]:=sg0 rfl (an9 (ana sz_one) ak8 ((aka sz_one).up dx dx) (by kernel_rfl))
theorem ank {d:Nat} (h:d < 3):∃t a,domV d=.iface t a:=by
 have:d=0∨d=1∨d=2:=by omega
 rcases this with rfl | rfl | rfl<;>exact⟨_,_,rfl⟩
theorem a4o {q:Qr} {n:Nd} {E:List En} {o:Ow} {s:Nat} (hs:Sg q E) (hq:q.Va s) (h4:q.g.inputs+q.g.units.length≤400) (ho:o.Ok) (hE:f6 Tryz.prog TE 12 [qyP q,.agg (ndX n)] (.tup [ensP E,iP 0])):∃nd,f6 Tryz.prog TG 16 [qyP q,.agg (ndX n),owP o] (.tup [ouP nd,iP ((E.map enC).length:Int),iP 0])∧PCalls Tryz.prog TF 18 [qyP q,owP o,ouP nd] (bP true):=by
 obtain⟨A,B,m,ks,nd,c,hc,hi,pt⟩:=hs;obtain⟨t,a,hd⟩:=ank ho.dm;have hg:=aoi ho.dm;rw[hd] at hg;exact⟨nd,ait hE (adz hq h4 ho hg hi pt.graft pt.tree),a9a (a92 hq pt.right hc)⟩
theorem al9 (x y:Dc):PCalls Tryz.prog [] 143 [dcP x,dcP y] (bP (dcEq x y)):=by
 refine pcA [42] Tryz.func143 (fun D=>?_);refine a2 (fun e10=>?_) (fun e10=>?_)
 ·refine a2 (fun e17=>?_) (fun e17=>?_)
  ·refine ac (c:=a1d) ?_;exact ar (c:=by (try simp only[zB] at *);simp only[dcEq,e10,e17,sb]<;>rfl)
  ·exact ar (c:=by (try simp only[zB] at *);simp only[dcEq,e10,e17,sb]<;>rfl)
 ·exact ar (c:=by (try simp only[zB] at *);simp only[dcEq,e10,sb]<;>rfl)
theorem aia {ls:List Lm} {e:Bool} {p:List Mm} {depth:Int} (h:depth≤2048):PCalls Tryz.prog [] 89 [ndP (.mk ls dc0 [] e p),iP depth] (.tup [bP true,iP 1]):=by
 refine pcA [46] Tryz.func89 (fun D=>?_);refine akF (c:=by exact (show _=false from df om)) ?_;refine akT (c:=by exact (show _=true from rfl)) ?_;refine ac (c:=al9 dc0 dc0) ?_;exact ar (c:=rfl)
theorem ai9 {ls:List Lm} {d:Dc} {a b:Nd} {depth A:Int} (h:depth≤2048) (h0:0≤depth) (h1:1≤d.kind) (h2:d.kind≤4) (hA:0≤A) (hA9:A≤60000) (ia:PCalls Tryz.prog [] 89 [ndP a,iP (depth+1)] (.tup [bP true,iP A])) (ib:PCalls Tryz.prog [] 89 [ndP b,iP (depth+1)] (.tup [bP true,iP A])):PCalls Tryz.prog [] 89 [ndP (.mk ls d [a,b] false []),iP depth] (.tup [bP true,iP (1+A+A)]):=by
 obtain⟨l1,d1,k1,e1,p1⟩:=a;obtain⟨l2,d2,k2,e2,p2⟩:=b;refine pcA [46] Tryz.func89 (fun D=>?_);refine akF (c:=by exact (show _=false from df om)) ?_;refine akF (c:=by exact (show _=false from rfl)) ?_;refine akF (c:=by exact (show _=false from rfl)) ?_;refine akF (c:=by exact (show _=false from df om)) ?_;refine akF (c:=by exact (show _=false from df om)) ?_;refine akF (c:=by exact (show _=false from rfl)) ?_;refine au ?_;refine ro0 Y Y Y (fun hd=>cg (i:=0) ah Y Y Y Y Y dx Y Y hd) ?_;refine aa (c:=j9 om om om om) ?_;refine ac (c:=ia) ?_;refine akF (c:=by exact (show _=false from df om)) ?_;refine au ?_;refine ro0 Y Y Y (fun hd=>cg (i:=1) ah Y Y Y Y Y dx Y Y hd) ?_;refine aa (c:=j9 om om om om) ?_;refine ac (c:=ib) ?_;refine aa (c:=j9 om om om om) ?_;refine aa (c:=j9 om om om om) ?_;exact ar (c:=rfl)
theorem a39:∀(k:Nat) {n:Nd} {depth:Int},n.Wf k→0≤depth→depth+(k:Int)≤2048→k≤10→PCalls Tryz.prog [] 89 [ndP n,iP depth] (.tup [bP true,iP (szK k)])
 | 0,.mk ls d ks e p,depth,h,h0,hd,_=>by
  obtain⟨rfl,rfl⟩:=h;exact aia om
 | k+1,.mk ls d ks e p,depth,h,h0,hd,hk=>by
  obtain⟨rfl,rfl,h1,h2,a,b,rfl,ha,hb⟩:=h;have hs:=a4h k om;exact ai9 (A:=(szK k:Int)) om h0 h1 h2 om om (a39 k ha om om om) (a39 k hb om om om)
theorem ad7 {n:Nd} {k:Nat} (h:n.Wf k) (hk:k≤10):PCalls Tryz.prog [] 41 [ndP n] (bP true):=by
 obtain⟨ls,d,ks,e,p⟩:=n;have hs:=a4h k hk;refine pcA [46] Tryz.func41 (fun D=>?_);refine au ?_;refine rc0 (a39 k h dx om hk) Y Y Y Y Y Y Y ?_;refine akT (c:=by exact (show _=true from dt om)) ?_;exact ar (c:=rfl)
theorem abl {id:Nat} {p:PV} (s:SV):(s.kill id).fz id p=s.kill id:=by
 unfold SV.kill;cases hc:s.ids.contains id with
 | true=>rfl
 | false=>
  show s.fz id p=s;cases s with
  | tok i=>
   show (bif Nat.beq i id then SV.pv p else SV.tok i)=_;cases hb:Nat.beq i id with
   | true=>
    have hm:id∈(SV.tok i).ids:=by rw[zF hb];exact List.mem_singleton_self _
    rw[zE.2 hm] at hc;cases hc
   | false=>rfl
  | _=>first | rfl | (show (bif _ then SV.any else _)=_;rw[hc];rfl)
theorem ajc {C:Cx} {tys:List Nat} {o:Oper} {st:St} {id e k:Nat} {ts:List Nat} {xs:List (List PV)} (hk:0 < k) (h:OpE C tys o st ⟨.tok id,some (id,.tok e k ts xs),[id],true⟩):OpE C tys o st ⟨.pv (.rows e k ts xs),some (id,.tok e k ts []),[id],true⟩:=by
 refine⟨fun i r e=>?_,fun st1 h1 h2 ht a w hi=>pd (fun v w' hv=>?_) (h.2 st1 h1 h2 ht a w hi)⟩
 ·injection e with e;injection e with e1 e2;subst e1 e2;exact⟨zH.2 rfl,(h.1 _ _ rfl).2⟩
 have hf:=ah4 (id:=id) (e:=e) (k:=k) (ts:=ts) (xs:=xs) (show (bif Nat.beq id id then _ else _)=_ from by rw[Nat.beq_refl];rfl) hv;have hb:∀{j},j≠id→Nat.beq j id=false:=fun {j} hn=>by
  cases hbi:Nat.beq j id with
  | true=>exact (hn (zF hbi)).elim
  | false=>rfl
 have old:∀t,aj7 id (.rows e k ts xs) (lj id (st1.slot t))=lj id (st1.slot t):=fun t=>by
  cases st1.slot t with
  | none=>rfl
  | some s=>exact congrArg some (abl s)
 have oldR:∀j,a5j id (.rows e k ts xs) (ik id (st1.res j))=ik id (st1.res j):=fun j=>by
  cases st1.res j with
  | none=>rfl
  | some r=>
   cases r with
   | box ty cs=>
    show some (Res.box ty ((cs.map (SV.kill id)).map (SV.fz id _)))=some (Res.box ty _);rw[List.map_map];exact congrArg (fun l=>some (Res.box ty l)) (List.map_congr_left fun s _=>abl s)
   | tok e k ts xs=>rfl
 refine a3p hf (show (bif Nat.beq id id then none else _)=none from by rw[Nat.beq_refl];rfl) hk (fun t s hs=>.inl ?_) (show (bif Nat.beq id id then _ else _)=_ from by rw[Nat.beq_refl];rfl) (fun j r hj hr=>.inl ?_) fun j hj=>?_
 ·cases hd:o.dst with
  | none=>
   simp only[hd] at hs;exact (old t).trans hs
  | some d=>
   simp only[hd,Eff.app] at hs;show aj7 id _ (bif Nat.beq t d then some (.tok id) else _)=_;cases hbt:Nat.beq t d with
   | true=>
    rw[hbt] at hs;injection hs with hs;subst hs;show some (bif Nat.beq id id then _ else _)=_;rw[Nat.beq_refl];rfl
   | false=>
    rw[hbt] at hs;exact (old t).trans hs
 ·have hr:(bif Nat.beq j id then _ else ik id (st1.res j))=some r:=hr;show (bif Nat.beq j id then none else a5j id _ (bif Nat.beq j id then _ else ik id (st1.res j)))=_;rw[hb hj] at hr ⊢;exact (oldR j).trans hr
 ·have hj:(bif Nat.beq j id then none else a5j id (.rows e k ts xs) (bif Nat.beq j id then _ else ik id (st1.res j)):Option Res).isSome=true:=hj;show (bif Nat.beq j id then _ else ik id (st1.res j):Option Res).isSome=true;cases hbi:Nat.beq j id with
  | true=>rfl
  | false=>
   rw[hbi] at hj;have:=oldR j;rw[← this];exact hj
section
variable {T:List Nat} {Z:Nat} {D:Dom Tryz.prog T Z} {N:Nat} {st:St} {Q:Exit→St→Prop} {ops:List Oper} {draw:Bool} {acc:List Itm}
theorem rpv0 {k:Nat} {ks:List Nat} {dst:Option Nat} {t e kk bytes id:Nat} {x y:Operand} {ts ts2:List Nat} {xs ys:List (List PV)} {s:SV} {ty:TypeId} {ps:String} {af:Array Edge} {gd:Option (Nat×Bool)} (hE:ElemS Tryz.prog t e kk bytes) (hlen:xs.length+ys.length≤100000000) (hk:nthL ops k=some ⟨dst,.call { callee:=.builtin .append,args:=#[x,y],argTypes:=#[t,t] },ty,ps,af,gd⟩) (hw:co ops.toArray ⟨dst,.call { callee:=.builtin .append,args:=#[x,y],argTypes:=#[t,t] },ty,ps,af,gd⟩ st=some true) (hd:dstB ⟨dst,.call { callee:=.builtin .append,args:=#[x,y],argTypes:=#[t,t] },ty,ps,af,gd⟩ N Z=true) (hx:ev st x=some (.tok id)) (hr:st.res id=some (.tok e kk ts xs)) (hy:ev st y=some s) (hco:coSV st s=some (.rows e kk ts2 ys)) (hc:(s.ids.isEmpty&&ts2.all (fun t=>ts.contains t)&&st.tys.contains e&&Nat.ble bytes 1000)=true)
  (next:Reg (D.cx N) ops draw Q (acc++[⟨k,true,⟨.pv (.rows e kk ts (xs++ys)),some (id,.tok e kk ts []),[id],true⟩,lkOf ops k st (⟨.pv (.rows e kk ts (xs++ys)),some (id,.tok e kk ts []),[id],true⟩:Eff)⟩]) ks ((⟨.pv (.rows e kk ts (xs++ys)),some (id,.tok e kk ts []),[id],true⟩:Eff).app dst st)):Reg (D.cx N) ops draw Q acc (k::ks) st:=by
 simp only[be] at hc;obtain⟨⟨⟨h1,h2⟩,h3⟩,h4⟩:=hc;have h4:=zD h4;have h5:(xs.length+ys.length)*bytes≤100000000*1000:=Nat.mul_le_mul hlen h4;exact dh hk hw hd (fun hd=>ajc hE.pos (a3j hE rfl (.inl ⟨hx,hr⟩) hy (io hco) (List.isEmpty_iff.1 h1) (fun t ht=>zE.1 (zG.1 h2 t ht)) (zE.1 h3) (by unfold maxLen;omega) om hd)) next
end
theorem ai4 (d:Dc):PCalls Tryz.prog [] 213 [dcP d] (dcP (oppD d)):=by
 refine pcA [42] Tryz.func213 (fun D=>?_);refine a2 (fun e5=>?_) (fun e5=>?_)
 ·exact ar (c:=mh e5 rfl rfl)
 ·refine a2 (fun e8=>?_) (fun e8=>?_)
  ·exact ar (c:=mh e8 rfl rfl)
  ·refine a2 (fun e11=>?_) (fun e11=>?_)
   ·exact ar (c:=mh e11 rfl rfl)
   ·refine a2 (fun e14=>?_) (fun e14=>?_)
    ·exact ar (c:=mh e14 rfl rfl)
    ·exact ar (c:=a8l e5 e8 e11 e14)
theorem alg {ls:List Lm} {d:Dc} {e:Bool} {p:List Mm} {path:List Dc} {ks:List (List PV)} (h2:path.length≤100000):PCalls Tryz.prog [] 163 [dcsP path,.agg [lmsP ls,iP d.kind,iP d.index,bP d.at_.neg,.nat d.at_.num,.nat d.at_.den,.rows 46 9 ndT ks,bP e,mmsP p],iP 0] (dcsP (path++[d])):=by
 refine pcA [42,46] Tryz.func163 (fun D=>?_);refine akF (c:=by exact (show _=false from rfl)) ?_;refine au ?_;refine rp0 el_Decision (by simp;omega) Y Y Y Y Y Y Y Y ?_;refine au ?_;refine rp0 el_Decision (by simp;omega) Y Y Y Y Y Y Y Y ?_;exact ar (c:=congrArg (PV.rows _ _ _) (show []++path.map dcC++[dcC d]=(path++[d]).map dcC from by rw[zN];rfl))
theorem alf {ls:List Lm} {d:Dc} {e:Bool} {p:List Mm} {path:List Dc} {ks:List (List PV)} (h2:path.length≤100000):PCalls Tryz.prog [] 163 [dcsP path,.agg [lmsP ls,iP d.kind,iP d.index,bP d.at_.neg,.nat d.at_.num,.nat d.at_.den,.rows 46 9 ndT ks,bP e,mmsP p],iP 1] (dcsP (path++[(oppD d)])):=by
 refine pcA [42,46] Tryz.func163 (fun D=>?_);refine akT (c:=by exact (show _=true from rfl)) ?_;refine ac (c:=ai4 d) ?_;refine au ?_;refine rp0 el_Decision (by simp;omega) Y Y Y Y Y Y Y Y ?_;refine au ?_;refine rp0 el_Decision (by simp;omega) Y Y Y Y Y Y Y Y ?_;exact ar (c:=congrArg (PV.rows _ _ _) (show []++path.map dcC++[dcC (oppD d)]=(path++[(oppD d)]).map dcC from by rw[zN];rfl))
theorem adl {ls:List Lm} {d:Dc} {e:Bool} {p:List Mm} {path:List Dc} (h2:path.length≤100000):PCalls Tryz.prog [] 102 [dcsP path,.agg [lmsP ls,iP d.kind,iP d.index,bP d.at_.neg,.nat d.at_.num,.nat d.at_.den,.rows 46 9 ndT [],bP e,mmsP p]] (.rows 113 10 enT [[dcsP path,lmsP ls,iP d.kind,iP d.index,bP d.at_.neg,.nat d.at_.num,.nat d.at_.den,.rows 46 9 ndT [],bP e,mmsP p]]):=by
 refine pcA [46,42,113] Tryz.func102 (fun D=>?_);refine pa Y Y (pr0 (qg 2 ?_));refine rpv0 el_Decision (by simp;omega) Y Y Y Y Y Y Y Y ?_;refine qg 2 ?_;refine rlk0 12 Y Y Y Y Y Y Y Y Y ?_;refine au ?_;refine pul 1 ?_;refine pur ?_;refine akF (c:=by exact (show _=false from rfl)) ?_;exact ar (c:=rfl)
theorem adk {ls:List Lm} {d:Dc} {e:Bool} {p:List Mm} {path:List Dc} {a b:Nd} {xa xb:List (List PV)} (h9:xa.length+xb.length≤1000000) (h1:PCalls Tryz.prog [] 102 [dcsP (path++[d]),.agg (ndX a)] (.rows 113 10 enT xa)) (h3:PCalls Tryz.prog [] 102 [dcsP (path++[oppD d]),.agg (ndX b)] (.rows 113 10 enT xb)) (h2:path.length≤100000):PCalls Tryz.prog [] 102 [dcsP path,.agg [lmsP ls,iP d.kind,iP d.index,bP d.at_.neg,.nat d.at_.num,.nat d.at_.den,.rows 46 9 ndT [ndX a,ndX b],bP e,mmsP p]] (.rows 113 10 enT ([[dcsP path,lmsP ls,iP d.kind,iP d.index,bP d.at_.neg,.nat d.at_.num,.nat d.at_.den,.rows 46 9 ndT [ndX a,ndX b],bP e,mmsP p]]++xa++xb)):=by
 refine pcA [46,42,113] Tryz.func102 (fun D=>?_);refine pa Y Y (pr0 (qg 2 ?_));refine rpv0 el_Decision (by simp;omega) Y Y Y Y Y Y Y Y ?_;refine qg 2 ?_;refine rlk0 12 Y Y Y Y Y Y Y Y Y ?_;refine au ?_;refine pul 3 ?_;refine pur ?_;refine akT (c:=by exact (show _=true from rfl)) ?_;refine ac (c:=alg h2) ?_;refine au ?_;refine ro0 Y Y Y (fun hd=>cg (i:=0) ah Y Y Y Y Y dx Y Y hd) ?_;refine ac (c:=h1) ?_;refine rp0 a6d (by simp;omega) Y Y Y Y Y Y Y Y ?_;refine aa (c:=(show _=some (1:Int) from rfl)) ?_;refine au ?_;refine pur ?_;refine akT (c:=by exact (show _=true from rfl)) ?_;refine ac (c:=alf h2) ?_;refine au ?_;refine ro0 Y Y Y (fun hd=>cg (i:=1) ah Y Y Y Y Y dx Y Y hd) ?_;refine ac (c:=h3) ?_;refine rp0 a6d (by simp;omega) Y Y Y Y Y Y Y Y ?_;refine aa (c:=(show _=some (2:Int) from rfl)) ?_;refine au ?_;refine pur ?_;refine akF (c:=by exact (show _=false from rfl)) ?_;exact ar (c:=rfl)
def visR:Nat→Nd→List Dc→List (List Dc×Nd)
 | 0,n,path=>[(path,n)]
 | k+1,.mk ls d ks e p,path=>match ks with
  | [a,b]=>[(path,.mk ls d [a,b] e p)]++visR k a (path++[d])++visR k b (path++[oppD d])
  | _=>[]
abbrev visC (v:List Dc×Nd):List PV:=dcsP v.1::ndX v.2
def tb (v:List Dc×Nd):Bool:=((ndCs v.2.kids).length:Int) == 0
theorem po:∀(k:Nat) (n:Nd) (path:List Dc),(visR k n path).length≤2 ^ (k+1) - 1
 | 0,n,path=>by show 1≤_;decide
 | k+1,.mk ls d ks e p,path=>by
  have h0:0 < 2 ^ k:=Nat.pow_pos dx;rw[Nat.pow_succ,Nat.pow_succ]
  match ks with
  | []=>exact nq _
  | [_]=>exact nq _
  | [a,b]=>
   have h1:=po k a (path++[d]);have h2:=po k b (path++[oppD d]);rw[Nat.pow_succ] at h1 h2;show ([_]++visR k a _++visR k b _).length≤_;rw[zI,zI];simp only[List.length_singleton];omega
  | _::_::_::_=>exact nq _
theorem a3d:∀(k:Nat) (n:Nd) (path:List Dc),n.Wf k→k≤8→path.length≤100 - k→PCalls Tryz.prog [] 102 [dcsP path,.agg (ndX n)] (.rows 113 10 enT ((visR k n path).map visC))
 | 0,.mk ls d ks e p,path,hw,hk,h1=>by
  obtain⟨_,rfl⟩:=hw;exact adl om
 | k+1,.mk ls d ks e p,path,hw,hk,h1=>by
  obtain⟨_,_,_,_,a,b,rfl,ha,hb⟩:=hw;have h8:2 ^ (k+1)≤2 ^ 8:=zS dx om;have l1:=po k a (path++[d]);have l2:=po k b (path++[oppD d]);have:=adk (ls:=ls) (d:=d) (e:=e) (p:=p) (path:=path) (by rw[zB,zB];omega) (a3d k a (path++[d]) ha om (by rw[zI];simp;omega)) (a3d k b (path++[oppD d]) hb om (by rw[zI];simp;omega)) om;rw[show (visR (k+1) (.mk ls d [a,b] e p) path).map visC=[dcsP path::ndX (.mk ls d [a,b] e p)]++(visR k a (path++[d])).map visC++(visR k b (path++[oppD d])).map visC from by
   show ([_]++_++_).map visC=_;rw[zN,zN];rfl]
  rw[show ndX (.mk ls d [a,b] e p)=[lmsP ls,iP d.kind,iP d.index,bP d.at_.neg,.nat d.at_.num,.nat d.at_.den,.rows 46 9 ndT [ndX a,ndX b],bP e,mmsP p] from by rw[← kv a,← kv b];rfl];exact this
theorem rk:∀(k:Nat) (n:Nd) (path:List Dc),n.Wf k→((visR k n path).filter tb).length=2 ^ k
 | 0,.mk ls d ks e p,path,hw=>by
  obtain⟨_,rfl⟩:=hw;rfl
 | k+1,.mk ls d ks e p,path,hw=>by
  obtain⟨_,_,_,_,a,b,rfl,ha,hb⟩:=hw;show (([_]++visR k a _++visR k b _).filter tb).length=_;rw[List.filter_append,List.filter_append,zI,zI,rk k a _ ha,rk k b _ hb,Nat.pow_succ,show ([(path,Nd.mk ls d [a,b] e p)].filter tb).length=0 from rfl];omega
theorem so:∀(k:Nat) (n:Nd) (path:List Dc) (lems:List Lm),n.Wf k→(entR k n path lems).length=2 ^ k
 | 0,.mk ls d ks e p,path,lems,hw=>rfl
 | k+1,.mk ls d ks e p,path,lems,hw=>by
  obtain⟨_,_,_,_,a,b,rfl,ha,hb⟩:=hw;show (entR k a _ _++entR k b _ _).length=_;rw[zI,so k a _ _ ha,so k b _ _ hb,Nat.pow_succ];omega
theorem a6f {V:List (List Dc×Nd)} {i:Nat} {b:Bool} (hi:i < V.length) (hb:tb (atZ V (i:Int))=b):((V.take (i+1)).filter tb).length=bif b then ((V.take i).filter tb).length+1 else ((V.take i).filter tb).length:=by
 rw[List.take_add_one,ab hi,List.filter_append,zI];cases b with
 | true=>rw[show (some (atZ V (i:Int))).toList.filter tb=[atZ V (i:Int)] from List.filter_eq_self.2 fun x hx=>by simp at hx;rw[hx,hb]];rfl
 | false=>rw[show (some (atZ V (i:Int))).toList.filter tb=[] from List.filter_eq_nil_iff.2 fun x hx=>by simp at hx;rw[hx,hb];exact Bool.false_ne_true];rfl
theorem a3c {n:Nd} {k:Nat} (hw:n.Wf k) (hk:k≤8):PCalls Tryz.prog [] 102 [.raw (.slice none 0 0),.agg (ndX n)] (.rows 113 10 enT ((visR k n []).map visC)):=
 PCalls.nil (pre:=[]) (post:=[.agg (ndX n)]) (e:=42) (k:=5) (ts:=[200]) (a3d k n [] hw hk (nq _))
theorem ahx {n:Nd} {k:Nat} (h:n.Wf k) (hk:k≤10):PCalls Tryz.prog [] 41 [.agg (ndX n)] (bP true):=by
 have:=ad7 h hk;unfold ndP at this;rwa [kv] at this
theorem aob {n:Nd} {k:Nat} (hw:n.Wf k) (hk:k≤8):PCalls Tryz.prog [] 48 [.agg (ndX n)] (.rows 113 10 enT ((visR k n []).map visC)):=by
 refine pcA [46] Tryz.func48 (fun D=>?_);refine ac (c:=ahx hw om) ?_;refine ac (c:=a3c hw hk) ?_;exact ar (c:=rfl)
theorem ade {n:Nd} {k:Nat} (hw:n.Wf k) (hk:k≤8):PCalls Tryz.prog [] 17 [.agg (ndX n)] (iP ((2 ^ k:Nat):Int)):=by
 have h9:(visR k n []).length≤1000:=by
   have h8:2 ^ (k+1)≤2 ^ 9:=zS dx om;have:=po k n [];omega
 refine pcA [46] Tryz.func17 (fun D=>?_);refine ac (c:=aob hw hk) ?_;refine au ?_;refine pl (ι:={i:Nat // i≤(visR k n []).length}) (fun i=>[(3,.pv (.rows 113 10 enT ((visR k n []).map visC))),(4,.pv (iP ((((visR k n []).take i.1).filter tb).length:Int))),(5,.pv (iP (i.1:Int)))]) (fun i=>[]) [46] (fun i=>(visR k n []).length - i.1) ⟨0,nq _⟩ (ai Y (ai Y (ai Y trivial))) trivial (fun _=>rfl) ?_;intro ⟨i,hi0⟩;refine a2 (fun e11=>?_) (fun e11=>?_)
 ·have hi:i < (visR k n []).length:=dw e11;refine ax (c:=(ae (ab hi))) ?_;refine a2 (fun e21=>?_) (fun e21=>?_)
  ·refine aa (c:=a8 (by have:=List.length_filter_le tb ((visR k n []).take i);rw[List.length_take] at this;show ((List.filter tb (List.take i (visR k n []))).length:Nat)≤_;omega)) ?_;refine aa (c:=a8 (by show i≤_;omega)) ?_;refine au ?_;exact pe ⟨i+1,hi⟩ (ai Y (ai (congrArg (fun n:Nat=>some (SV.pv (iP (n:Int)))) (a6f hi e21).symm) (ai Y trivial))) trivial Y (by show (visR k n []).length - (i+1) < (visR k n []).length - i;omega)
  ·refine aa (c:=a8 (by show i≤_;omega)) ?_;refine au ?_;exact pe ⟨i+1,hi⟩ (ai Y (ai (congrArg (fun n:Nat=>some (SV.pv (iP (n:Int)))) (a6f hi e21).symm) (ai Y trivial))) trivial Y (by show (visR k n []).length - (i+1) < (visR k n []).length - i;omega)
 ·have hj:(visR k n []).length≤i:=fx e11;exact ar (c:=congrArg (fun n:Nat=>iP (n:Int)) (show _=2 ^ k from by rw[List.take_of_length_le hj];exact rk k n [] hw))
theorem a9e (a n:Nat) (h:a < 1000000):IntKind.wrap .i64 ((a:Int).tdiv (n:Int))=((a / n:Nat):Int):=by
 have h1:a / n≤a:=Nat.div_le_self a n;show IntKind.wrap .i64 ((a / n:Nat):Int)=_;generalize a / n=b at h1 ⊢;exact fd om om
def optN (n:Nat):List PV:=[iP ((n % 3:Nat):Int),iP ((n / 3 % 4:Nat):Int),bP (((n / 12 % 2:Nat):Int) == 1),bP (((n / 24 % 2:Nat):Int) == 1),iP (bif ((n / 144 % 3:Nat):Int) == 1 then 8 else 0),iP 65536,iP ((n / 48 % 3:Nat):Int)]
theorem a93 {n:Nat} (h:n < 65536):PCalls Tryz.prog [] 15 [.raw (.int .u16 (n:Int))] (.agg (optN n)):=by
 refine pcA [58] Tryz.func15 (fun D=>?_);refine pa Y Y (pr0 (qg 1 ?_));refine ro0 Y Y Y (fun hd=>a1p (ds:=.int .u16) (j:=.i64) Y Y (by kernel_rfl) (by kernel_rfl) (ah9 _ om) hd) ?_;refine qg 1 ?_;refine rn Y (pr0 (qg 1 ?_));refine ro0 Y Y Y (fun hd=>ll Y Y Y dx (a36 (n) 3) hd) ?_;refine qg 1 ?_;refine ro0 Y Y Y (fun hd=>qo Y Y Y dx (a9e n 3 om) hd) ?_;refine ro0 Y Y Y (fun hd=>ll Y Y Y dx (a36 (n / 3) 4) hd) ?_;refine qg 1 ?_;refine ro0 Y Y Y (fun hd=>qo Y Y Y dx (a9e n 12 om) hd) ?_;refine ro0 Y Y Y (fun hd=>ll Y Y Y dx (a36 (n / 12) 2) hd) ?_;refine qc ?_;refine qg 1 ?_;refine ro0 Y Y Y (fun hd=>qo Y Y Y dx (a9e n 24 om) hd) ?_;refine ro0 Y Y Y (fun hd=>ll Y Y Y dx (a36 (n / 24) 2) hd) ?_;refine qc ?_;refine qg 1 ?_;refine ro0 Y Y Y (fun hd=>qo Y Y Y dx (a9e n 48 om) hd) ?_;refine ro0 Y Y Y (fun hd=>ll Y Y Y dx (a36 (n / 48) 3) hd) ?_;refine qg 3 ?_;refine rn Y (ps (pr0 (qg 1 ?_)));refine ro0 Y Y Y (fun hd=>qo Y Y Y dx (a9e n 144 om) hd) ?_;refine ro0 Y Y Y (fun hd=>ll Y Y Y dx (a36 (n / 144) 3) hd) ?_;refine a2 (fun e27=>?_) (fun e27=>?_)
 ·exact ar (c:=by rw[optN,e27];rfl)
 ·exact ar (c:=by rw[optN,e27];rfl)
def IsRow (k:IntKind) (w:World) (a:Option Addr) (len cap:Nat) (zs:List Int):Prop:=
 (a=none∧len=0∧cap=0∧zs=[])∨
 ∃x,a=some x∧len≤cap∧cap≤maxLen∧zs.length=cap∧(∀i,i < zs.length→w.cell? (x.add i)=some (.int k (zs.getD i 0)))∧∀n∈zs,(Lit.int k n).wf=true
section
variable {k:IntKind} {w:World} {a:Option Addr} {len cap:Nat} {zs:List Int}
theorem IsRow.caps (h:IsRow k w a len cap zs):len≤cap∧cap≤maxLen:=by
 rcases h with ⟨_,rfl,rfl,_⟩ | ⟨x,_,h1,h2,_⟩
 ·exact⟨nr _,nq _⟩
 ·exact⟨h1,h2⟩
theorem IsRow.nil0 (h:IsRow k w a len cap zs) (h0:a=none):cap=0:=by
 rcases h with ⟨_,rfl,rfl,_⟩ | ⟨x,e,_⟩
 ·rfl
 ·rw[h0] at e;cases e
theorem IsRow.lens (h:IsRow k w a len cap zs):(zs.take len).length=len:=by
 rcases h with ⟨_,rfl,rfl,rfl⟩ | ⟨x,_,h1,h2,h3,_⟩
 ·rfl
 ·rw[List.length_take];omega
theorem IsRow.sees (h:IsRow k w a len cap zs):Sees w w.heap.size a ((zs.take len).map (Value.int k)):=by
 rcases h with ⟨_,rfl,rfl,rfl⟩ | ⟨x,rfl,h1,h2,h3,h4,_⟩
 ·exact Sees.nil
 ·intro j u hu;rw[List.getElem?_map] at hu;have hj:j < (zs.take len).length:=by
   rcases zU j (zs.take len).length with h | h
   ·exact h
   ·rw[List.getElem?_eq_none h] at hu;cases hu
  rw[List.length_take] at hj;rw[List.getElem?_take_of_lt om,ge om] at hu;simp only[Option.map_some,oq] at hu;have hc:=h4 j om;rw[List.getD_eq_getElem?_getD,ge om,Option.getD_some,hu] at hc;exact⟨x,rfl,by have:=World.block_lt_of_cell? w _ hc;rwa [dq] at this,hc⟩
theorem IsRow.bytes (h:IsRow .u8 w a len cap zs):∀x∈zs.take len,0≤x∧x≤255:=by
 rcases h with ⟨_,rfl,rfl,rfl⟩ | ⟨x,rfl,h1,h2,h3,h4,h5⟩
 ·intro x hx;simp at hx
 ·intro x hx;exact bounds_u8 (h5 x (List.mem_of_mem_take hx))
def pg (zs:List Int) (len:Nat):List Nat:=(zs.take len).map Int.toNat
theorem IsRow.nats (h:IsRow .u8 w a len cap zs):(pg zs len).map bv=(zs.take len).map (Value.int .u8):=by
 unfold pg;rw[List.map_map]
 apply List.map_congr_left
 intro x hx;have:=(h.bytes x hx).1;show Value.int .u8 ((x.toNat:Nat):Int)=Value.int .u8 x;rw[Int.toNat_of_nonneg this]
theorem IsRow.is (h:IsRow .u8 w a len cap zs):Sv.Is w ⟨a,len,cap⟩ 1 ((pg zs len).map bv):=by
 refine⟨?_,h.caps.1,by have:=h.caps.2;unfold maxLen at this;exact this,h.nil0,?_⟩
 ·rw[h.nats,zB,h.lens,Nat.mul_one]
 ·rw[h.nats];exact h.sees
theorem IsRow.lim (h:IsRow .u8 w a len cap zs):∀y∈pg zs len,y < 256:=fun y hy=>by
 unfold pg at hy;obtain⟨x,hx,rfl⟩:=List.mem_map.1 hy;have:=h.bytes x hx;omega
end
theorem LaidG.gr {w w':World} (h:LaidG w) (G:Gr w w'):LaidG w':=h.keep (G.below.block 0 h.lt)
abbrev TL:List Nat:=[35,37,138,200,224]
def ow10:Ow:=⟨0,0,false,false,0,10,0⟩
theorem aj2:ow10.Ok:=⟨by decide,by decide,by decide,by decide,by decide,by decide⟩
theorem amj (n:Nat):∃o:Ow,o.Ok∧optN n=owC o:=by
 refine⟨⟨n % 3,n / 3 % 4,((n / 12 % 2:Nat):Int) == 1,((n / 24 % 2:Nat):Int) == 1,bif ((n / 144 % 3:Nat):Int) == 1 then 8 else 0,65536,n / 48 % 3⟩,⟨Nat.mod_lt _ dx,Nat.le_of_lt_succ (Nat.mod_lt _ dx),?_,by show 1≤65536;decide,by show 65536≤65536;decide,?_⟩,?_⟩
 ·show (bif ((n / 144 % 3:Nat):Int) == 1 then 8 else 0)≤4096;cases ((n / 144 % 3:Nat):Int) == 1<;>decide
 ·exact nt (Nat.le_of_lt (Nat.mod_lt _ dx)) dx
 ·unfold optN owC;cases ((n / 144 % 3:Nat):Int) == 1<;>rfl
theorem afh:∃nd,f6 Tryz.prog TG 16 [qyP (exY Q.one),.agg (ndX (lfN exL)),owP ow10] (.tup [ouP nd,iP 1,iP 0]):=by
 obtain⟨nd,h,-⟩:=a4o aou (abt sz_one) (by show 1+0≤400;decide) aj2 a6b;exact⟨nd,h⟩
theorem a5h:f6 Tryz.prog TG 8 [] (bP true):=by
 obtain⟨nd,hR⟩:=afh;refine pcF [39,46,58,61] (by kernel_rfl) Tryz.func8 rfl rfl (fun D hF hG=>?_);refine ac (c:=aok) ?_;refine ac (c:=aoj) ?_;refine au ?_;refine rcg0 hG (a6b) Y Y Y Y Y Y Y ?_;refine au ?_;refine rcg0 hG (afi) Y Y Y Y Y Y Y ?_;refine au ?_;refine rcg0 hG (hR) Y Y Y Y Y Y Y ?_;refine akT (c:=by exact (show _=true from rfl)) ?_;refine akT (c:=by exact (show _=true from rfl)) ?_;refine akT (c:=by exact (show _=true from rfl)) ?_;refine akT (c:=by exact (show _=true from rfl)) ?_;refine akT (c:=by exact (show _=true from rfl)) ?_;refine akT (c:=by exact (show _=true from rfl)) ?_;refine akT (c:=by exact (show _=true from rfl)) ?_;exact ar (c:=rfl)
theorem air {A0:Option Addr} {k0 u:Nat} {L:List Nat} (hl:∀y∈L,y < 256) (hn0:L.length≤300) (hu:u < 65536):PCallsW (fun w=>LaidG w∧By ⟨A0,L.length,k0⟩ L w) Tryz.prog TL 4 [.raw (.slice A0 L.length k0),.raw (.int .u16 (u:Int))] (bP true):=by
 obtain⟨g1,g2,g3,g4,g5⟩:=a10 L;have hk:jk L≤8:=nt (a4e L) dx;have hE:=abu g5 hk g1 dx dx g2;have he:=a1k g4 g5.lim hk g1 g2 g3 hE;obtain⟨hs,hm⟩:=ahi L;have hl2:=so (jk L) (o8 L) [] [] g4;have hn:=congrArg List.length hm;rw[zB,hl2] at hn;have hlv:=ade g4 hk;obtain⟨o,ho,hop⟩:=amj u;have hopt:=a93 hu;rw[hop] at hopt;obtain⟨nd,hR,hC⟩:=a4o hs g1 (nt g2 dx) ho he;have ht:=al8 (A:=A0) (k:=k0) hl om;generalize lr (bu L) (entR (jk L) (o8 L) [] [])=E at*;clear g1 g2 g3 g4 g5 hk hE he hs hm hl2 hop;rw[← kv] at hR hlv;generalize bu L=q at*;generalize o8 L=n at*;generalize jk L=K at*;obtain⟨ls,d,ks,e,p⟩:=n;refine pcW [39,46,58,61] (by kernel_rfl) Tryz.func4 rfl rfl (fun D hF hM hH=>?_);refine au ?_;refine rcw hM (fun _ G=>hH.1.gr G) ((show PCallsW LaidG Tryz.prog TG 8 [] (bP true) from a5h)) Y Y Y Y Y Y Y ?_;refine qg 1 ?_;refine rn Y (pif Y (fun e=>by cases e) (fun _=>?_));refine pk (ps (pr0 (qg 1 ?_)));refine ro0 Y Y Y (fun hd=>ui Y Y Y hd) ?_;refine akF (c:=by exact (show _=false from df om)) ?_;refine au ?_;refine rcw hM (fun _=>hH.2.gr) (ht) Y Y Y Y Y Y Y ?_;refine ac (c:=hopt) ?_;refine au ?_;refine rcw hM (fun _ G=>hH.1.gr G) ((show PCallsW LaidG Tryz.prog TG _ _ _ from hR)) Y Y Y Y Y Y Y ?_;refine akT (c:=by exact (show _=true from rfl)) ?_;refine ac (c:=hlv) ?_;refine akT (c:=by exact (show (((E.map enC).length:Int) == ((2 ^ K:Nat):Int))=true from by rw[zB,hn];exact beq_self_eq_true _)) ?_;refine akT (c:=by exact (show _=true from rfl)) ?_;refine ac (c:=hC) ?_;exact ar (c:=rfl)
theorem aiq {A0:Option Addr} {n0 k0:Nat} {u:Int} (h:300 < n0):PCallsW LaidG Tryz.prog TL 4 [.raw (.slice A0 n0 k0),.raw (.int .u16 u)] (bP true):=by
 refine pcW [39,46,58,61] (by kernel_rfl) Tryz.func4 rfl rfl (fun D hF hM hH=>?_);refine au ?_;refine rcw hM (fun _ G=>hH.gr G) ((show PCallsW LaidG Tryz.prog TG 8 [] (bP true) from a5h)) Y Y Y Y Y Y Y ?_;refine qg 1 ?_;refine rn Y (pif Y (fun e=>by cases e) (fun _=>?_));refine pk (ps (pr0 (qg 1 ?_)));refine ro0 Y Y Y (fun hd=>ui Y Y Y hd) ?_;refine akT (c:=by exact (show _=true from dt om)) ?_;exact ar (c:=rfl)
theorem ac2 {k:IntKind} {w:World} {a:Option Addr} {len cap:Nat} {zs:List Int} (h:IsRow k w a len cap zs):(pg zs len).length=len:=by
 unfold pg;rw[zB,h.lens]
theorem PCallsW.in1 {H:World→Prop} {P:Program} {T:List Nat} {f:FuncId} {args:List PV} {b:Bool} (h:PCallsW H P T f args (bP b)) {w:World} (hw:H w) {us:List Value} (hr:PV.RepL w NoX args us):Calls P f us.toArray w fun e w'=>e=.returned (.bool b)∧Below w.heap.size w w':=
 (h.2 w NoX us hw (fun _ h=>h.elim) (fun _ _ _ _ h=>h.elim) hr).mono fun e w' ⟨v,he,hv,G⟩=>⟨by rw[he,rz hv],G.below⟩
theorem law_same_in (w:World) (hw:LaidG w) (a0:Option Addr) (len0 cap0:Nat) (zs0:List Int) (u:Int) (h0:IsRow .u8 w a0 len0 cap0 zs0) (hu:(Lit.int .u16 u).wf=true):
  Calls Tryz.prog 4 #[.slice a0 len0 cap0,.int .u16 u] w fun e w'=>e=.returned (.bool true)∧Below w.heap.size w w':=by
 obtain⟨u0,u1⟩:=bounds_u16 hu;obtain⟨u,rfl⟩:=Int.eq_ofNat_of_zero_le u0;have hr:PV.RepL w NoX [.raw (.slice a0 len0 cap0),.raw (.int .u16 (u:Int))] [.slice a0 len0 cap0,.int .u16 (u:Int)]:=PV.RepL.cons (m8 _) (PV.RepL.cons (m8 _) PV.RepL.nil);rcases zU 300 len0 with h | h
 ·exact (aiq h).in1 hw hr
 ·have hl:=ac2 h0;have hp:=air (A0:=a0) (k0:=cap0) (u:=u) h0.lim om om;rw[hl] at hp;exact hp.in1 ⟨hw,h0.is⟩ hr
end Go.Proofs.YtbhbainhmfjpdaaGreatDoor
