/- Walks of the search and of what it calls, part 4. -/
import Derived.Test.YtbhbainhmfjpdaaGreatDoorMc
import Derived.Deep.LoopGhost
set_option linter.unusedVariables false
set_option linter.unusedSimpArgs false
set_option maxRecDepth 100000
set_option maxHeartbeats 8000000
namespace Go.Proofs.YtbhbainhmfjpdaaGreatDoor
open Go.RowKit
def cmpO:BinOp→Int→Int→Option Bool
 | .eql,x,y=>some (x == y)
 | .neq,x,y=>some (x != y)
 | .lss,x,y=>some (decide (x < y))
 | .leq,x,y=>some (decide (x≤y))
 | .gtr,x,y=>some (decide (y < x))
 | .geq,x,y=>some (decide (y≤x))
 | _,_,_=>none
def ariO:BinOp→IntKind→Int→Int→Option Int
 | .add,k,x,y=>some (k.wrap (x+y))
 | .sub,k,x,y=>some (k.wrap (x - y))
 | .mul,k,x,y=>some (k.wrap (x*y))
 | _,_,_,_=>none
section
variable {C:Cx} {o:Oper} {st:St} {op:BinOp} {t t2 e k:Nat} {x y:Operand} {tab:Tab} {l:Lay} {ts:List Nat} {xs:List (List PV)} {w:World}
theorem nid {s:SV} {i:Nat} {st:St} (hs:s.ids=[]):∀i∈s.ids,(st.res i).isSome=true:=fun i hi=>by rw[hs] at hi;cases hi
theorem ou {u v r:Value} (ho:o.op=.binOp op t x y t2) (hx:ev st x=some (.pv (.raw u))) (hy:ev st y=some (.pv (.raw v))) (hr:∀w,(do eqGuard op t x y u v;binOp op t u v:Sem Value).run C.P w=.ok r w) (hd:∀d,o.dst=some d→C.dk d):OpE C st.tys o st (valE (.pv (.raw r)) []):=by
 refine bj hd fun st1 ag a w B T hi=>?_
 rw[← ag.ev (by rw[ho];simp[Op.operands])] at hx hy;have h1:=(az hi hx).1;have h2:=(az hi hy).1;rw[SV.Rep,PV.Rep] at h1 h2;have:=hr w;refine⟨r,?_,by rw[SV.Rep,PV.Rep],fun i hi=>by cases (show i∈([]:List Nat) from hi)⟩;simp only[execOp,ho,h1,h2];rw[Sem.run_bind,this];rfl
theorem ot {k:IntKind} {m n:Int} {b:Bool} (ho:o.op=.binOp op t x y t2) (hx:ev st x=some (.pv (.raw (.int k m)))) (hy:ev st y=some (.pv (.raw (.int k n)))) (hb:cmpO op m n=some b) (hd:∀d,o.dst=some d→C.dk d):OpE C st.tys o st (valE (.pv (.raw (.bool b))) []):=by
 refine ou ho hx hy (fun w=>?_) hd;cases op<;>simp only[cmpO,oq] at hb<;>first | (subst hb;simp[binOp,Op.intCmp,eqGuard]) | cases hb
theorem aje {k:IntKind} {m n z:Int} (ho:o.op=.binOp op t x y t2) (hx:ev st x=some (.pv (.raw (.int k m)))) (hy:ev st y=some (.pv (.raw (.int k n)))) (hb:ariO op k m n=some z) (hd:∀d,o.dst=some d→C.dk d):OpE C st.tys o st (valE (.pv (.raw (.int k z))) []):=by
 refine ou ho hx hy (fun w=>?_) hd;cases op<;>simp only[ariO,oq] at hb<;>first | (subst hb;simp[binOp,Op.intArith,eqGuard]) | cases hb
theorem aaj {b c:Bool} (op:BinOp) (r:Bool) (ho:o.op=.binOp op t x y t2) (hx:ev st x=some (.pv (.raw (.bool b)))) (hy:ev st y=some (.pv (.raw (.bool c)))) (hu:C.P.underlying t=some .bool) (hop:(op=.eql∧r=(b == c))∨(op=.neq∧r=(b != c))) (hd:∀d,o.dst=some d→C.dk d):OpE C st.tys o st (valE (.pv (.raw (.bool r))) []):=by
 refine ou ho hx hy (fun w=>?_) hd;have e:(Op.equal t (.bool b) (.bool c)).run C.P w=.ok (b == c) w:=by
  show (Op.equalIn (9999+1) t (.bool b) (.bool c)).run C.P w=_;rw[Op.equalIn];simp[run_underlying hu]
 rcases hop with ⟨rfl,rfl⟩ | ⟨rfl,rfl⟩
 ·simp[binOp,eqGuard,e]
 ·simp[binOp,eqGuard,e];cases b<;>cases c<;>rfl
theorem cg (hT:ie C.P tab) {kd:IntKind} {z:Int} {i:Nat} {r:List PV} (ho:o.op=.indexAddr t x y) (hl:tab.get t=some l) (hx:ev st x=some (.pv (.rows e k ts xs))) (hy:ev st y=some (.pv (.raw (.int kd z)))) (hk:l.esz=k) (hk0:0 < k) (hz:z=(i:Int)) (hr:xs[i]?=some r) (hd:∀d,o.dst=some d→C.dk d):OpE C st.tys o st (valE (.ref e r) []):=by
 subst hk;obtain⟨hu,hsz⟩:=(Tab.get_ok hT hl).elem (Nat.ne_of_gt hk0);refine bj hd fun st1 ag a w B T hi=>?_
 rw[← ag.ev (by rw[ho];simp[Op.operands])] at hx hy;have h1:=(az hi hx).1;have h2:=(az hi hy).1;rw[SV.Rep,PV.Rep] at h1;rw[SV.Rep,PV.Rep] at h2;obtain⟨v,us,hv,hn,his,hty,hav,hrep,hok⟩:=h1;have hil:i < xs.length:=(gs hr).1;obtain⟨u,hu1,hu2⟩:=hrep.at hr;have hrows:=hrep.rows fun r hr=>(hok r hr).1
 have hn0:0 < v.n:=by omega
 have hA:∃ad,v.A=some ad:=by
  cases h:v.A with
  | none=>
   have:=his.nil h;have:=his.cap;omega
  | some ad=>exact⟨ad,rfl⟩
 obtain⟨ad,had⟩:=hA;obtain⟨cs,fr,hb⟩:=hty ad had hn0;refine⟨.pointer (some (ad.add (i*l.esz))),?_,?_,fun j hj=>by cases (show j∈([]:List Nat) from hj)⟩
 ·have hlt:(i:Int) < (v.n:Int):=by omega
  simp[execOp,ho,hv,h2,hz,Instr.indexAt,asIntOf,run_underlying hu,had,hlt,ke hsz];intro h;omega
 ·rw[SV.Rep];refine⟨ad.add (i*l.esz),u,rfl,hu2,fun _=>?_,fun j c hj=>?_⟩
  ·rw[dq];exact⟨hav ad had hn0,cs,fr,hb⟩
  ·have hj2:j < l.esz:=by
    have:=(gs hj).1;rw[hrows u (mg hu1)] at this;exact this
   obtain⟨ad',h3,_,h4⟩:=his.look (i:=i*l.esz+j) (u:=c) (by rw[kz hrows hu1 hj2];exact hj);rw[had] at h3;injection h3 with h3;subst h3;rw[sr];exact h4
theorem ct (hT:ie C.P tab) {lo hi:Option Operand} {p q:Nat} (ho:o.op=.slice t x lo hi none) (hl:tab.get t=some l) (hx:ev st x=some (.pv (.rows e k ts xs))) (hlo:(lo=none∧p=0)∨∃y,lo=some y∧ev st y=some (.pv (.raw (.int .i64 (p:Int))))) (hhi:(hi=none∧q=xs.length)∨∃y,hi=some y∧ev st y=some (.pv (.raw (.int .i64 (q:Int))))) (hpq:p≤q) (hq:q≤xs.length) (hk:l.esz=k) (hk0:0 < k) (hd:∀d,o.dst=some d→C.dk d):OpE C st.tys o st (valE (.pv (.rows e k ts ((xs.take q).drop p))) []):=by
 subst hk;obtain⟨hu,hsz⟩:=(Tab.get_ok hT hl).elem (Nat.ne_of_gt hk0);refine bj hd fun st1 ag a w B T hin=>?_
 rw[← ag.ev (by rw[ho];simp[Op.operands])] at hx;have h1:=(az hin hx).1;rw[SV.Rep,PV.Rep] at h1;obtain⟨v,us,hv,hn,his,hty,hav,hrep,hok⟩:=h1;have hrows:=hrep.rows fun r hr=>(hok r hr).1
 have hcap:=his.cap;have sb:∀(y:Value) (z c:Nat) (code:BoundsCode),y=.int .i64 (z:Int)→z≤c→(Instr.sliceBound y c code).run C.P w=.ok z w:=fun y z c code e h=>by
  have:(z:Int)≤(c:Int):=by omega
  simp[Instr.sliceBound,e,asIntOf,this]
 have vlo:∀y,lo=some y→ev st y=some (.pv (.raw (.int .i64 (p:Int))))→a.eval y=.int .i64 (p:Int):=fun y e hy=>by
  rw[← ag.ev (by rw[ho,e];simp[Op.operands])] at hy;have h2:=(az hin hy).1;rw[SV.Rep,PV.Rep] at h2;exact h2
 have vhi:∀y,hi=some y→ev st y=some (.pv (.raw (.int .i64 (q:Int))))→a.eval y=.int .i64 (q:Int):=fun y e hy=>by
  rw[← ag.ev (by rw[ho,e];simp[Op.operands])] at hy;have h2:=(az hin hy).1;rw[SV.Rep,PV.Rep] at h2;exact h2
 have hb:(Instr.sliceBounds true v.n v.c (lo.map a.eval) (hi.map a.eval) none).run C.P w=.ok (p,q,v.c) w:=by
  have hqc:q≤v.c:=by omega
  rcases hhi with ⟨rfl,rfl⟩ | ⟨y,rfl,hy⟩
  ·rcases hlo with ⟨rfl,rfl⟩ | ⟨y',rfl,hy'⟩
   ·simp[Instr.sliceBounds,hn]
   ·have:=sb _ p v.n (BoundsCode.sliceB) (vlo y' rfl hy') om;rw[hn] at this;simp[Instr.sliceBounds,this,hn]
  ·have h3:=sb _ q v.c (BoundsCode.sliceAcap) (vhi y rfl hy) hqc;rcases hlo with ⟨rfl,rfl⟩ | ⟨y',rfl,hy'⟩
   ·simp[Instr.sliceBounds,h3]
   ·have:=sb _ p q (BoundsCode.sliceB) (vlo y' rfl hy') hpq;simp[Instr.sliceBounds,this,h3]
 have run:(execOp a.eval o).run C.P w=.ok (.value (.slice (if v.c=p then v.A else v.A.map (·.add (p*l.esz))) (q - p) (v.c - p))) w:=by
  simp only[execOp,ho,hv,Instr.sliceAt,Sem.run_bind,run_underlying hu,Result.andThen_ok,Instr.slice,Option.map_none,hb,ke hsz,Sem.run_pure]
 refine⟨_,run,?_,fun j hj=>by cases (show j∈([]:List Nat) from hj)⟩;have hlen:=hrep.len;rw[SV.Rep,PV.Rep];refine⟨⟨if v.c=p then v.A else v.A.map (·.add (p*l.esz)),q - p,v.c - p⟩,(us.take q).drop p,rfl,by simp;omega,⟨?_,by show q - p≤v.c - p;omega,by show v.c - p≤_;have:=his.max;omega,?_,?_⟩,?_,?_,(hrep.take q).drop p,fun r hr=>hok r (List.mem_of_mem_take (List.mem_of_mem_drop hr))⟩
 ·rw[jo (k:=l.esz) fun u hu=>hrows u (List.mem_of_mem_take (List.mem_of_mem_drop hu))]
  congr 1
  simp;omega
 ·intro e;show v.c - p=0;simp only at e;split at e
  ·omega
  ·have:v.A=none:=by cases h:v.A;rfl;rw[h] at e;cases e
   have:=his.nil this;omega
 ·intro j u hu;have hj:j < ((us.take q).drop p).flatten.length:=(gs hu).1;have hfl:((us.take q).drop p).flatten[j]?=us.flatten[p*l.esz+j]?:=by
   have g1:us.flatten=(us.take p).flatten++((us.take q).drop p).flatten++(us.drop q).flatten:=by
    rw[← List.flatten_append,← List.flatten_append]
    congr 1
    have:us.take p++(us.take q).drop p=us.take q:=by
     have:=List.take_append_drop p (us.take q);rw[List.take_take,Nat.min_eq_left hpq] at this;exact this
    rw[this,List.take_append_drop]
   have g2:(us.take p).flatten.length=p*l.esz:=by
    rw[jo (k:=l.esz) fun u hu=>hrows u (List.mem_of_mem_take hu)]
    congr 1
    simp;omega
   rw[g1,List.append_assoc,List.getElem?_append_right om,g2,show p*l.esz+j - p*l.esz=j from by omega,List.getElem?_append_left hj]
  rw[hfl] at hu;obtain⟨ad,h3,h4,h5⟩:=his.see _ u hu;have hpq':p < q:=by
   rcases zU p q with h | h
   ·exact h
   ·have:(us.take q).drop p=[]:=List.drop_eq_nil_of_le (by simp;omega);rw[this] at hj;simp at hj
  have hc:¬v.c=p:=by omega
  simp only[if_neg hc,h3,Option.map_some];exact⟨_,rfl,by rw[dq];exact h4,by rw[sr];exact h5⟩
 ·intro ad had hn';simp only at had hn';have hc:¬v.c=p:=by omega
  rw[if_neg hc] at had;obtain⟨ad',h3,h4⟩:=Option.map_eq_some_iff.1 had;have:=hty ad' h3 om;rw[← h4,dq];exact this
 ·intro ad had hn';simp only at had hn';have hc:¬v.c=p:=by omega
  rw[if_neg hc] at had;obtain⟨ad',h3,h4⟩:=Option.map_eq_some_iff.1 had;have:=hav ad' h3 om;rw[← h4,dq];exact this
def litL (st:St) (k:Nat):List (Nat×Operand)→Nat→Option (List (List SV))
 | [],_=>some []
 | (i,x)::r,n=>match Nat.beq i n,ev st x with
  | true,some s=>match s.cl with
   | some cs=>bif Nat.beq cs.length k then (match litL st k r (n+1) with
    | some l=>some (cs::l)
    | none=>none) else none
   | none=>none
  | _,_=>none
def CoLL (st:St):List (List SV)→List (List PV)→Prop
 | [],[]=>True
 | c::cs,p::ps=>CoL st c p∧CoLL st cs ps
 | _,_=>False
def ft (l:List (List SV)):List Nat:=l.flatMap SV.idsL
theorem zx {a:Act} {B:Nat→Nat} {T:Nat→Sv} (h:InvB C st a w B T) :∀{ps:List (Nat×Operand)} {n:Nat} {ss:List (List SV)},litL st k ps n=some ss→
  ∃us:List (List Value),us.length=ss.length∧ss.length=ps.length∧(∀(i:Nat) (c:List SV),ss[i]?=some c→∃u,us[i]?=some u∧SV.RepL w (Own0 C st B T) B T c u)∧(∀i∈ft ss,(st.res i).isSome=true)∧(∀u∈us,u.length=k)∧(∀u∈us,∀v∈u,v.oneCell'=true)∧∀(i:Nat) (p:Nat×Operand),ps[i]?=some p→p.1=n+i∧∃u,us[i]?=some u∧(a.eval p.2).cells=u.toArray
 | [],n,ss,e=>by
  injection e with e;subst e;exact⟨[],rfl,rfl,(fun i c hc=>by simp at hc),(fun i hi=>by simp[ft] at hi),(fun u hu=>by cases hu),(fun u hu=>by cases hu),fun i p hp=>by simp at hp⟩
 | (j,x)::r,n,ss,e=>by
  rw[litL] at e;split at e
  ·rename_i s hj hx
   split at e
   ·rename_i cs hcl
    cases hb:Nat.beq cs.length k with
    | false=>rw[hb] at e;cases e
    | true=>
     rw[hb] at e;simp only[cond_true] at e;split at e
     ·rename_i l hl
      injection e with e;subst e;obtain⟨g1,g2⟩:=az h hx;obtain⟨u,v1,v2,v3,v4⟩:=a2k g1 hcl;obtain⟨us,h1,h2,h3,h4,h5,h6,h7⟩:=zx h hl;have hul:u.length=k:=by rw[v2.len,zF hb]
      refine⟨u::us,by simp[h1],by simp[h2],fun i c hc=>?_,fun i hi=>?_,fun z hz=>?_,fun z hz=>?_,fun i p hp=>?_⟩
      ·cases i with
       | zero=>simp at hc;subst hc;exact⟨u,rfl,v2⟩
       | succ i=>simp at hc;obtain⟨z,z1,z2⟩:=h3 i c hc;exact⟨z,by simpa using z1,z2⟩
      ·simp only[ft,List.flatMap_cons,zJ] at hi;exact hi.elim (fun hi=>g2 i (v3 i hi)) fun hi=>h4 i hi
      ·rcases zP.1 hz with e | e
       ·rw[e];exact hul
       ·exact h5 z e
      ·rcases zP.1 hz with e | e
       ·rw[e];exact v2.one v4
       ·exact h6 z e
      ·cases i with
       | zero=>
        simp at hp;subst hp;exact⟨zF hj,u,rfl,v1⟩
       | succ i=>
        simp at hp;obtain⟨z1,z,z2,z3⟩:=h7 i p hp;exact⟨by omega,z,by simpa using z2,z3⟩
     ·cases e
   ·cases e
  ·cases e
theorem CoLL.rep {a:Act} {B:Nat→Nat} {T:Nat→Sv} (h:InvB C st a w B T):∀{ss:List (List SV)} {xs:List (List PV)} {us:List (List Value)},CoLL st ss xs→us.length=ss.length→(∀(i:Nat) (c:List SV),ss[i]?=some c→∃u,us[i]?=some u∧SV.RepL w (Own0 C st B T) B T c u)→(∀i∈ft ss,∀r,st.res i≠some r)→PV.RepLL w (Own0 C st B T) xs us
 | [],[],us,_,hl,_,_=>by
  obtain rfl:=List.length_eq_zero_iff.1 hl;rw[PV.RepLL]
 | [],_::_,_,hc,_,_,_=>hc.elim
 | _::_,[],_,hc,_,_,_=>hc.elim
 | c::ss,p::xs,us,hc,hl,hr,ht=>by
  obtain⟨u,hu,hrep⟩:=hr 0 c rfl;cases us with
  | nil=>simp at hu
  | cons u' us=>
   simp at hu;subst hu;refine PV.RepLL.cons (CoL.rep h hc.1 hrep fun b hb=>⟨hb,fun ⟨i,hi,r,h1,_⟩=>ht i (by simp only[ft,List.flatMap_cons,zJ];exact .inl hi) r h1⟩) (CoLL.rep h hc.2 (by simpa using hl) (fun i c hi=>?_) fun i hi=>ht i (by simp only[ft,List.flatMap_cons,zJ];exact .inr hi));obtain⟨z,z1,z2⟩:=hr (i+1) c (by simpa using hi);exact⟨z,by simpa using z1,z2⟩
def ajh (st:St) (ids:List Nat):Bool:=ids.all fun i=>match st.res i with
 | some _=>false
 | none=>true
theorem a32 {α:Type}:∀(cs m r r':List α),r.length=cs.length→spl (m++(r++r')) m.length cs=m++(cs++r')
 | [],m,r,r',h=>by
  obtain rfl:=List.length_eq_zero_iff.1 h;rfl
 | c::cs,m,[],r',h=>by simp at h
 | c::cs,m,d::r,r',h=>by
  rw[spl];have h1:(m++(d::r++r')).set m.length c=(m++[c])++(r++r'):=by simp
  have h2:=a32 cs (m++[c]) r r' (by simpa using h);rw[h1];rw[zI,List.length_singleton] at h2;rw[h2];simp
theorem aad (hT:ie C.P tab) {n:Nat} {parts:Array (Nat×Operand)} {ss:List (List SV)} (ho:o.op=.buildSlice t n parts) (hl:tab.get t=some l) (hlay:∃le,tab.get l.elem=some le∧le.zero.length=l.esz) (hs:litL st l.esz parts.toList 0=some ss) (hn:n=parts.size) (hn0:0 < n) (hco:CoLL st ss xs) (hno:ajh st (ft ss)=true) (hok:pn l.esz ts xs) (hk0:0 < l.esz) (hsm:n*l.esz≤16777216) (hd:∀d,o.dst=some d→C.dk d):OpE C st.tys o st (valE (.pv (.rows l.elem l.esz ts xs)) (ft ss)):=by
 obtain⟨hu,hsz⟩:=(Tab.get_ok hT hl).elem (Nat.ne_of_gt hk0);obtain⟨le,hle,hlz⟩:=hlay;have lke:=Tab.get_ok hT hle;refine⟨fun i r e=>(by cases e),fun st1 h1 h2 _ a w ⟨B,T,hi⟩=>?_⟩;have h2':∀i∈ft ss,st1.res i=st.res i:=fun i hi=>h2 i (zL _ hi)
 have agl:∀(ps:List (Nat×Operand)) (n:Nat),(∀p∈ps,p.2∈o.op.operands)→litL st1 l.esz ps n=litL st l.esz ps n:=fun ps=>by
  induction ps with
  | nil=>intro n _;rfl
  | cons p ps ih=>
   intro n hp;obtain⟨j,x⟩:=p;have ag:Agree o [] st st1:=⟨h1,fun i hi=>by cases hi⟩;rw[litL,litL,ag.ev (hp (j,x) (mf ..)),ih (n+1) fun q hq=>hp q (zC _ hq)]
 have hs':=hs;rw[← agl parts.toList 0 fun p hp=>by rw[ho];simp only[Op.operands,List.mem_toArray,List.mem_map];exact⟨p,hp,rfl⟩] at hs';obtain⟨us,g1,g2,g3,g4,g5,g6,g7⟩:=zx hi hs';have hlen:us.length=n:=by rw[g1,g2,hn];simp
 have mv:∀(ss:List (List SV)) (xs:List (List PV)),CoLL st ss xs→(∀i∈ft ss,st1.res i=st.res i)→CoLL st1 ss xs:=fun ss=>by
  induction ss with
  | nil=>intro xs h _;cases xs<;>exact h
  | cons c ss ih=>
   intro xs h hh;cases xs with
   | nil=>exact h.elim
   | cons p xs=>exact⟨h.1.move fun i hi=>hh i (by simp only[ft,List.flatMap_cons,zJ];exact .inl hi),ih xs h.2 fun i hi=>hh i (by simp only[ft,List.flatMap_cons,zJ];exact .inr hi)⟩
 have hco1:=mv ss xs hco h2';have hnt:∀i∈ft ss,∀r,st1.res i≠some r:=fun i hi r hr=>by
  have:=zG.1 hno i hi;rw[← h2' i hi,hr] at this;cases this
 have hrep:=CoLL.rep hi hco1 g1 g3 hnt
 -- the cells
 have fill:∀(ps:List (Nat×Operand)) (m:List Value) (vs:List (List Value)) (r:List Value) (k0:Nat),(∀(i:Nat) (p:Nat×Operand),ps[i]?=some p→p.1=k0+i∧∃u,vs[i]?=some u∧(a.eval p.2).cells=u.toArray)→vs.length=ps.length→(∀u∈vs,u.length=l.esz)→m.length=k0*l.esz→r.length=vs.length*l.esz→
   Instr.fill (fun i=>some (i*l.esz,l.esz)) (m++r).toArray (ps.map fun p=>(p.1,a.eval p.2))=some (m++vs.flatten).toArray:=fun ps=>by
  induction ps with
  | nil=>
   intro m vs r k0 _ hv _ _ hr;obtain rfl:=List.length_eq_zero_iff.1 hv;simp at hr;subst hr;rfl
  | cons p ps ih=>
   intro m vs r k0 hp hv hvl hm hr;cases vs with
   | nil=>simp at hv
   | cons u vs=>
    obtain⟨q1,u',q2,q3⟩:=hp 0 p rfl;simp at q2;subst q2;have hul:=hvl u (mf ..);rw[zW,Nat.add_mul,Nat.one_mul] at hr;simp only[List.map_cons,Instr.fill,q1,Nat.add_zero,q3,List.size_toArray,hul];have hsz2:(m++r).length=k0*l.esz+(vs.length*l.esz+l.esz):=by rw[zI,hm,hr]
    rw[if_neg (by simp only[ne_eq,not_true_eq_false,decide_false,Bool.false_or,de];rw[hsz2];omega)];have hfold:∀(zs:List Value) (k:Nat) (us:List Value),((zs.zipIdx k).foldl (fun (cs:Array Value) (p:Value×Nat)=>cs.setIfInBounds (k0*l.esz+p.2) p.1) us.toArray)=(spl us (k0*l.esz+k) zs).toArray:=by
     intro zs
     induction zs with
     | nil=>intro k us;rfl
     | cons v zs ih2=>
      intro k us;rw[spl,Nat.add_assoc,← ih2,List.zipIdx_cons,List.foldl_cons];simp
    have h8:=hfold u 0 (m++r);rw[Nat.add_zero,← hm] at h8;have h9:=a32 u m (r.take l.esz) (r.drop l.esz) (by rw[List.length_take,hul];omega);rw[List.take_append_drop] at h9;rw[h9] at h8;rw[← Array.foldl_toList,Array.toList_zipIdx];rw[hm] at h8;rw[h8,← List.append_assoc];have:=ih (m++u) vs (r.drop l.esz) (k0+1) (fun i p hp2=>by
     obtain⟨z1,z,z2,z3⟩:=hp (i+1) p (by simpa using hp2);exact⟨by omega,z,by simpa using z2,z3⟩) (by simpa using hv) (fun z hz=>hvl z (zC _ hz)) (by rw[zI,hm,hul,Nat.add_mul,Nat.one_mul]) (by rw[List.length_drop,hr];omega)
    rw[this,List.flatten_cons,List.append_assoc]
 have hz:=lke.zero;have run:(execOp a.eval o).run C.P w=.ok (.value (.slice (some ⟨w.heap.size,0,none⟩) n n)) (w.alloc (.cells us.flatten.toArray l.elem)):=by
  have hle24:¬n*l.esz > 2 ^ 24:=by omega
  have hfl:=fun (zs:Array Value)=>fill parts.toList [] us ((Array.range (n*l.esz)).map (fun x=>zs[x % zs.size]!)).toList 0 (fun i p hp=>by
   obtain⟨z1,z,z2,z3⟩:=g7 i p hp;exact⟨z1,z,z2,z3⟩) (by rw[g1,g2]) g5 (by simp) (by simp[hlen])
  simp only[zX,Array.toArray_toList] at hfl;have hpm:(parts.map fun x=>match x with | (i,x)=>(i,a.eval x)).toList=parts.toList.map fun p=>(p.1,a.eval p.2):=by rw[Array.toList_map]
  simp only[execOp,ho,Instr.buildSlice,Sem.run_bind,run_underlying hu,Result.andThen_ok,ke hsz,if_neg hle24];have h0:¬n*l.esz=0:=Nat.ne_of_gt (Nat.mul_pos hn0 hk0);have:=hfl (Value.cells (if le.agg then .agg (le.zero.map Zk.val).toArray else (le.zero.map Zk.val).headD undef));simp only[if_neg h0,Sem.run_bind,a34 hz,Result.andThen_ok,Sem.run_pure,hpm,this];rfl
 refine cd run ?_;have G:Gr w (w.alloc (.cells us.flatten.toArray l.elem)):=(Gr.refl w).alloc _;refine ow hi G ?_ (fun i hi=>by cases (show i∈([]:List Nat) from hi)) hd;have hbk:=Bk.made w l.elem us.flatten.toArray;have hnew:¬Own0 C st1 B T w.heap.size:=fun hb=>by
  rcases hb with hb | ⟨i,r,hr,hb⟩
  ·have:=C.old _ hb;have:=hi.gr.size;omega
  ·have hin:=hi.inn i r hr;cases r with
   | box ty' cells'=>
    obtain⟨k1,vs,k2,k3⟩:=hin;simp only[Res.blk,oq] at hb;have:=k2.lt;omega
   | tok e' k ts xs=>
    obtain⟨vs,k1,_⟩:=hin;have:=(ma k1 _ hb).2;omega
 rw[SV.Rep,PV.Rep];have hfl2:=jo g5;refine⟨⟨some ⟨w.heap.size,0,none⟩,n,n⟩,us,rfl,by rw[← hlen,hrep.len],⟨by rw[hfl2,hlen],nr _,?_,(fun e=>by cases e),?_⟩,?_,?_,PV.RepLL.still (ts:=ts) hrep (Still.gr G _ _) fun r hr c hc=>((hok r hr).2 c hc).2,hok⟩
 ·show n≤_;have:n≤n*l.esz:=Nat.le_mul_of_pos_right n hk0;omega
 ·intro j u hu;refine⟨⟨w.heap.size,0,none⟩,rfl,hbk.lt,?_⟩;rw[ij,hbk.cell];simpa using hu
 ·intro ad had _;injection had with had;subst had;exact⟨_,_,hbk⟩
 ·intro ad had _;injection had with had;subst had;exact hnew
theorem PV.RepL.one {X:Nat→Prop}:∀{cs:List PV} {us:List Value},PV.RepL w X cs us→(∀c∈cs,c.cell=true)→∀v∈us,v.oneCell'=true
 | [],us,h,_,v,hv=>by rw[PV.RepL] at h;subst h;cases hv
 | c::cs,us,h,hc,v,hv=>by
  rw[PV.RepL] at h;obtain⟨u,us',rfl,h1,h2⟩:=h;rcases zP.1 hv with e | e
  ·rw[e];exact PV.cell_one h1 (hc c (mf ..))
  ·exact PV.RepL.one h2 (fun d hd=>hc d (zC _ hd)) v e
theorem PV.RepLL.one {X:Nat→Prop} :∀{xs:List (List PV)} {us:List (List Value)},PV.RepLL w X xs us→pn k ts xs→∀v∈us.flatten,v.oneCell'=true
 | [],us,h,_,v,hv=>by rw[PV.RepLL] at h;subst h;simp at hv
 | c::cs,us,h,hc,v,hv=>by
  rw[PV.RepLL] at h;obtain⟨u,us',rfl,h1,h2⟩:=h;rw[List.flatten_cons] at hv;rcases zJ.1 hv with e | e
  ·exact h1.one (fun d hd=>((hc c (mf ..)).2 d hd).1) v e
  ·exact PV.RepLL.one h2 (fun r hr=>hc r (zC _ hr)) v e
theorem a3j {id bytes:Nat} {ts2:List Nat} {ys:List (List PV)} {s:SV} (hE:ElemS C.P t e k bytes) (ho:o.op=.call { callee:=.builtin .append,args:=#[x,y],argTypes:=#[t,t] }) (hx:(ev st x=some (.tok id)∧st.res id=some (.tok e k ts xs))∨((ev st x=some .emp∨∃e k ts,ev st x=some (.nil e k ts))∧st.res id=none∧xs=[])) (hy:ev st y=some s) (hco:Co st s (.rows e k ts2 ys)) (hs:s.ids=[]) (hts:∀t∈ts2,t∈ts) (he:e∈st.tys) (h63:xs.length+ys.length≤maxLen) (hby:(xs.length+ys.length)*bytes≤140737488355328) (hd:∀d,o.dst=some d→C.dk d):OpE C st.tys o st ⟨.tok id,some (id,.tok e k ts (xs++ys)),[id],true⟩:=by
 refine⟨fun i r e=>by injection e with e;injection e with e1 e2;subst e1 e2;exact⟨zH.2 rfl,he⟩,fun st1 h1 h2 _ a w ⟨B,T,hi⟩=>?_⟩;have ag:Agree o [id] st st1:=⟨h1,h2⟩;have hid:=h2 id (zH.2 rfl);rw[← ag.ev (by rw[ho];simp[Op.operands,Call.operands])] at hx hy;rw[← hid] at hx;obtain⟨y1,_⟩:=az hi hy;have hrow:(PV.rows e k ts2 ys).Rep w (Own0 C st1 B T) (a.eval y):=Co.rep hi (hco.move fun i hi=>by rw[hs] at hi;cases hi) y1 fun b hb=>⟨hb,fun ⟨i,hi2,_⟩=>by rw[hs] at hi2;cases hi2⟩
 rw[PV.Rep] at hrow;obtain⟨v,us,hv,hn,his,hty,hav,hrep,hok2⟩:=hrow;have hok3:pn k ts ys:=fun r hr=>⟨(hok2 r hr).1,fun c hc=>⟨((hok2 r hr).2 c hc).1,fun t ht=>hts t (((hok2 r hr).2 c hc).2 t ht)⟩⟩
 -- what it is appended to
 obtain⟨z,zus,hok,hz1,hz2,hz3,hz4,hown,hnw⟩:∃(z:Sv) (zus:List (List Value)),pn k ts xs∧a.eval x=z.v∧w.ownsRow 0 e k z.v z.n zus.flatten∧PV.RepLL w (Own0 C st1 B T) xs zus∧z.n=xs.length∧(∀r,st1.res id=some r→(∃e k ts xs,r=.tok e k ts xs)∧z.v.ownBlock=(T id).v.ownBlock)∧(st1.res id=none→z.v.ownBlock=none):=by
  rcases hx with ⟨hx,hr⟩ | ⟨hx,hr,rfl⟩
  ·have h3:=(az hi hx).1;rw[SV.Rep] at h3;obtain⟨us0,k1,k2,k3,k4,k5⟩:=hi.inn id _ hr;exact⟨T id,us0,k3,h3,k1,k2,k4,fun r hr2=>⟨(by rw[hr] at hr2;injection hr2 with hr2;exact⟨_,_,_,_,hr2.symm⟩),rfl⟩,fun hr2=>by rw[hr] at hr2;cases hr2⟩
  ·have h3:a.eval x=.slice none 0 0:=by
    rcases hx with hx | ⟨e,k,ts,hx⟩
    ·have h3:=(az hi hx).1;rw[SV.Rep] at h3;exact h3
    ·have h3:=(az hi hx).1;rw[SV.Rep] at h3;exact h3
   exact⟨Sv.none,[],(fun r hr=>by cases hr),h3,⟨by simp,.inl ⟨rfl,rfl⟩⟩,by rw[PV.RepLL],rfl,(fun r hr2=>by rw[hr] at hr2;cases hr2),fun _=>rfl⟩
 obtain⟨i,zz,i1,i2,i3,i4,i5⟩:=hE.hi;obtain⟨v',w',hrun,h7,h8,h9⟩:∃v' w',(Builtin.append_ #[t,t] o.type #[z.v,v.v]).run C.P w=.ok v' w'∧w'.ownsRow 0 e k v' (z.n+v.n) (zus.flatten++us.flatten)∧w.grownBy w' z.v.ownBlock∧(v'.ownBlock=z.v.ownBlock∨v'.ownBlock=some w.heap.size):=by
  cases hA:v.A with
  | none=>
   obtain⟨hv0,hus⟩:=his.mk0 hA;refine⟨z.v,w,?_,?_,⟨rfl,rfl,rfl,nr _,fun _ _ _=>rfl⟩,.inl rfl⟩
   ·rw[hv0];exact run_append_owned_none w 0 t o.type e i k hE.ht i1 z.v z.n zus.flatten hz2
   ·rw[hus,hv0,List.append_nil];exact hz2
  | some ad=>
   obtain⟨v',w',q1,q2,q3,_,q5⟩:=run_append_own_at (P:=C.P) w 0 t o.type e i zz k bytes hE.ht i1 i2 i3 i4 i5 hE.pos z.v z.n zus.flatten hz2 ad v.n v.c us.flatten his.len (fun j u hu=>by
    obtain⟨ad',e1,_,e3⟩:=his.look hu;rw[hA] at e1;injection e1 with e1;subst e1;exact e3) (hrep.one hok2) (by rw[hz4,hn];exact h63) (by rw[hz4,hn];exact hby) (nq _)
   refine⟨v',w',?_,q2,q3,q5⟩;rw[show v.v=.slice (some ad) v.n v.c from by unfold Sv.v;rw[hA]];exact q1
 obtain⟨y',rfl,hyn,_,_⟩:=Sv.of_row h7 hE.pos;have run:(execOp a.eval o).run C.P w=.ok (.value y'.v) w':=by
  unfold execOp;simp only[ho,resolve,invoke,builtin,Sem.run_bind,Sem.run_pure,Result.andThen_ok,List.map_toArray,List.map_cons,List.map_nil,hz1,hv,hrun]
 refine cd run ?_;refine a05 (us:=zus++us) hi hown hnw h8 (by rw[hyn,List.flatten_append];exact h7) (h9.elim .inl fun h=>.inr (.inl h)) (hz3.append hrep) (fun r hr=>?_) (by rw[hyn,hz4,hn,zI]) hE.pos hd;rcases zJ.1 hr with hr | hr
 ·exact hok r hr
 ·exact hok3 r hr
end
def QQ (C:Cx) (Q:Exit→St→Prop):Exit→Act→World→Prop:=fun e a w=>∃st,Q e st∧em st st.tys∧Inv C st a w
def PW (C:Cx) (c:Code) (st:St) (Q:Exit→St→Prop):Prop:=∀a w,em st st.tys→Inv C st a w→c.wp C.P (QQ C Q) a w
abbrev Then (N:St→Prop) (Q:Exit→St→Prop):Exit→St→Prop
 | .normal,st=>N st
 | e,st=>Q e st
abbrev akv (id:Nat) (Q:Exit→St→Prop):Exit→St→Prop
 | .exit i,st=>bif Nat.beq i id then Q .normal st else Q (.exit i) st
 | e,st=>Q e st
structure Sub (s st:St):Prop where
 slot:∀t v,s.slot t=some v→st.slot t=some v
 res:∀i r,s.res i=some r→st.res i=some r
 live:∀t v,s.slot t=some v→∀i∈v.ids,(s.res i).isSome=true
 alive:∀i r,s.res i=some r→∀j∈r.ids,(s.res j).isSome=true
 tys:em s s.tys
section
variable {C:Cx} {st:St} {Q:Exit→St→Prop} {c:Code} {id:Nat}
theorem Sub.inv {s:St} {a:Act} {w:World} (h:Sub s st) (hi:Inv C st a w):Inv C s a w:=by
 obtain⟨B,T,hi⟩:=hi;have hX:∀b,Own0 C s B T b→Own0 C st B T b:=fun b hb=>by
  rcases hb with hb | ⟨i,r,hr,hb⟩
  ·exact .inl hb
  ·exact .inr ⟨i,r,h.res i r hr,hb⟩
 have S:∀ts,Still w w (Own0 C st B T) (Own0 C s B T) ts:=fun ts=>⟨nr _,fun b cs t fr hx hh ht=>⟨rfl,fun hb=>hx (hX b hb)⟩⟩
 refine⟨B,T,hi.size,hi.dfr,hi.gr,fun t v e=>(hi.slot t v (h.slot t v e)).still (S _) fun _ _=>⟨rfl,rfl⟩,h.live,fun i r e=>?_,h.alive,fun i r j q b e1 e2=>hi.apart i r j q b (h.res i r e1) (h.res j q e2)⟩;have hin:=hi.inn i r (h.res i r e);cases r with
 | box ty cells=>
  obtain⟨h1,us,h2,h3⟩:=hin;exact⟨h1,us,h2,h3.still (S _) fun _ _=>⟨rfl,rfl⟩⟩
 | tok e k ts xs=>
  obtain⟨us,h1,h2,h3,h4⟩:=hin;exact⟨us,h1,PV.RepLL.still (ts:=ts) h2 (S _) fun r hr c hc=>((h3 r hr).2 c hc).2,h3,h4⟩
theorem ez {s:St} (hs:Sub s st) (h:PW C c s Q):PW C c st Q:=fun a w ht hi=>h a w hs.tys (hs.inv hi)
theorem y5 {x y:Code} (h:PW C x st (Then (fun st'=>PW C y st' Q) Q)):PW C (.seq x y) st Q:=fun a w ht hi=>by
 refine wp_seq (Code.wp_mono (fun e a w hq=>?_) (h a w ht hi));obtain⟨st',h1,h2,h3⟩:=hq;cases e with
 | normal=>exact h1 a w h2 h3
 | _=>exact⟨st',h1,h2,h3⟩
theorem adr (h:PW C c st (akv id Q)):PW C (.block id c) st Q:=fun a w ht hi=>by
 refine wp_block (Code.wp_mono (fun e a w hq=>?_) (h a w ht hi));obtain⟨st',h1,h2,h3⟩:=hq;cases e with
 | exit i=>
  show (if i=id then QQ C Q .normal a w else QQ C Q (.exit i) a w);simp only[akv] at h1;by_cases e:i=id
  ·rw[if_pos e];rw[e,Nat.beq_refl] at h1;exact⟨st',h1,h2,h3⟩
  ·rw[if_neg e];rw[j8 e] at h1;exact⟨st',h1,h2,h3⟩
 | _=>exact⟨st',h1,h2,h3⟩
theorem aid (h:Q (.exit id) st):PW C (.exit id) st Q:=fun a w ht hi=>wp_exit ⟨st,h,ht,hi⟩
theorem a9g (h:Q .ret st):PW C .ret st Q:=fun a w ht hi=>wp_ret ⟨st,h,ht,hi⟩
theorem aib (h:Q .normal st):PW C .skip st Q:=fun a w ht hi=>wp_skip ⟨st,h,ht,hi⟩
theorem aie {c:Operand} {x y:Code} {b:Bool} (hc:ev st c=some (.pv (.raw (.bool b)))) (ht:b=true→PW C x st Q) (hf:b=false→PW C y st Q):PW C (.cond c x y) st Q:=fun a w hty hi=>by
 obtain⟨B,T,hi'⟩:=hi;have h1:=(az hi' hc).1;rw[SV.Rep,PV.Rep] at h1;exact wp_cond_split h1 (fun e=>ht e a w hty ⟨B,T,hi'⟩) fun e=>hf e a w hty ⟨B,T,hi'⟩
theorem a9h {l:List Oper} {draw:Bool} {st':St} (L:List Itm) (h:RunL C st.tys l.toArray L st st') (hk:L.map (·.k)=List.range l.length) (hd:(!draw||(js l.toArray (bq l.toArray)&&jt (bq l.toArray) L))=true) (q:Q .normal st'):PW C (.region id l.toArray draw) st Q:=fun a w ht hi=>
 ahf L h hk (fun e=>by rw[e] at hd;exact hd) ht hi fun a w h1 h2=>⟨st',q,by rw[h.keepT];exact h1,h2⟩
theorem aic {ι:Type} (I:ι→St) (μ:ι→Nat) (i0:ι) (h0:Sub (I i0) st) (round:∀i,PW C c (I i) (Then (fun st'=>∃j,Sub (I j) st'∧μ j < μ i) Q)):PW C (.loop c) st Q:=fun a w ht hi=>by
 have hs:=h0.inv hi;refine wp_loop_ghost (fun n a w=>∃i,μ i=n∧Inv C (I i) a w∧em (I i) (I i).tys) (μ i0) ⟨i0,rfl,hs,h0.tys⟩ fun n a w ⟨i,hn,hi,ht⟩=>?_
 refine wp_mono (round i a w ht hi) fun e a w hq=>?_
 obtain⟨st',h1,h2,h3⟩:=hq;cases e with
 | normal=>
  obtain⟨j,h4,h5⟩:=h1;exact⟨μ j,by rw[← hn];exact h5,j,rfl,h4.inv h3,h4.tys⟩
 | _=>exact⟨st',h1,h2,h3⟩
end
def am {α:Type}:List (Nat×α)→Nat→Option α
 | [],_=>none
 | (i,x)::r,t=>bif Nat.beq t i then some x else am r t
def St.of (sl:List (Nat×SV)) (rs:List (Nat×Res)) (tys:List Nat):St:=⟨am sl,am rs,tys⟩
def AllL {α:Type} (f:Nat→Option α):List (Nat×α)→Prop
 | []=>True
 | (t,v)::r=>f t=some v∧AllL f r
theorem AllL.at {α:Type} {f:Nat→Option α}:∀{l:List (Nat×α)} {t:Nat} {v:α},AllL f l→am l t=some v→f t=some v
 | [],t,v,_,e=>by cases e
 | (i,x)::r,t,v,h,e=>by
  rw[am] at e;cases hb:Nat.beq t i with
  | true=>
   rw[hb] at e;injection e with e;obtain rfl:=zF hb;rw[← e];exact h.1
  | false=>rw[hb] at e;exact AllL.at h.2 e
def lw (rs:List (Nat×Res)) (ids:List Nat):Bool:=ids.all fun i=>(am rs i).isSome
def ofB (sl:List (Nat×SV)) (rs:List (Nat×Res)) (tys:List Nat):Bool:=(sl.all fun p=>lw rs p.2.ids)&&rs.all fun p=>lw rs p.2.ids&&tys.contains p.2.typ
theorem eg {α:Type}:∀{l:List (Nat×α)} {t:Nat} {v:α},am l t=some v→∃p∈l,p.2=v
 | [],t,v,e=>by cases e
 | (i,x)::r,t,v,e=>by
  rw[am] at e;cases hb:Nat.beq t i with
  | true=>rw[hb] at e;injection e with e;exact⟨_,mf ..,e⟩
  | false=>
   rw[hb] at e;obtain⟨p,h1,h2⟩:=eg e;exact⟨p,zC _ h1,h2⟩
theorem Sub.of {st:St} {sl:List (Nat×SV)} {rs:List (Nat×Res)} {tys:List Nat} (h1:AllL st.slot sl) (h2:AllL st.res rs) (h3:ofB sl rs tys=true):Sub (St.of sl rs tys) st:=by
 simp only[ofB,be,zG,lw] at h3;refine⟨fun t v e=>h1.at e,fun i r e=>h2.at e,fun t v e i hi=>?_,fun i r e j hj=>?_,fun i r e=>?_⟩
 ·obtain⟨p,hp,rfl⟩:=eg e;exact h3.1 p hp i hi
 ·obtain⟨p,hp,rfl⟩:=eg e;exact (h3.2 p hp).1 j hj
 ·obtain⟨p,hp,rfl⟩:=eg e;exact zE.1 (h3.2 p hp).2
structure Dom (P:Program) (T:List Nat) (Z:Nat) where
 w0:World
 X0:Nat→Prop
 old:∀b,X0 b→b < w0.heap.size
 hm:P.follows .mixedOrders=true
 hT:∀b cs t fr,X0 b→w0.heap[b]?=some (.cells cs t fr)→t ∉ T
 M:Nat→Prop
 hM:∀b,X0 b→¬M b
 F:Nat→Prop
 B0:Nat→Nat
 A0:Nat→Value
abbrev Dom.cx {P:Program} {T:List Nat} {Z:Nat} (D:Dom P T Z) (N:Nat):Cx:=⟨P,D.w0,D.X0,N,T,D.old,D.hm,D.hT,D.M,D.hM,fun i=>D.F i∧N≤i,fun i h k=>absurd h (Nat.not_lt.2 k.2),D.B0,Z,D.A0⟩
def St.init (args:List PV) (tys:List Nat):St:=⟨fun t=>(args[t]?).map .pv,fun _=>none,tys⟩
def resV (P:Program) (tab:Tab) (st:St) (r:ResultVar) (p:PV):Prop:=match r with
 | .tmp t=>∃s,st.slot t=some s∧Co st s p
 | .cell t ty=>∃id tz cs l,st.slot t=some (.box id 0)∧bxo st id 0=some (tz,cs)∧tab.get ty=some l∧(match l.agg with
  | true=>cs.length=l.zero.length∧∃ps,p=.agg ps∧CoL st cs ps
  | false=>∃c,cs=[c]∧Co st c p)
def resL (P:Program) (tab:Tab) (st:St):List ResultVar→List PV→Prop
 | [],ps=>ps=[]
 | r::rs,ps=>∃p ps',ps=p::ps'∧resV P tab st r p∧resL P tab st rs ps'
def a2x (P:Program) (tab:Tab) (fn:Func) (st:St) (res:PV):Prop:=match fn.results.toList with
 | [r]=>resV P tab st r res
 | rs=>∃ps,res=.tup ps∧resL P tab st rs ps
def RetQ (P:Program) (tab:Tab) (fn:Func) (res:PV):Exit→St→Prop
 | .ret,st | .normal,st=>a2x P tab fn st res
 | _,_=>False
section
variable {P:Program} {tab:Tab} {C:Cx} {st:St} {a:Act} {w:World}
theorem ad1 (hT:ie C.P tab) (hi:Inv C st a w) {r:ResultVar} {p:PV} (h:resV C.P tab st r p):∃v,(match r with
  | .tmp t=>(pure (a.tmps.getD t undef):Sem Value)
  | .cell x t=>do loadVar t (← asAddr (a.tmps.getD x undef))).run C.P w=.ok v w∧p.Rep w C.X0 v:=by
 obtain⟨B,T,hi⟩:=hi;have hX:∀ids b,C.X0 b→Own0 C st B T b∧¬lent st B T ids b:=fun ids b hb=>⟨.inl hb,fun ⟨i,_,r,hr,hb2⟩=>by
  have hin:=hi.inn i _ hr;have:=C.old b hb;cases r with
  | box ty cells=>
   obtain⟨h1,_⟩:=hin;simp only[Res.blk,oq] at hb2;exact h1.elim (fun g=>by omega) (hb2▸C.hM b hb)
  | tok e k ts xs=>
   obtain⟨us,_,_,_,_,_,h1⟩:=hin;exact (h1 b hb2).elim (fun g=>by omega) (C.hM b hb)⟩
 cases r with
 | tmp t=>
  obtain⟨s,h1,h2⟩:=h;exact⟨_,rfl,h2.rep hi (hi.slot t s h1) (hX _)⟩
 | cell t ty=>
  obtain⟨id,tz,cs,l,h1,h2,h3,h4⟩:=h;have lk:=Tab.get_ok hT h3;obtain⟨d,hu,hd⟩:=lk.agg;have hs:=hi.slot t _ h1;rw[SV.Rep,mw rfl] at hs;obtain⟨h2,_,htz⟩:=yi h2;obtain⟨g1,us,g2,g3⟩:=hi.inn id _ h2;have g2:=g2.bk htz;simp only[hs,asAddr];have hc:∀j v,us[j]?=some v→w.cell? ((⟨B id,0,none⟩:Addr).add j)=some v:=fun j v hv=>by
   rw[ij,g2.cell];simpa using hv
  cases hag:l.agg with
  | true=>
   rw[hag] at h4;obtain⟨h5,ps,rfl,h6⟩:=h4;refine⟨.agg us.toArray,?_,?_⟩
   ·exact mi (n:=l.zero.length) hu (hd.trans hag) (by rw[lk.size,g3.len,h5]) hc
   ·rw[PV.Rep];exact⟨us,rfl,h6.rep hi g3 (hX _)⟩
  | false=>
   rw[hag] at h4;obtain⟨c,rfl,h6⟩:=h4;have g4:=g3;rw[SV.RepL] at g4;obtain⟨u,us',rfl,g5,g6⟩:=g4;refine⟨u,?_,h6.rep hi g5 (hX _)⟩;refine iw hu (hd.trans hag) ?_;have:=hc 0 u rfl;rwa [add_zero] at this
theorem a4w (hT:ie C.P tab) (hi:Inv C st a w):∀{rs:List ResultVar} {ps:List PV},resL C.P tab st rs ps→∃vs:List Value,(rs.mapM fun (r:ResultVar)=>match r with
  | .tmp t=>(pure (a.tmps.getD t undef):Sem Value)
  | .cell x t=>do loadVar t (← asAddr (a.tmps.getD x undef))).run C.P w=.ok vs w∧PV.RepL w C.X0 ps vs
 | [],ps,h=>by
  rw[resL] at h;subst h;exact⟨[],rfl,by rw[PV.RepL]⟩
 | r::rs,ps,h=>by
  rw[resL] at h;obtain⟨p,ps',rfl,h1,h2⟩:=h;obtain⟨v,h3,h4⟩:=ad1 hT hi h1;obtain⟨vs,h5,h6⟩:=a4w hT hi h2;refine⟨v::vs,?_,PV.RepL.cons h4 h6⟩;rw[List.mapM_cons,Sem.run_bind,h3,Result.andThen_ok,Sem.run_bind,h5,Result.andThen_ok,Sem.run_pure]
theorem og (hT:ie C.P tab) {fn:Func} (hi:Inv C st a w) {res:PV} (h:a2x C.P tab fn st res):∃v,(results fn a.tmps).run C.P w=.ok v w∧res.Rep w C.X0 v:=by
 have key:∀(ps:List PV),resL C.P tab st fn.results.toList ps→∃vs:List Value,(results fn a.tmps).run C.P w=.ok (if h:vs.toArray.size=1 then vs.toArray[0] else .tuple vs.toArray) w∧PV.RepL w C.X0 ps vs:=fun ps hps=>by
  obtain⟨vs,h1,h2⟩:=a4w hT hi hps;refine⟨vs,?_,h2⟩;unfold results;rw[Sem.run_bind,Array.mapM_eq_mapM_toList,map_eq_pure_bind,Sem.run_bind];exact congrArg (fun r:Result (List Value)=>(r.andThen fun (a:List Value) w'=>Sem.run C.P (pure a.toArray) w').andThen fun (a:Array Value) w'=>Sem.run C.P (pure (if h:a.size=1 then a[0] else .tuple a)) w') h1
 unfold a2x at h;split at h
 ·rename_i r hr
  obtain⟨vs,h1,h2⟩:=key [res] (by rw[hr];exact⟨res,[],rfl,h,rfl⟩);rw[PV.RepL] at h2;obtain⟨u,us',rfl,h3,h4⟩:=h2;rw[PV.RepL] at h4;subst h4;exact⟨u,h1,h3⟩
 ·rename_i hne
  obtain⟨ps,rfl,h2⟩:=h;obtain⟨vs,h3,h4⟩:=key ps h2;refine⟨.tuple vs.toArray,?_,by rw[PV.Rep];exact⟨vs,rfl,h4⟩⟩;rw[h3,dif_neg];intro e;have h5:ps.length=1:=by rw[← h4.len];simpa using e
  have h6:∀(rs:List ResultVar) (ps:List PV),resL C.P tab st rs ps→rs.length=ps.length:=fun rs=>by
   induction rs with
   | nil=>intro ps h;rw[resL] at h;rw[h];rfl
   | cons r rs ih=>intro ps h;rw[resL] at h;obtain⟨p,ps',rfl,_,h⟩:=h;rw[zW,zW,ih ps' h]
  have h7:=h6 _ _ h2;rw[h5] at h7;obtain⟨r,hr⟩:=List.length_eq_one_iff.1 h7;exact hne r hr
theorem Gr.of_fr {X:Nat→Prop} {w':World} (h:Fr X w w') (hX:∀b,¬X b:=by exact fun _ h=>h):Gr w w':=Gr.of (h.below (nr _) fun b _=>hX b)
theorem PCalls.of {T:List Nat} {f:FuncId} {args:List PV} {res:PV} {fn:Func} {c:Code} (tys:List Nat) (hT:ie P tab) (hm:P.follows .mixedOrders=true) (hcall:fv P f=true) (hf:P.funcs[f]?=some fn) (hb:fn.body=some c) (hn:Nat.ble args.length fn.ntmps=true) (h:∀D:Dom P T 0,PW (D.cx fn.ntmps) c (St.init args tys) (RetQ P tab fn res)):PCalls P T f args res:=by
 refine⟨hcall,fun w X us hX hXT hr=>?_⟩;have hn:=zD hn
 let D:Dom P T 0:=⟨w,X,hX,hm,hXT,fun _=>False,(fun _ _ h=>h),fun _=>False,fun _=>0,fun _=>undef⟩
 refine calls_of_wp hf hb ?_;have hlen:=hr.len;have hinv:Inv (D.cx fn.ntmps) (St.init args tys) { tmps:=us.toArray++Array.replicate (fn.ntmps - us.toArray.size) undef,defers:=[] } w:=by
  refine⟨fun _=>0,fun _=>Sv.none,⟨⟨by simp;omega,fun t h=>absurd h (Nat.not_lt_zero t)⟩,rfl,⟨Fr.refl _ w,fun i h=>h.1.elim⟩,fun t s e=>?_,fun t s e i hi=>?_,(fun i r e=>by cases e),(fun i r e=>by cases e),fun i r j q b e=>by cases e⟩⟩
  ·simp only[St.init] at e;obtain⟨p,hp,rfl⟩:=Option.map_eq_some_iff.1 e;obtain⟨u,hu,hpr⟩:=hr.at hp;rw[SV.Rep];have hut:(us.toArray++Array.replicate (fn.ntmps - us.toArray.size) undef).getD t undef=u:=by
    have hlt:=(gs hu).1;rw[Array.getD_eq_getD_getElem?,Array.getElem?_append_left (by simpa using hlt)];simp[hu]
   rw[hut];exact hpr.still ⟨nr _,fun b cs t fr hx hh ht=>⟨rfl,fun hb=>by
    rcases hb with hb | ⟨i,r,hr,_⟩
    ·exact hx hb
    ·cases hr⟩⟩
  ·simp only[St.init] at e;obtain⟨p,hp,rfl⟩:=Option.map_eq_some_iff.1 e;cases (show i∈([]:List Nat) from hi)
 refine Code.wp_mono (fun e a w' hq=>?_) (h D _ w (fun i r e=>by cases e) hinv);obtain⟨st,h1,_,h3⟩:=hq;have fin:a2x P tab fn st res→bodyPost P fn (fun e w'=>∃v,e=.returned v∧res.Rep w' X v∧Gr w w') .ret a w':=fun h1=>by
  obtain⟨v,g1,g2⟩:=og (C:=D.cx fn.ntmps) hT h3 h1;obtain⟨B,T',h4⟩:=h3;exact bodyPost_ret g1 h4.dfr ⟨v,rfl,g2,Gr.of_fr h4.gr.fr⟩
 cases e with
 | ret=>exact fin h1
 | normal=>
  obtain⟨v,g1,g2⟩:=og (C:=D.cx fn.ntmps) hT h3 h1;obtain⟨B,T',h4⟩:=h3;exact bodyPost_end g1 h4.dfr ⟨v,rfl,g2,Gr.of_fr h4.gr.fr⟩
 | _=>exact h1.elim
end
section
variable {C:Cx} {tys:List Nat} {ops:Array Oper} {st st':St} {a:Act} {w:World} {z:Nat} {oz:Oper}
theorem vf {Q:Exit→Act→World→Prop} (hz:ops[z]?=some oz) (hwz:co ops oz st'=some true) (hdo:∀a w,em st' tys→Inv C st' a w→dj C.P oz a w fun v w'=>Q .normal (a.put oz.dst v) w'):∀(L:List Itm) {st:St} {a:Act} {w:World},RunL C tys ops L st st'→em st tys→Inv C st a w→wpOps C.P ops Q (L.map (·.k)++[z]) a w
 | [],st,a,w,h,ht,hi=>by
  rw[RunL] at h;subst h;simp only[List.map_nil,zX,wpOps,hz,gm hi hwz,if_true];exact .inl (fy (hdo a w ht hi) fun v w' hv=>hv)
 | x::L,st,a,w,h,ht,hi=>by
  rw[RunL] at h;obtain⟨o,ho,hw,h1,h2,hd,_,h3⟩:=h;simp only[List.map_cons,zY,wpOps,ho,gm hi hw];cases hb:x.b with
  | true=>
   obtain⟨h4,h5⟩:=h1 hb;simp only[if_true];refine .inl (fy (h5 st (fun _ _=>rfl) (fun _ _=>rfl) ht a w hi) fun v w' hv=>?_);exact vf hz hwz hdo L h3 (jq ht fun i r e=>(h4 i r e).2) hv
  | false=>
   have:=h2 hb;rw[this] at h3;simp only[Bool.false_eq_true,if_false];exact vf hz hwz hdo L h3 (jq ht fun i r e=>by cases e) (r4 hi hd)
theorem aho {Q:Exit→Act→World→Prop} (hz:ops[z]?=some oz) (hwz:co ops oz st'=some true) (hB:js ops (bq ops)=true) (hdo:∀a w,em st' tys→Inv C st' a w→dj C.P oz a w fun v w'=>Q .normal (a.put oz.dst v) w'):
  ∀(n:Nat) (L:List Itm) (listed:Array Bool) (st:St) (a:Act) (w:World),L.length=n→listed.size=ops.size→(∀k,k < ops.size→(listed.getD k true=false↔k∈L.map (·.k)∨k=z))→(∀x∈L,x.k≠z)→(∀x∈L,((bq ops).getD z []).contains x.k=true)→(∀x∈L,x.k < ops.size)→(L.map (·.k)).Pairwise (· < ·)→(∀j,listed.getD j false=true→∀i∈(bq ops).getD j [],listed.getD i false=true)→
   jt (bq ops) L=true→RunL C tys ops L st st'→em st tys→Inv C st a w→wpAny C.P .any ops Q (n+1) listed a w:=by
 intro n;have hB':=hB;simp only[js,be,zG,List.mem_range] at hB;have spec:∀j oj,ops[j]?=some oj→(∀e∈oj.after,Region.binds .any e=true→e.on < j)∧(∀i∈(bq ops).getD j [],i < j∧∃e∈oj.after,Region.binds .any e=true∧(e.on=i∨i∈(bq ops).getD e.on []))∧(∀i,i < j→∀oi,ops[i]?=some oi→(∃e∈oj.after,Region.binds .any e=true∧e.on=i)∨oi.apart ops oj=true):=fun j oj hj=>by
  have h1:=hB.2 j (Array.getElem?_eq_some_iff.1 hj).1;simp only[hj,be,zG,List.mem_range,Array.all_eq_true_iff_forall_mem,de,Bool.or_eq_true,Bool.not_eq_true'] at h1;refine⟨fun e he hb=>(h1.1.1 e he).resolve_left (by rw[hb];exact Bool.noConfusion),fun i hi=>?_,fun i hi oi hoi=>?_⟩
  ·obtain⟨h2,h3⟩:=h1.1.2 i hi;obtain⟨e,he,hb⟩:=Array.any_eq_true'.1 h3;simp only[be,Bool.or_eq_true,beq_iff_eq,zE] at hb;exact⟨h2,e,he,hb.1,hb.2⟩
  ·have h2:=h1.2 i hi;simp only[hoi,Bool.or_eq_true] at h2;rcases h2 with h2 | h2
   ·obtain⟨e,he,hb⟩:=Array.any_eq_true'.1 h2;simp only[be,beq_iff_eq] at hb;exact .inl ⟨e,he,hb.1,hb.2⟩
   ·exact .inr h2
 have tr:∀(listed:Array Bool),listed.size=ops.size→∀i,i < ops.size→listed.getD i true=true→listed.getD i false=true:=fun listed hsz i hi h=>by
  have:i < listed.size:=by rw[hsz];exact hi
  simpa [this] using h
 have hzs:z < ops.size:=(Array.getElem?_eq_some_iff.1 hz).1;have hzd:∀i,((bq ops).getD z []).contains i=true→i < z:=fun i hi=>((spec z oz hz).2.1 i (zE.1 hi)).1
 induction n with
 | zero=>
  intro L listed st a w hn hsz hlist hnz hlz hlt hp hcl hf hr ht hi;obtain rfl:=List.length_eq_zero_iff.1 hn;rw[RunL] at hr;subst hr;have only:∀k,k < ops.size→listed.getD k true=false→k=z:=fun k hk h=>((hlist k hk).1 h).resolve_left (fun h=>by cases h)
  refine⟨fun h0=>?_,fun j hj=>?_⟩
  ·exfalso
   have:z∈Region.ready .any ops listed:=mem_ready.2 ⟨(hlist z hzs).2 (.inr rfl),oz,hz,fun e he hb=>by
    have h1:=(spec z oz hz).1 e he hb;refine tr listed hsz _ om ?_;cases hl:listed.getD e.on true with
    | true=>rfl
    | false=>have:=only e.on om hl;omega⟩
   rw[h0] at this;cases this
  ·obtain⟨hun,oj,hoj,_⟩:=mem_ready.1 hj;obtain rfl:=only j (Array.getElem?_eq_some_iff.1 hoj).1 hun;unfold wpOp;simp only[hz,gm hi hwz,if_true];refine .inl (fy (hdo a w ht hi) fun v w' hv=>⟨?_,hv⟩);cases hr:Region.ready .any ops (listed.setIfInBounds j true) with
   | nil=>rfl
   | cons i l=>
    have hi2:i∈Region.ready .any ops (listed.setIfInBounds j true):=by rw[hr];exact mf ..
    obtain⟨h1,o,ho,_⟩:=mem_ready.1 hi2;rw[j5 (by rw[hsz];exact hzs)] at h1;exact absurd (only i (Array.getElem?_eq_some_iff.1 ho).1 h1.1) h1.2
 | succ n ih=>
  intro L listed st a w hn hsz hlist hnz hlz hlt hp hcl hf hr ht hi;have tr:=tr listed hsz;have fl:∀i,listed.getD i true=false→listed.getD i false=true→False:=fun i h1 h2=>by
   rcases zU i listed.size with h' | h'
   ·simp[h'] at h1 h2;rw[h1] at h2;cases h2
   ·simp[zR h'] at h1
  refine⟨fun h0=>?_,fun j hj=>?_⟩
  ·exfalso
   cases L with
   | nil=>simp at hn
   | cons x L=>
    have hx:=hlt x (mf ..);have:x.k∈Region.ready .any ops listed:=mem_ready.2 ⟨(hlist x.k hx).2 (.inl (mf ..)),_,Array.getElem?_eq_getElem hx,fun e he hb=>by
     have h1:=(spec x.k _ (Array.getElem?_eq_getElem hx)).1 e he hb;refine tr _ om ?_;cases hl:listed.getD e.on true with
     | true=>rfl
     | false=>
      have h2:=((hlist e.on om).1 hl).resolve_right fun h=>by
       have:=hzd x.k (hlz x (mf ..));omega
      rw[List.map_cons] at h2 hp;rcases zP.1 h2 with h3 | h3
      ·omega
      ·have:=(List.pairwise_cons.1 hp).1 _ h3;omega⟩
    rw[h0] at this;cases this
  ·obtain⟨hun,oj,hoj,hall⟩:=mem_ready.1 hj;have hjs:=(Array.getElem?_eq_some_iff.1 hoj).1;have hjz:j≠z:=fun e=>by
    subst e;cases L with
    | nil=>simp at hn
    | cons x L=>
     have h1:=hlz x (mf ..);obtain⟨_,e,he,hb,h2⟩:=(spec j oj hoj).2.1 x.k (zE.1 h1);have h3:listed.getD x.k false=true:=by
      rcases h2 with h2 | h2
      ·rw[← h2];exact hall e he hb
      ·exact hcl _ (hall e he hb) x.k h2
     exact fl x.k ((hlist x.k (hlt x (mf ..))).2 (.inl (mf ..))) h3
   obtain⟨x,hx,hxk⟩:=List.mem_map.1 (((hlist j hjs).1 hun).resolve_right hjz);obtain⟨l,r,hlr⟩:=List.append_of_mem hx;have hdl:∀i∈(bq ops).getD j [],listed.getD i false=true:=fun i hi=>by
    obtain⟨_,e,he,hb,h2⟩:=(spec j oj hoj).2.1 i hi;rcases h2 with h2 | h2
    ·rw[← h2];exact hall e he hb
    ·exact hcl _ (hall e he hb) i h2
   rw[hlr,zN,List.map_cons] at hp;have hp1:=List.pairwise_append.1 hp;have unl:∀y∈L,listed.getD y.k true=false:=fun y hy=>(hlist y.k (hlt y hy)).2 (.inl (List.mem_map.2 ⟨y,hy,rfl⟩))
   have comp:∀y∈l,y.free x=true∧∀p q,ops[y.k]?=some p→ops[x.k]?=some q→p.apart ops q=true:=fun y hy=>by
    have hyL:y∈L:=by rw[hlr];exact zL _ hy
    have hyx:y.k < x.k:=hp1.2.2 y.k (List.mem_map.2 ⟨y,hy,rfl⟩) x.k (mf ..);refine⟨(a0e hf hlr y hy).resolve_left fun hc=>?_,fun p q hp hq=>?_⟩
    ·rw[hxk] at hc;exact fl y.k (unl y hyL) (hdl y.k (zE.1 hc))
    ·rw[hxk] at hq;rcases (spec j q hq).2.2 y.k om p hp with ⟨e,he,hb,h1⟩ | h1
     ·rw[hoj] at hq;injection hq with hq;subst hq;exact (fl y.k (unl y hyL) (by rw[← h1];exact hall e he hb)).elim
     ·exact h1
   rw[hlr] at hr;have h3:=hr.pull comp;rw[RunL] at h3;obtain⟨o,ho,hw,h4,h5,hd,_,h6⟩:=h3;rw[hxk,hoj] at ho;injection ho with ho;subst ho;have hjl:j < listed.size:=by rw[hsz];exact hjs
   have hnd:∀y∈l++r,y.k≠j:=fun y hy e=>by
    rw[← hxk] at e;rcases zJ.1 hy with h7 | h7
    ·have:=hp1.2.2 y.k (List.mem_map.2 ⟨y,h7,rfl⟩) x.k (mf ..);omega
    ·have:=(List.pairwise_cons.1 hp1.2.1).1 y.k (List.mem_map.2 ⟨y,h7,rfl⟩);omega
   have next:=fun (a':Act) (w':World) (ht':em (x.e.app oj.dst st) tys) (hi':Inv C (x.e.app oj.dst st) a' w')=>ih (l++r) (listed.setIfInBounds j true) (x.e.app oj.dst st) a' w' (by
     have:L.length=(l++r).length+1:=by rw[hlr];simp;omega
     omega) (by simpa using hsz) (fun k hk=>by
     rw[j5 hjl,hlist k hk,hlr];simp only[zN,List.map_cons,zJ,zP]
     constructor
     ·rintro ⟨(h7 | h7 | h7) | h7,h8⟩
      ·exact .inl (.inl h7)
      ·exact absurd (h7.trans hxk) h8
      ·exact .inl (.inr h7)
      ·exact .inr h7
     ·rintro (h7 | h7)
      ·refine⟨.inl (h7.imp id .inr),fun e=>?_⟩;rw[← zJ,← zN] at h7;obtain⟨y,hy,e2⟩:=List.mem_map.1 h7;exact hnd y hy (e2.trans e)
      ·exact⟨.inr h7,fun e=>hjz (e.symm.trans h7)⟩) (fun y hy=>hnz y (by rw[hlr];rcases zJ.1 hy with h7 | h7;exact zL _ h7;exact zV _ (zC _ h7))) (fun y hy=>hlz y (by rw[hlr];rcases zJ.1 hy with h7 | h7;exact zL _ h7;exact zV _ (zC _ h7))) (fun y hy=>hlt y (by rw[hlr];rcases zJ.1 hy with h7 | h7;exact zL _ h7;exact zV _ (zC _ h7))) (by
     rw[zN];exact List.pairwise_append.2 ⟨hp1.1,(List.pairwise_cons.1 hp1.2.1).2,fun p hp q hq=>hp1.2.2 p hp q (zC _ hq)⟩) (fun i hi2 d hd2=>by
     by_cases hij:i=j
     ·subst hij;exact getD_set_true (hdl d hd2)
     ·rw[getD_set_ne false (Ne.symm hij)] at hi2;exact getD_set_true (hcl i hi2 d hd2)) (sn (by rw[← hlr];exact hf)) h6 ht' hi'
   unfold wpOp;simp only[hoj,gm hi hw];cases hb:x.b with
   | true=>
    obtain⟨h7,h8⟩:=h4 hb;simp only[if_true];exact .inl (fy (h8 st (fun _ _=>rfl) (fun _ _=>rfl) ht a w hi) fun v w' hv=>next _ _ (jq ht fun i r e=>(h7 i r e).2) hv)
   | false=>
    have:=h5 hb;simp only[Bool.false_eq_true,if_false];refine next _ _ (jq ht fun i r e=>by rw[this] at e;cases e) ?_;rw[this];exact r4 hi hd
def a7i (D:Array (List Nat)) (z:Nat) (L:List Itm):Bool:=L.all fun x=>(D.getD z []).contains x.k
theorem aci {Q:Exit→Act→World→Prop} {id:Nat} {l:List Oper} {draw:Bool} (L:List Itm) (h:RunL C tys l.toArray L st st') (hk:L.map (·.k)++[z]=List.range l.length) (hz:l.toArray[z]?=some oz) (hwz:co l.toArray oz st'=some true) (hd:draw=true→(js l.toArray (bq l.toArray)&&jt (bq l.toArray) L&&a7i (bq l.toArray) z L)=true) (ht:em st tys) (hi:Inv C st a w) (hdo:∀a w,em st' tys→Inv C st' a w→dj C.P oz a w fun v w'=>Q .normal (a.put oz.dst v) w'):(Code.region id l.toArray draw).wp C.P Q a w:=by
 cases draw with
 | false=>
  refine wp_region ?_;have:=vf hz hwz hdo L h ht hi;rw[hk] at this;simpa using this
 | true=>
  have hb:=hd rfl;simp only[be] at hb;obtain⟨⟨hb1,hb2⟩,hb3⟩:=hb;have hlast:=zG.1 hb3;refine wp_region_any C.hm ?_;have hlen:L.length+1=l.length:=by have:=congrArg List.length hk;simpa using this
  have h0:Inv C st a w.drew:=by
   obtain⟨B,T,h⟩:=hi;exact⟨B,T,h.grow (Gr.refl w).drew⟩
  have mem:∀k,k < l.length↔k∈L.map (·.k)∨k=z:=fun k=>by
   rw[← List.mem_range,← hk,zJ,zH]
  have hpw:(L.map (·.k)++[z]).Pairwise (· < ·):=by rw[hk];exact List.pairwise_lt_range
  have hpa:=List.pairwise_append.1 hpw;have hsz:l.toArray.size=L.length+1:=by simp[hlen]
  rw[hsz];refine aho hz hwz hb1 hdo _ L _ st a _ rfl (by simp[hlen]) (fun k hk2=>?_) (fun x hx e=>?_) (fun x hx=>hlast x hx) (fun x hx=>by
   have:=(mem x.k).2 (.inl (List.mem_map.2 ⟨x,hx,rfl⟩));simpa using this) hpa.1 (fun j hj=>?_) hb2 h ht h0
  ·have hk3:k < l.length:=by simpa using hk2
   rw[← mem];simp[hk3,hlen]
  ·have:=hpa.2.2 x.k (List.mem_map.2 ⟨x,hx,rfl⟩) z (zH.2 rfl);omega
  ·exfalso
   rcases zU j (L.length+1) with h1 | h1
   ·simp[h1] at hj
   ·simp[h1] at hj
end
def dstB (o:Oper) (N Z:Nat):Bool:=match o.dst with
 | some d=>Nat.blt d N&&Nat.ble Z d
 | none=>true
theorem mx {o:Oper} {N Z:Nat} (h:dstB o N Z=true):∀d,o.dst=some d→d < N∧Z≤d:=fun d e=>by
 unfold dstB at h;rw[e] at h;simp only[be] at h;exact⟨zD h.1,zD h.2⟩
def nthL:List Oper→Nat→Option Oper
 | [],_=>none
 | o::_,0=>some o
 | _::r,k+1=>nthL r k
theorem a5p:∀{l:List Oper} {k:Nat},nthL l k=l[k]?
 | [],k=>by cases k<;>rfl
 | o::r,0=>rfl
 | o::r,k+1=>by rw[nthL,a5p];simp
theorem nf {l:List Oper} {k:Nat} {o:Oper} (h:nthL l k=some o):l.toArray[k]?=some o:=by rw[a5p] at h;simpa using h
def lkOf (ops:List Oper) (k:Nat) (st:St) (e:Eff):Option (List Nat):=match nthL ops k with
 | some o=>covL o st e.rb
 | none=>none
def anr (tab:Tab) (o:Oper) (st:St) (s:SV):Bool:=(match o.op with
 | .load t x=>(match tab.get t,ev st x with
  | some l,some (.box _ _)=>!l.agg
  | _,_=>false)
 | .fieldAddr ..=>true
 | _=>false)&&!s.isAny
def lkA (tab:Tab) (o:Oper) (st:St) (e:Eff):Option (List Nat):=match anr tab o st e.s with
 | true=>(match covL o st [] with
  | some l=>some (l++e.s.ids)
  | none=>none)
 | false=>covL o st e.rb
def l6 (tab:Tab) (N Z:Nat) (ops:List Oper):List Nat→St→Option (List Itm×List Nat×St)
 | [],st=>some ([],[],st)
 | k::ks,st=>match nthL ops k with
  | some ⟨dst,op,ty,ps,af,gd⟩=>(match dstB ⟨dst,op,ty,ps,af,gd⟩ N Z with
   | true=>(match co ops.toArray ⟨dst,op,ty,ps,af,gd⟩ st with
    | some false=>(match l6 tab N Z ops ks (skipE.app dst st) with
     | some (L,ks',st')=>some (⟨k,false,skipE,covL ⟨dst,op,ty,ps,af,gd⟩ st []⟩::L,ks',st')
     | none=>none)
    | some true=>(match evalOp tab ⟨dst,op,ty,ps,af,gd⟩ st with
     | some e=>(match l6 tab N Z ops ks (e.app dst st) with
      | some (L,ks',st')=>some (⟨k,true,e,lkA tab ⟨dst,op,ty,ps,af,gd⟩ st e⟩::L,ks',st')
      | none=>none)
     | none=>some ([],k::ks,st))
    | none=>some ([],k::ks,st))
   | false=>none)
  | none=>none
section
variable {C:Cx} {tab:Tab} {ops:List Oper} {Q:Exit→St→Prop} {st:St} {tys ks:List Nat} {draw:Bool} {acc L:List Itm}
theorem an1 (hT:ie C.P tab) {o:Oper} {e:Eff} {l:List Nat} (hd:∀d,o.dst=some d→C.dk d) (he:evalOp tab o st=some e) (h:lkA tab o st e=some l):CovI C st.tys l o st true e:=by
 unfold lkA at h;split at h
 ·rename_i hc
  split at h
  ·rename_i l0 hl0
   injection h with h;subst h;have hcov:=a0l hl0;refine⟨⟨fun t ht s hs=>⟨(hcov.1 t ht s hs).1,fun i hi=>zL _ ((hcov.1 t ht s hs).2 i hi)⟩,fun j hj=>by cases hj⟩,fun _ st0 k1 k2=>?_⟩;unfold anr at hc;rw[be] at hc;obtain⟨hc,hna⟩:=hc;obtain⟨dst,op,ty,ps,af,gd⟩:=o;cases op with
   | fieldAddr t x j=>
    have h9:evalOp tab ⟨dst,.fieldAddr t x j,ty,ps,af,gd⟩ ⟨st0.slot,st0.res,st.tys⟩=some e:=by
     rw[← he];have:=Agree.ev (o:=⟨dst,.fieldAddr t x j,ty,ps,af,gd⟩) (rb:=[]) (st:=st) (st1:=⟨st0.slot,st0.res,st.tys⟩) ⟨k1,fun i hi=>by cases hi⟩ (x:=x) (by simp[Op.operands]);simp only[evalOp,this]
    exact (r5 (C:=C) hT hd h9).move (fun _ _=>rfl) fun _ _=>rfl
   | load t x=>
    have hev:∀st':St,(∀t∈mo ⟨dst,.load t x,ty,ps,af,gd⟩,st'.slot t=st.slot t)→ev st' x=ev st x:=fun st' hst=>Agree.ev (o:=⟨dst,.load t x,ty,ps,af,gd⟩) (rb:=[]) ⟨hst,fun i hi=>by cases hi⟩ (by simp[Op.operands])
    simp only[evalOp] at he;simp only at hc;split at he
    ·rename_i ly hly
     rw[hly] at hc;split at he
     ·rename_i id off hx
      rw[hx] at hc;simp only[Bool.not_eq_true'] at hc;split at he
      ·rename_i tz cs hre
       rw[hc] at he;simp only at he;split at he
       ·rename_i s hs
        injection he with he;subst he;have hid:id∈(valE s [id]).rb:=zL _ (zH.2 rfl);obtain⟨hre,hoff,htz⟩:=yi hre;obtain⟨tz',cs0,hre0,hs0,htz'⟩:∃tz' cs0,st0.res id=some (.box tz' cs0)∧cs0[off]?=some s∧Nat.blt tz' 1000000=true:=by
         rcases k2 id hid with k | ⟨t,c1,c0,h1,h2,_,h4,_⟩
         ·exact⟨tz,cs,by rw[← k,hre],hs,htz⟩
         ·rw[hre] at h1;injection h1 with h1;injection h1 with e1 e2;subst e1 e2;exact⟨_,c0,h2,h4 off s hs (by simpa [valE] using hna) (fun i hi=>zV _ hi),htz⟩
        have h9:evalOp tab ⟨dst,.load t x,ty,ps,af,gd⟩ ⟨st0.slot,st0.res,st.tys⟩=some (valE s [id]):=by
         simp only[evalOp,hly,hev ⟨st0.slot,st0.res,st.tys⟩ k1,hx,anu (st:=⟨st0.slot,st0.res,st.tys⟩) hre0 hoff htz',hc,hs0]
        have:=r5 (C:=C) hT hd h9;exact this.move (fun _ _=>rfl) fun _ _=>rfl
       ·cases he
      ·cases he
     ·rename_i a b hx
      rw[hx] at hc;cases hc
     ·cases he
    ·cases he
   | _=>cases hc
  ·cases h
 ·exact (a0l h).cov fun _=>r5 hT hd he
theorem ri (hT:ie C.P tab) :∀{ks ks':List Nat} {st st1 st':St} {L L':List Itm},l6 tab C.N C.Z ops ks st=some (L,ks',st1)→st.tys=tys→RunL C tys ops.toArray L' st1 st'→RunL C tys ops.toArray (L++L') st st'∧L.map (·.k)++ks'=ks
 | [],ks',st,st1,st',L,L',h,ht,hr=>by
  rw[l6] at h;injection h with h;injection h with h1 h2;injection h2 with h2 h3;subst h1 h2 h3;exact⟨hr,rfl⟩
 | k::ks,ks',st,st1,st',L,L',h,ht,hr=>by
  rw[l6] at h;split at h
  ·rename_i dst op ty ps af gd ho0
   have ho:=nf ho0;split at h
   ·rename_i hd
    have hd':=mx hd;split at h
    ·rename_i hw
     split at h
     ·rename_i L1 ks1 st2 h2
      injection h with h;injection h with h3 h4;injection h4 with h4 h5;subst h3 h4 h5;obtain⟨g1,g2⟩:=ri hT h2 ht hr;refine⟨?_,by rw[← g2];rfl⟩;rw[zY,RunL];exact⟨_,ho,hw,fun e=>(by cases e),fun _=>rfl,hd',fun l hl=>(show CovP l _ st skipE.rb from a0l hl).cov fun e=>(by cases e),g1⟩
     ·cases h
    ·rename_i hw
     split at h
     ·rename_i e he
      split at h
      ·rename_i L1 ks1 st2 h2
       injection h with h;injection h with h3 h4;injection h4 with h4 h5;subst h3 h4 h5;obtain⟨g1,g2⟩:=ri hT h2 ht hr;refine⟨?_,by rw[← g2];rfl⟩;rw[zY,RunL];rw[← ht];exact⟨_,ho,hw,fun _=>r5 hT hd' he,fun e=>(by cases e),hd',(fun l hl=>an1 hT hd' he hl),by rw[ht];exact g1⟩
      ·cases h
     ·injection h with h;injection h with h3 h4;injection h4 with h4 h5;subst h3 h4 h5;exact⟨hr,rfl⟩
    ·injection h with h;injection h with h3 h4;injection h4 with h4 h5;subst h3 h4 h5;exact⟨hr,rfl⟩
   ·cases h
  ·cases h
def ao2 (C:Cx) (ops:List Oper) (z:Nat) (Q:Exit→St→Prop) (st1:St):Prop:=∃oz,ops.toArray[z]?=some oz∧co ops.toArray oz st1=some true∧∀a w,em st1 st1.tys→Inv C st1 a w→dj C.P oz a w fun v w'=>∃st2,Q .normal st2∧em st2 st2.tys∧Inv C st2 (a.put oz.dst v) w'
def Reg (C:Cx) (ops:List Oper) (draw:Bool) (Q:Exit→St→Prop) (acc:List Itm) (ks:List Nat) (st:St):Prop:=match draw with
 | true=>∃L st',RunL C st.tys ops.toArray L st st'∧(js ops.toArray (bq ops.toArray)&&jt (bq ops.toArray) (acc++L))=true∧(Q .normal st'∧L.map (·.k)=ks∨∃z,ao2 C ops z Q st'∧L.map (·.k)++[z]=ks∧a7i (bq ops.toArray) z (acc++L)=true)
 | false=>∀a w,em st st.tys→Inv C st a w→wpOps C.P ops.toArray (QQ C Q) ks a w
theorem a1h {id:Nat} {l:List Oper} (h:Reg C l draw Q [] (List.range l.length) st):PW C (.region id l.toArray draw) st Q:=by
 cases draw with
 | false=>
  intro a w ht hi;refine wp_region ?_;have:=h a w ht hi;simpa using this
 | true=>
  obtain⟨L,st',h1,h3,⟨h4,h2⟩ | ⟨z,⟨oz,g1,g2,g4⟩,h5,h6⟩⟩:=h
  ·exact a9h L h1 h2 h3 h4
  ·intro a w ht hi;refine aci L h1 h5 g1 g2 (fun e=>?_) ht hi fun a w h7 h8=>?_
   ·rw[be];exact⟨h3,h6⟩
   ·rw[← h1.keepT] at h7;exact g4 a w h7 h8
theorem vr :∀(L:List Itm) {ks:List Nat} {st st':St} {a:Act} {w:World},RunL C tys ops.toArray L st st'→em st tys→Inv C st a w→(∀a w,em st' tys→Inv C st' a w→wpOps C.P ops.toArray (QQ C Q) ks a w)→wpOps C.P ops.toArray (QQ C Q) (L.map (·.k)++ks) a w
 | [],ks,st,st',a,w,h,ht,hi,hq=>by
  rw[RunL] at h;subst h;exact hq a w ht hi
 | x::L,ks,st,st',a,w,h,ht,hi,hq=>by
  rw[RunL] at h;obtain⟨o,ho,hw,h1,h2,hd,_,h3⟩:=h;simp only[List.map_cons,zY,wpOps,ho,gm hi hw];cases hb:x.b with
  | true=>
   obtain⟨h4,h5⟩:=h1 hb;simp only[if_true];refine .inl (fy (h5 st (fun _ _=>rfl) (fun _ _=>rfl) ht a w hi) fun v w' hv=>?_);exact vr L h3 (jq ht fun i r e=>(h4 i r e).2) hv hq
  | false=>
   have:=h2 hb;rw[this] at h3;simp only[Bool.false_eq_true,if_false];exact vr L h3 (jq ht fun i r e=>by cases e) (r4 hi hd) hq
theorem rh:∀{ks ks':List Nat} {st st1:St} {L:List Itm},l6 tab C.N C.Z ops ks st=some (L,ks',st1)→st1.tys=st.tys
 | [],ks',st,st1,L,h=>by
  rw[l6] at h;injection h with h;injection h with h1 h2;injection h2 with h2 h3;rw[← h3]
 | k::ks,ks',st,st1,L,h=>by
  rw[l6] at h;split at h
  ·split at h
   ·split at h
    ·split at h
     ·rename_i L1 ks1 st2 h2
      injection h with h;injection h with h3 h4;injection h4 with h4 h5;rw[← h5];exact rh (st:=skipE.app _ st) h2
     ·cases h
    ·split at h
     ·rename_i e he
      split at h
      ·rename_i L1 ks1 st2 h2
       injection h with h;injection h with h3 h4;injection h4 with h4 h5;rw[← h5];exact rh (st:=Eff.app _ _ st) h2
      ·cases h
     ·injection h with h;injection h with h3 h4;injection h4 with h4 h5;rw[← h5]
    ·injection h with h;injection h with h3 h4;injection h4 with h4 h5;rw[← h5]
   ·cases h
  ·cases h
theorem a4q :∀{L L':List Itm} {st st1 st':St},RunL C tys ops.toArray L st st1→RunL C tys ops.toArray L' st1 st'→RunL C tys ops.toArray (L++L') st st'
 | [],L',st,st1,st',h,k=>by rw[RunL] at h;subst h;exact k
 | x::L,L',st,st1,st',h,k=>by
  rw[zY];rw[RunL] at h ⊢;obtain⟨o,h1,h2,h3,h4,h5,h6,h7⟩:=h;exact⟨o,h1,h2,h3,h4,h5,h6,a4q h7 k⟩
theorem a37 {ks':List Nat} {st1:St} (h:RunL C st.tys ops.toArray L st st1) (ht1:st1.tys=st.tys) (hk:L.map (·.k)++ks'=ks) (next:Reg C ops draw Q (acc++L) ks' st1):Reg C ops draw Q acc ks st:=by
 subst hk;cases draw with
 | false=>exact fun a w ht hi=>vr L h ht hi fun a w h1 h2=>next a w (by rw[ht1];exact h1) h2
 | true=>
  obtain⟨L',st',h1,h3,h4⟩:=next;rw[ht1] at h1;exact⟨L++L',st',a4q h h1,by rw[← List.append_assoc];exact h3,h4.imp (fun h=>⟨h.1,by rw[zN,h.2]⟩) fun ⟨z,h5,h6,h7⟩=>⟨z,h5,by rw[zN,List.append_assoc,h6],by rw[← List.append_assoc];exact h7⟩⟩
theorem gp (hT:ie C.P tab) {ks':List Nat} {st1:St} (h:l6 tab C.N C.Z ops ks st=some (L,ks',st1)) (next:Reg C ops draw Q (acc++L) ks' st1):Reg C ops draw Q acc ks st:=by
 obtain⟨g1,g2⟩:=ri (L':=[]) (st':=st1) hT h rfl (by rw[RunL]);rw[List.append_nil] at g1;exact a37 g1 (rh h) g2 next
theorem ahu {k:Nat} {o:Oper} {x:Itm} (hx:x.k=k) (ho:nthL ops k=some o) (hr:RunL C st.tys ops.toArray [x] st (x.e.app o.dst st)) (next:Reg C ops draw Q (acc++[x]) ks (x.e.app o.dst st)):Reg C ops draw Q acc (k::ks) st:=
 a37 hr rfl (by rw[← hx];rfl) next
theorem dh {k:Nat} {dst:Option Nat} {op:Op} {ty:TypeId} {ps:String} {af:Array Edge} {gd:Option (Nat×Bool)} {e:Eff} (ho:nthL ops k=some ⟨dst,op,ty,ps,af,gd⟩) (hw:co ops.toArray ⟨dst,op,ty,ps,af,gd⟩ st=some true) (hd:dstB ⟨dst,op,ty,ps,af,gd⟩ C.N C.Z=true) (h:(∀d,dst=some d→C.dk d)→OpE C st.tys ⟨dst,op,ty,ps,af,gd⟩ st e) (next:Reg C ops draw Q (acc++[⟨k,true,e,lkOf ops k st (e)⟩]) ks (e.app dst st)):Reg C ops draw Q acc (k::ks) st:=by
 refine ahu (x:=⟨k,true,e,lkOf ops k st (e)⟩) rfl ho ?_ next;rw[RunL];exact⟨_,nf ho,hw,fun _=>h (mx hd),fun e=>(by cases e),mx hd,(fun l hl=>by
  unfold lkOf at hl;simp only[ho] at hl;exact (a0l hl).cov fun _=>h (mx hd)),by rw[RunL]⟩
theorem zb (hc:(!draw||(js ops.toArray (bq ops.toArray)&&jt (bq ops.toArray) acc))=true) (q:Q .normal st):Reg C ops draw Q acc [] st:=by
 cases draw with
 | false=>exact fun a w ht hi=>⟨st,q,ht,hi⟩
 | true=>exact⟨[],st,rfl,by rw[List.append_nil];exact hc,.inl ⟨q,rfl⟩⟩
theorem zd {z:Nat} (hc:(!draw||(js ops.toArray (bq ops.toArray)&&jt (bq ops.toArray) acc))=true) (hl:(!draw||a7i (bq ops.toArray) z acc)=true) (h:ao2 C ops z Q st):Reg C ops draw Q acc [z] st:=by
 cases draw with
 | true=>exact⟨[],st,rfl,by rw[List.append_nil];exact hc,.inr ⟨z,h,rfl,by rw[List.append_nil];exact hl⟩⟩
 | false=>
  obtain⟨oz,g1,g2,g3⟩:=h;intro a w ht hi;simp only[wpOps,g1,gm hi g2,if_true];exact .inl (fy (g3 a w ht hi) fun v w' hv=>hv)
theorem ahv {z:Nat} {st2:St} {oz:Oper} (g1:nthL ops z=some oz) (g2:co ops.toArray oz st=some true) (h:∀a w,em st st.tys→Inv C st a w→dj C.P oz a w fun v w'=>em st2 st2.tys∧Inv C st2 (a.put oz.dst v) w') (next:Reg C ops false Q [] ks st2):Reg C ops false Q acc (z::ks) st:=by
 intro a w ht hi;simp only[wpOps,nf g1,gm hi g2,if_true];exact .inl (fy (h a w ht hi) fun v w' hv=>next _ _ hv.1 hv.2)
theorem a9i (hT:ie C.P tab) {id:Nat} {l:List Oper} {st':St} (h:l6 tab C.N C.Z l (List.range l.length) st=some (L,[],st')) (hc:(!draw||(js l.toArray (bq l.toArray)&&jt (bq l.toArray) L))=true) (q:Q .normal st'):PW C (.region id l.toArray draw) st Q:=
 a1h (gp hT h (zb hc q))
end
def pvL:List SV→Option (List PV)
 | []=>some []
 | .pv p::cs=>match pvL cs with
  | some ps=>some (p::ps)
  | none=>none
 | _::_=>none
theorem agp:∀{cs:List SV} {ps:List PV},pvL cs=some ps→cs=ps.map .pv
 | [],ps,h=>by rw[pvL] at h;injection h with h;subst h;rfl
 | c::cs,ps,h=>by
  cases c with
  | pv p=>
   rw[pvL] at h;split at h
   ·rename_i qs hq
    injection h with h;subst h;rw[List.map_cons,← agp hq]
   ·cases h
  | _=>cases h
mutual
def coSV (st:St):SV→Option PV
 | .pv p=>some p
 | .agg cs=>match lz st cs with
  | some ps=>some (.agg ps)
  | none=>none
 | .tok i=>match st.res i with
  | some (.tok e k ts xs)=>some (.rows e k ts xs)
  | _=>none
 | .nil e k ts=>some (.rows e k ts [])
 | .emp=>some (.raw (.slice none 0 0))
 | .ref e cs=>some (.ptr e cs)
 | .box i off=>match st.res i with
  | some (.box ty cells)=>(match Nat.blt off 1000000&&Nat.blt ty 1000000 with
   | true=>(match pvL (cells.drop off) with
    | some ps=>some (.ptr ty ps)
    | none=>none)
   | false=>none)
  | _=>none
 | .fn f cs=>match lz st cs with
  | some ps=>some (.fn f ps)
  | none=>none
 | _=>none
def lz (st:St):List SV→Option (List PV)
 | []=>some []
 | c::cs=>match coSV st c,lz st cs with
  | some p,some ps=>some (p::ps)
  | _,_=>none
end
mutual
theorem io {st:St}:∀{s:SV} {p:PV},coSV st s=some p→Co st s p
 | .pv p,_,h=>by rw[coSV] at h;injection h with h;subst h;exact .pv _
 | .agg cs,_,h=>by
  rw[coSV] at h;split at h
  ·rename_i ps hp
   injection h with h;subst h;exact .agg (i8 hp)
  ·cases h
 | .tok i,_,h=>by
  rw[coSV] at h;split at h
  ·rename_i e k ts xs hr
   injection h with h;subst h;exact .tok hr
  ·cases h
 | .any,_,h=>by cases h
 | .emp,_,h=>by rw[coSV] at h;injection h with h;subst h;exact .emp0
 | .nil e k ts,_,h=>by rw[coSV] at h;injection h with h;subst h;exact .nil e k ts
 | .box i off,_,h=>by
  rw[coSV] at h;split at h
  ·rename_i ty cells hr
   split at h
   ·rename_i hb
    rw[be] at hb;split at h
    ·rename_i ps hp
     injection h with h;subst h;exact .box hr (agp hp) hb.1 hb.2
    ·cases h
   ·cases h
  ·cases h
 | .ref e cs,_,h=>by rw[coSV] at h;injection h with h;subst h;exact .ref e cs
 | .fn f cs,_,h=>by
  rw[coSV] at h;split at h
  ·rename_i ps hp
   injection h with h;subst h;exact .fn (i8 hp)
  ·cases h
 | .tup _,_,h=>by cases h
 | .elt _ _,_,h=>by cases h
theorem i8 {st:St}:∀{cs:List SV} {ps:List PV},lz st cs=some ps→CoL st cs ps
 | [],_,h=>by rw[lz] at h;injection h with h;subst h;exact .nil
 | c::cs,_,h=>by
  rw[lz] at h;split at h
  ·rename_i p ps h1 h2
   injection h with h;subst h;exact .cons (io h1) (i8 h2)
  ·cases h
end
def retV (tab:Tab) (st:St):ResultVar→Option PV
 | .tmp t=>match st.slot t with
  | some s=>coSV st s
  | none=>none
 | .cell t ty=>match st.slot t,tab.get ty with
  | some (.box id 0),some l=>(match bxo st id 0 with
   | some (_,cs)=>(match l.agg with
    | true=>bif Nat.beq cs.length l.zero.length then (match lz st cs with
     | some ps=>some (.agg ps)
     | none=>none) else none
    | false=>(match cs with
     | [c]=>coSV st c
     | _=>none))
   | none=>none)
  | _,_=>none
def retL (tab:Tab) (st:St):List ResultVar→Option (List PV)
 | []=>some []
 | r::rs=>match retV tab st r,retL tab st rs with
  | some p,some ps=>some (p::ps)
  | _,_=>none
def retE (tab:Tab) (st:St) (rs:List ResultVar):Option PV:=match rs with
 | [r]=>retV tab st r
 | rs=>match retL tab st rs with
  | some ps=>some (.tup ps)
  | none=>none
section
variable {P:Program} {tab:Tab} {st:St}
theorem a8p {r:ResultVar} {p:PV} (h:retV tab st r=some p):resV P tab st r p:=by
 unfold retV at h;split at h
 ·rename_i t
  split at h
  ·rename_i s hs
   exact⟨s,hs,io h⟩
  ·cases h
 ·rename_i t ty
  split at h
  ·rename_i id l h1 h2
   split at h
   ·rename_i tz cs h3
    refine⟨id,tz,cs,l,h1,h3,h2,?_⟩;split at h
    ·rename_i hag
     (try rw[hag])
     cases hb:Nat.beq cs.length l.zero.length with
     | false=>rw[hb] at h;cases h
     | true=>
      rw[hb] at h;simp only[cond_true] at h;split at h
      ·rename_i ps hp
       injection h with h;exact⟨zF hb,ps,h.symm,i8 hp⟩
      ·cases h
    ·rename_i hag
     (try rw[hag])
     split at h
     ·rename_i c
      exact⟨c,rfl,io h⟩
     ·cases h
   ·cases h
  ·cases h
theorem a8q:∀{rs:List ResultVar} {ps:List PV},retL tab st rs=some ps→resL P tab st rs ps
 | [],ps,h=>by rw[retL] at h;injection h with h;rw[resL];exact h.symm
 | r::rs,ps,h=>by
  rw[retL] at h;split at h
  ·rename_i p ps' h1 h2
   injection h with h;subst h;rw[resL];exact⟨p,ps',rfl,a8p h1,a8q h2⟩
  ·cases h
theorem a8n {fn:Func} {p res:PV} (h:retE tab st fn.results.toList=some p) (e:p=res):a2x P tab fn st res:=by
 subst e;unfold a2x;unfold retE at h;have many:∀rs:List ResultVar,(match retL tab st rs with
  | some ps=>some (PV.tup ps)
  | none=>none)=some p→∃ps,p=.tup ps∧resL P tab st rs ps:=fun rs h=>by
  split at h
  ·rename_i ps hp
   injection h with h;exact⟨ps,h.symm,a8q hp⟩
  ·cases h
 generalize fn.results.toList=rs at h ⊢
 match rs,h with
 | [],h=>exact many [] h
 | [r],h=>exact a8p h
 | r::r2::rs,h=>exact many (r::r2::rs) h
end
section
variable {C:Cx} {o:Oper} {st:St} {res:PV}
theorem aai {c:Call} {f:FuncId} {ss:List SV} {ps:List PV} {Tg:List Nat} (hp:PCalls C.P Tg f ps res) (ho:o.op=.call c) (hc:c.callee=.value (.func f)) (ha:evL st c.args.toList=some ss) (hco:lz st ss=some ps) (hT:Tg.all (fun t=>C.T.contains t)=true) (hty:Tg.all (fun t=>!st.tys.contains t)=true) (hl:ta st (SV.idsL ss) res.ty=true) (hd:∀d,o.dst=some d→C.dk d):
  OpE C st.tys o st (valE (.pv res) (SV.idsL ss)):=aep ho hc ha (i8 hco) hp hT hty hl hd
theorem a4y {ops:List Oper} {Q:Exit→St→Prop} {draw:Bool} {acc:List Itm} {k:Nat} {ks:List Nat} {c:Call} {f:FuncId} {ss:List SV} {ps:List PV} {Tg:List Nat} {dst:Option Nat} {ty:TypeId} {pos:String} {af:Array Edge} {gd:Option (Nat×Bool)} (hp:PCalls C.P Tg f ps res) (hk:nthL ops k=some ⟨dst,.call c,ty,pos,af,gd⟩) (hw:co ops.toArray ⟨dst,.call c,ty,pos,af,gd⟩ st=some true) (hd:dstB ⟨dst,.call c,ty,pos,af,gd⟩ C.N C.Z=true) (hc:c.callee=.value (.func f)) (ha:evL st c.args.toList=some ss) (hco:lz st ss=some ps) (hT:(Tg.all (fun t=>C.T.contains t)&&(Tg.all (fun t=>!st.tys.contains t)&&ta st (SV.idsL ss) res.ty))=true) (next:Reg C ops draw Q (acc++[⟨k,true,valE (.pv res) (SV.idsL ss),lkOf ops k st (valE (.pv res) (SV.idsL ss))⟩]) ks ((valE (.pv res) (SV.idsL ss)).app dst st)):Reg C ops draw Q acc (k::ks) st:=by
 simp only[be] at hT;exact dh hk hw hd (fun hd=>aai hp rfl hc ha hco hT.1 hT.2.1 hT.2.2 hd) next
theorem xm {P:Program} {tab:Tab} {fn:Func} {p:PV} (h:retE tab st fn.results.toList=some p) (e:p=res):RetQ P tab fn res .ret st:=a8n h e
end
def tab:Tab:=[
 (3,⟨false,[.raw (.int .i64 0)],[],0,0,[]⟩),
 (4,⟨false,[.raw (.bool false)],[],0,0,[]⟩),
 (33,⟨false,[.nat],[],200,1,[]⟩),
 (5,⟨false,[.raw (.int .u8 0)],[],0,0,[]⟩),
 (22,⟨false,[.rows 5 1 []],[],5,1,[]⟩),
 (71,⟨false,[.rows 3 1 []],[],3,1,[]⟩),
 (270,⟨false,[.raw .nilFunc],[],0,0,[]⟩),
 (320,⟨true,[.raw .nilFunc,.raw .nilFunc,.raw .nilFunc,.raw .nilFunc,.raw .nilFunc,.raw .nilFunc,.raw .nilFunc,.raw .nilFunc,.raw .nilFunc,.raw .nilFunc,.raw .nilFunc,.raw .nilFunc,.raw .nilFunc,.raw .nilFunc],[],0,0,[]⟩),
 (145,⟨false,[.raw .nilFunc],[],0,0,[]⟩),
 (152,⟨false,[.rows 4 1 []],[],4,1,[]⟩),
 (222,⟨false,[.rows 40 1 [100,200,98]],[],40,1,[100,200,98]⟩),
 (225,⟨false,[.rows 75 1 [42,200]],[],75,1,[42,200]⟩),
 (31,⟨false,[.rows 138 4 [200]],[],138,4,[200]⟩),
 (25,⟨false,[.rows 37 4 [138,200]],[],37,4,[138,200]⟩),
 (28,⟨false,[.rows 35 3 [200]],[],35,3,[200]⟩),
 (44,⟨false,[.rows 98 7 [200]],[],98,7,[200]⟩),
 (40,⟨false,[.rows 100 6 [200,98]],[],100,6,[200,98]⟩),
 (75,⟨false,[.rows 42 5 [200]],[],42,5,[200]⟩),
 (43,⟨false,[.rows 46 9 [100,98,200,46]],[],46,9,[100,98,200,46]⟩),
 (51,⟨false,[.rows 77 10 [42,100,98,200,46]],[],77,10,[42,100,98,200,46]⟩),
 (35,⟨true,[.raw (.bool false),.nat,.nat],[(0,1,false),(1,1,false),(2,1,false)],0,0,[]⟩),
 (138,⟨true,[.raw (.int .i64 0),.raw (.bool false),.nat,.nat],[(0,1,false),(1,3,true)],0,0,[]⟩),
 (37,⟨true,[.rows 138 4 [200],.raw (.bool false),.nat,.nat],[(0,1,false),(1,3,true)],0,0,[]⟩),
 (27,⟨true,[.raw (.int .i64 0),.rows 37 4 [138,200],.rows 37 4 [138,200]],[(0,1,false),(1,1,false),(2,1,false)],0,0,[]⟩),
 (30,⟨true,[.rows 35 3 [200],.rows 35 3 [200],.rows 37 4 [138,200]],[(0,1,false),(1,1,false),(2,1,false)],0,0,[]⟩),
 (39,⟨true,[.raw (.int .i64 0),.rows 37 4 [138,200],.rows 37 4 [138,200],.rows 35 3 [200],.rows 35 3 [200],.rows 37 4 [138,200],.rows 138 4 [200],.raw (.bool false),.nat,.nat],[(0,3,true),(3,3,true),(6,4,true)],0,0,[]⟩),
 (96,⟨true,[.raw (.int .i64 0),.raw (.int .i64 0),.raw (.int .i64 0),.raw (.int .i64 0)],[(0,1,false),(1,1,false),(2,1,false),(3,1,false)],0,0,[]⟩),
 (98,⟨true,[.raw (.int .i64 0),.raw (.int .i64 0),.raw (.int .i64 0),.raw (.int .i64 0),.raw (.bool false),.nat,.nat],[(0,4,true),(4,3,true)],0,0,[]⟩),
 (100,⟨true,[.raw (.int .i64 0),.raw (.bool false),.raw (.bool false),.nat,.nat,.rows 98 7 [200]],[(0,1,false),(1,1,false),(2,3,true),(5,1,false)],0,0,[]⟩),
 (42,⟨true,[.raw (.int .i64 0),.raw (.int .i64 0),.raw (.bool false),.nat,.nat],[(0,1,false),(1,1,false),(2,3,true)],0,0,[]⟩),
 (85,⟨true,[.raw (.int .i64 0),.rows 37 4 [138,200],.rows 37 4 [138,200],.rows 35 3 [200],.rows 35 3 [200],.rows 37 4 [138,200],.rows 138 4 [200],.raw (.bool false),.nat,.nat,.rows 42 5 [200],.rows 100 6 [200,98]],[(0,10,true),(10,1,false),(11,1,false)],0,0,[]⟩),
 (46,⟨true,[.rows 100 6 [200,98],.raw (.int .i64 0),.raw (.int .i64 0),.raw (.bool false),.nat,.nat,.rows 46 9 [100,98,200,46],.raw (.bool false),.rows 98 7 [200]],[(0,1,false),(1,5,true),(6,1,false),(7,1,false),(8,1,false)],0,0,[]⟩),
 (77,⟨true,[.rows 42 5 [200],.rows 100 6 [200,98],.raw (.int .i64 0),.raw (.int .i64 0),.raw (.bool false),.nat,.nat,.rows 46 9 [100,98,200,46],.raw (.bool false),.rows 98 7 [200]],[(0,1,false),(1,9,true)],0,0,[]⟩),
 (154,⟨true,[.rows 100 6 [200,98],.rows 4 1 []],[(0,1,false),(1,1,false)],0,0,[]⟩),
 (58,⟨true,[.raw (.int .i64 0),.raw (.int .i64 0),.raw (.bool false),.raw (.bool false),.raw (.int .i64 0),.raw (.int .i64 0),.raw (.int .i64 0)],[(0,1,false),(1,1,false),(2,1,false),(3,1,false),(4,1,false),(5,1,false),(6,1,false)],0,0,[]⟩),
 (61,⟨true,[.raw (.int .i64 0),.rows 100 6 [200,98],.raw (.int .i64 0),.raw (.int .i64 0),.raw (.bool false),.nat,.nat,.rows 46 9 [100,98,200,46],.raw (.bool false),.rows 98 7 [200],.rows 35 3 [200],.raw (.int .i64 0)],[(0,1,false),(1,9,true),(10,1,false),(11,1,false)],0,0,[]⟩),
 (135,⟨true,[.rows 5 1 [],.raw (.int .i64 0)],[(0,1,false),(1,1,false)],0,0,[]⟩),
 (367,⟨true,[.raw (.int .i64 0),.rows 37 4 [138,200],.rows 37 4 [138,200],.rows 35 3 [200],.rows 35 3 [200],.rows 37 4 [138,200],.rows 138 4 [200],.raw (.bool false),.nat,.nat,.rows 42 5 [200],.rows 100 6 [200,98],.raw (.int .i64 0),.raw (.int .i64 0),.raw (.int .i64 0),.raw (.int .i64 0),.rows 138 4 [200],.raw (.bool false),.nat,.nat,.rows 138 4 [200],.raw (.bool false),.nat,.nat,.raw (.bool false),.nat,.nat,.raw (.bool false),.nat,.nat,.raw (.bool false),.raw (.bool false)],[(0,12,true),(12,4,true),(16,4,true),(20,4,true),(24,3,true),(27,3,true),(30,1,false),(31,1,false)],0,0,[]⟩),
 (177,⟨false,[.raw (.pointer none)],[],0,0,[]⟩),
 (173,⟨false,[.raw (.pointer none)],[],0,0,[]⟩),
 (249,⟨false,[.raw (.pointer none)],[],0,0,[]⟩),
 (170,⟨false,[.raw (.pointer none)],[],0,0,[]⟩),
 (242,⟨false,[.raw (.map none)],[],0,0,[]⟩),
 (243,⟨false,[.raw (.map none)],[],0,0,[]⟩),
 (244,⟨false,[.raw (.map none)],[],0,0,[]⟩),
 (368,⟨false,[.raw (.map none)],[],0,0,[]⟩),
 (176,⟨false,[.raw .nilIface],[],0,0,[]⟩),
 (239,⟨false,[.rows 177 1 [241,100,98,200,46,177]],[],177,1,[241,100,98,200,46,177]⟩),
 (241,⟨true,[.rows 100 6 [200,98],.raw (.int .i64 0),.raw (.int .i64 0),.raw (.bool false),.nat,.nat,.rows 46 9 [100,98,200,46],.raw (.bool false),.rows 98 7 [200],.rows 177 1 [241,100,98,200,46,177]],[(0,9,true),(9,1,false)],0,0,[]⟩),
 (297,⟨true,[.raw (.int .i64 0),.rows 37 4 [138,200],.rows 37 4 [138,200],.rows 35 3 [200],.rows 35 3 [200],.rows 37 4 [138,200],.rows 138 4 [200],.raw (.bool false),.nat,.nat,.rows 42 5 [200],.rows 100 6 [200,98],.raw (.pointer none)],[(0,12,true),(12,1,false)],0,0,[]⟩),
 (246,⟨true,[.raw (.int .i64 0),.rows 37 4 [138,200],.rows 37 4 [138,200],.rows 35 3 [200],.rows 35 3 [200],.rows 37 4 [138,200],.rows 138 4 [200],.raw (.bool false),.nat,.nat,.raw (.map none),.raw (.map none),.raw (.map none)],[(0,10,true),(10,1,false),(11,1,false),(12,1,false)],0,0,[]⟩),
 (190,⟨true,[.raw (.int .i64 0),.rows 37 4 [138,200],.rows 37 4 [138,200],.rows 35 3 [200],.rows 35 3 [200],.rows 37 4 [138,200],.rows 138 4 [200],.raw (.bool false),.nat,.nat,.raw (.int .i64 0),.raw (.int .i64 0),.raw (.bool false),.raw (.bool false),.raw (.int .i64 0),.raw (.int .i64 0),.raw (.int .i64 0),.raw .nilIface,.raw (.pointer none),.raw (.slice none 0 0),.raw (.pointer none),.raw (.int .i64 0),.raw (.int .i64 0),.raw (.int .i64 0),.raw (.pointer none)],[(0,10,true),(10,7,true),(17,1,false),(18,1,false),(19,1,false),(20,1,false),(21,1,true),(22,1,true),(23,1,true),(24,1,true)],0,0,[]⟩),
 (322,⟨true,[.raw (.int .i64 0),.raw (.bool false)],[(0,1,false),(1,1,false)],0,0,[]⟩),
 (113,⟨true,[.rows 42 5 [200],.rows 100 6 [200,98],.raw (.int .i64 0),.raw (.int .i64 0),.raw (.bool false),.nat,.nat,.rows 46 9 [100,98,200,46],.raw (.bool false),.rows 98 7 [200]],[(0,1,false),(1,9,true)],0,0,[]⟩),
 (110,⟨false,[.rows 113 10 [42,100,98,200,46]],[],113,10,[42,100,98,200,46]⟩)]
set_option maxRecDepth 100000 in
theorem ah:ie Tryz.prog tab:=by
 intro p hp;simp only[tab,zP,List.not_mem_nil,or_false] at hp;rcases hp with rfl | rfl | rfl | rfl | rfl | rfl | rfl | rfl | rfl | rfl | rfl | rfl | rfl | rfl | rfl | rfl | rfl | rfl | rfl | rfl | rfl | rfl | rfl | rfl | rfl | rfl | rfl | rfl | rfl | rfl | rfl | rfl | rfl | rfl | rfl | rfl | rfl | rfl | rfl | rfl | rfl | rfl | rfl | rfl | rfl | rfl | rfl | rfl | rfl | rfl | rfl | rfl | rfl | rfl | rfl<;>exact LayOk.of (by kernel_rfl) (by kernel_rfl) (by kernel_rfl) (by kernel_rfl) (by kernel_rfl) (by kernel_rfl) (by kernel_rfl)
theorem a1z:(Tryz.prog).follows .mixedOrders=true:=by kernel_rfl
section
variable {T:List Nat} {Z:Nat} {D:Dom Tryz.prog T Z} {N:Nat} {st:St} {Q:Exit→St→Prop} {ops:List Oper} {draw:Bool} {acc:List Itm} {id:Nat} {y c x:Code} {L:List Itm} {ks ks':List Nat} {st1:St}
abbrev W (D:Dom Tryz.prog T Z) (N:Nat) (c:Code) (st:St) (Q:Exit→St→Prop):Prop:=PW (D.cx N) c st Q
theorem pa {st':St} (h:l6 tab N Z ops (List.range ops.length) st=some (L,[],st')) (hc:(!draw||(js ops.toArray (bq ops.toArray)&&jt (bq ops.toArray) L))=true) (q:W D N y st' Q):W D N (.seq (.region id ops.toArray draw) y) st Q:=y5 (a9i (C:=D.cx N) ah h hc q)
theorem pr (h:l6 tab N Z ops (List.range ops.length) st=some (L,ks,st1)) (next:Reg (D.cx N) ops draw (Then (fun st'=>W D N y st' Q) Q) L ks st1):W D N (.seq (.region id ops.toArray draw) y) st Q:=y5 (a1h (gp (C:=D.cx N) ah h next))
theorem rn (hc:(!draw||(js ops.toArray (bq ops.toArray)&&jt (bq ops.toArray) acc))=true) (q:Q .normal st):Reg (D.cx N) ops draw Q acc [] st:=zb hc q
theorem ro {k:Nat} {dst:Option Nat} {op:Op} {ty:TypeId} {ps:String} {af:Array Edge} {gd:Option (Nat×Bool)} {e:Eff} (ho:nthL ops k=some ⟨dst,op,ty,ps,af,gd⟩) (hw:co ops.toArray ⟨dst,op,ty,ps,af,gd⟩ st=some true) (hd:dstB ⟨dst,op,ty,ps,af,gd⟩ N Z=true) (h:(∀d,dst=some d→d < N∧Z≤d)→OpE (D.cx N) st.tys ⟨dst,op,ty,ps,af,gd⟩ st e) (ha:l6 tab N Z ops ks (e.app dst st)=some (L,ks',st1)) (next:Reg (D.cx N) ops draw Q (acc++[⟨k,true,e,lkOf ops k st (e)⟩]++L) ks' st1):Reg (D.cx N) ops draw Q acc (k::ks) st:=dh ho hw hd h (gp (C:=D.cx N) ah ha next)
theorem rc {k:Nat} {c:Call} {f:FuncId} {ss:List SV} {ps:List PV} {res:PV} {Tg:List Nat} {dst:Option Nat} {ty:TypeId} {pos:String} {af:Array Edge} {gd:Option (Nat×Bool)} (hp:PCalls Tryz.prog Tg f ps res) (hk:nthL ops k=some ⟨dst,.call c,ty,pos,af,gd⟩) (hw:co ops.toArray ⟨dst,.call c,ty,pos,af,gd⟩ st=some true) (hd:dstB ⟨dst,.call c,ty,pos,af,gd⟩ N Z=true) (hc:c.callee=.value (.func f)) (ha:evL st c.args.toList=some ss) (hco:lz st ss=some ps) (hT:(Tg.all (fun t=>T.contains t)&&(Tg.all (fun t=>!st.tys.contains t)&&ta st (SV.idsL ss) res.ty))=true) (hx:l6 tab N Z ops ks ((valE (.pv res) (SV.idsL ss)).app dst st)=some (L,ks',st1)) (next:Reg (D.cx N) ops draw Q (acc++[⟨k,true,valE (.pv res) (SV.idsL ss),lkOf ops k st (valE (.pv res) (SV.idsL ss))⟩]++L) ks' st1):Reg (D.cx N) ops draw Q acc (k::ks) st:=a4y (C:=D.cx N) hp hk hw hd hc ha hco hT (gp (C:=D.cx N) ah hx next)
theorem rg (ha:l6 tab N Z ops ks st=some (L,ks',st1)) (next:Reg (D.cx N) ops draw Q (acc++L) ks' st1):Reg (D.cx N) ops draw Q acc ks st:=gp (C:=D.cx N) ah ha next
theorem pl {ι:Type} (sl:ι→List (Nat×SV)) (rs:ι→List (Nat×Res)) (tys:List Nat) (μ:ι→Nat) (i0:ι) (h1:AllL st.slot (sl i0)) (h2:AllL st.res (rs i0)) (h3:∀i,ofB (sl i) (rs i) tys=true) (round:∀i,W D N c (St.of (sl i) (rs i) tys) (Then (fun st'=>∃j,Sub (St.of (sl j) (rs j) tys) st'∧μ j < μ i) Q)):W D N (.loop c) st Q:=
 aic (fun i=>St.of (sl i) (rs i) tys) μ i0 (Sub.of h1 h2 (h3 i0)) round
theorem pe {ι:Type} {sl:ι→List (Nat×SV)} {rs:ι→List (Nat×Res)} {tys:List Nat} {μ:ι→Nat} {i:ι} (j:ι) (h1:AllL st.slot (sl j)) (h2:AllL st.res (rs j)) (h3:ofB (sl j) (rs j) tys=true) (h4:μ j < μ i):∃j,Sub (St.of (sl j) (rs j) tys) st∧μ j < μ i:=⟨j,Sub.of h1 h2 h3,h4⟩
theorem ps (h:W D N x st (Then (fun st'=>W D N y st' Q) Q)):W D N (.seq x y) st Q:=y5 h
theorem pif {c:Operand} {b:Bool} (hc:ev st c=some (.pv (.raw (.bool b)))) (ht:b=true→W D N x st Q) (hf:b=false→W D N y st Q):W D N (.cond c x y) st Q:=aie hc ht hf
theorem pj {c:Operand} (hc:ev st c=some (.pv (.raw (.bool false)))) (h:W D N y st Q):W D N (.cond c x y) st Q:=pif hc (fun e=>by cases e) (fun _=>h)
theorem pi {c:Operand} (hc:ev st c=some (.pv (.raw (.bool true)))) (h:W D N x st Q):W D N (.cond c x y) st Q:=pif hc (fun _=>h) (fun e=>by cases e)
theorem c2 {p0 p1 p2:Prop} (h0:p0) (h1:p1) (h2:p2):p0∧p1∧p2:=⟨h0,h1,h2⟩
theorem c3 {p0 p1 p2 p3:Prop} (h0:p0) (h1:p1) (h2:p2) (h3:p3):p0∧p1∧p2∧p3:=⟨h0,h1,h2,h3⟩
theorem c4 {p0 p1 p2 p3 p4:Prop} (h0:p0) (h1:p1) (h2:p2) (h3:p3) (h4:p4):p0∧p1∧p2∧p3∧p4:=⟨h0,h1,h2,h3,h4⟩
theorem c5 {p0 p1 p2 p3 p4 p5:Prop} (h0:p0) (h1:p1) (h2:p2) (h3:p3) (h4:p4) (h5:p5):p0∧p1∧p2∧p3∧p4∧p5:=⟨h0,h1,h2,h3,h4,h5⟩
theorem c6 {p0 p1 p2 p3 p4 p5 p6:Prop} (h0:p0) (h1:p1) (h2:p2) (h3:p3) (h4:p4) (h5:p5) (h6:p6):p0∧p1∧p2∧p3∧p4∧p5∧p6:=⟨h0,h1,h2,h3,h4,h5,h6⟩
theorem c7 {p0 p1 p2 p3 p4 p5 p6 p7:Prop} (h0:p0) (h1:p1) (h2:p2) (h3:p3) (h4:p4) (h5:p5) (h6:p6) (h7:p7):p0∧p1∧p2∧p3∧p4∧p5∧p6∧p7:=⟨h0,h1,h2,h3,h4,h5,h6,h7⟩
theorem c8 {p0 p1 p2 p3 p4 p5 p6 p7 p8:Prop} (h0:p0) (h1:p1) (h2:p2) (h3:p3) (h4:p4) (h5:p5) (h6:p6) (h7:p7) (h8:p8):p0∧p1∧p2∧p3∧p4∧p5∧p6∧p7∧p8:=⟨h0,h1,h2,h3,h4,h5,h6,h7,h8⟩
theorem c9 {p0 p1 p2 p3 p4 p5 p6 p7 p8 p9:Prop} (h0:p0) (h1:p1) (h2:p2) (h3:p3) (h4:p4) (h5:p5) (h6:p6) (h7:p7) (h8:p8) (h9:p9):p0∧p1∧p2∧p3∧p4∧p5∧p6∧p7∧p8∧p9:=⟨h0,h1,h2,h3,h4,h5,h6,h7,h8,h9⟩
theorem c12 {p0 p1 p2 p3 p4 p5 p6 p7 p8 p9 p10 p11 p12:Prop} (h0:p0) (h1:p1) (h2:p2) (h3:p3) (h4:p4) (h5:p5) (h6:p6) (h7:p7) (h8:p8) (h9:p9) (h10:p10) (h11:p11) (h12:p12):p0∧p1∧p2∧p3∧p4∧p5∧p6∧p7∧p8∧p9∧p10∧p11∧p12:=⟨h0,h1,h2,h3,h4,h5,h6,h7,h8,h9,h10,h11,h12⟩
theorem pb (h:W D N c st (akv id Q)):W D N (.block id c) st Q:=adr h
theorem pk (h:Q .normal st):W D N .skip st Q:=aib h
theorem px (h:Q (.exit id) st):W D N (.exit id) st Q:=aid h
theorem pt (h:Q .ret st):W D N .ret st Q:=a9g h
theorem pc {f:FuncId} {args:List PV} {res:PV} {fn:Func} (tys:List Nat) (hcall:fv Tryz.prog f=true) (hf:(Tryz.prog).funcs[f]?=some fn) (hb:fn.body=some c) (hn:Nat.ble args.length fn.ntmps=true) (h:∀D:Dom Tryz.prog T 0,W D fn.ntmps c (St.init args tys) (RetQ Tryz.prog tab fn res)):PCalls Tryz.prog T f args res:=PCalls.of tys ah a1z hcall hf hb hn h
end
end Go.Proofs.YtbhbainhmfjpdaaGreatDoor
