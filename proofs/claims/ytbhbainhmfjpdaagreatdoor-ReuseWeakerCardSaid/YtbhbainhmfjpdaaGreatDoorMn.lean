/- Walks of the search and of what it calls, part 14. -/
import Derived.Test.YtbhbainhmfjpdaaGreatDoorMm
import Derived.OpenShut
set_option linter.unusedVariables false
set_option linter.unusedSimpArgs false
set_option maxRecDepth 100000
set_option maxHeartbeats 8000000
namespace Go.Proofs.YtbhbainhmfjpdaaGreatDoor
open Go.RowKit
def St.initM (args:List SV) (rs:List (Nat×Res)) (tys:List Nat):St:=⟨fun t=>args[t]?,lookL rs,tys⟩
def RetM (P:Program) (tab:Tab) (fn:Func) (res:PV) (rs':List (Nat×Res)):Exit→St→Prop
 | .ret,st | .normal,st=>RetOk P tab fn st res∧AllL st.res rs'
 | _,_=>False
def mcB (rs rs':List (Nat×Res)) (tys:List Nat) (N:Nat):Bool:=(rs.all fun p=>Nat.ble N p.1&&tys.contains p.2.typ)&&rs'.all fun p=>(lookL rs p.1).isSome&&p.2.ids.all fun i=>(lookL rs' i).isSome
section
variable {P:Program} {tab:Tab}
theorem MCalls.of {T:List Nat} {f:FuncId} {args:List SV} {rs rs':List (Nat×Res)} {res:PV} {fn:Func} {c:Code} (tys:List Nat) (hT:TblOk P tab) (hm:P.follows .mixedOrders=true) (hcall:callB P f=true) (hf:P.funcs[f]?=some fn) (hb:fn.body=some c) (hn:Nat.ble args.length fn.ntmps=true) (hck:mcB rs rs' tys fn.ntmps=true) (h:∀D:Dom P T,LaidG D.w0→¬D.M 0→PW (D.cx fn.ntmps) c (St.initM args rs tys) (RetM P tab fn res rs')):MCalls P T f args rs rs' res:=by
 refine⟨hcall,fun w X B Tk us hX hXT hXL hG hM0 hpre hr hids=>?_⟩;have hn:=Nat.le_of_ble_eq_true hn;simp only[mcB,be,List.all_eq_true] at hck
 let D:Dom P T:=⟨w,X,hX,hm,hXT,LentR rs B Tk,hXL,fun i=>(lookL rs i).isSome=true,B⟩
 have mem:∀{l:List (Nat×Res)} {i:Nat} {r:Res},lookL l i=some r→∃p∈l,p.1=i∧p.2=r:=fun {l}=>by
  induction l with
  | nil=>intro i r e;cases e
  | cons p l ih=>
   intro i r e;obtain⟨j,x⟩:=p;rw[lookL] at e;cases hbq:Nat.beq i j with
   | true=>rw[hbq] at e;injection e with e;exact⟨_,mf ..,(Nat.eq_of_beq_eq_true hbq).symm,e⟩
   | false=>
    rw[hbq] at e;obtain⟨p,h1,h2⟩:=ih e;exact⟨p,List.mem_cons_of_mem _ h1,h2⟩
 refine calls_of_wp hf hb ?_;have hlen:=hr.len;have hinv:Inv (D.cx fn.ntmps) (St.initM args rs tys) { tmps:=us.toArray++Array.replicate (fn.ntmps - us.toArray.size) undef,defers:=[] } w:=by
  refine⟨B,Tk,⟨by simp;omega,rfl,⟨Fr.refl _ w,fun i h=>rfl⟩,fun t s e=>?_,fun t s e i hi=>?_,fun i r e=>?_,fun i r e=>hpre.alive i r e,fun i r j q b e1 e2=>hpre.apart i r j q b e1 e2⟩⟩
  ·obtain⟨u,hu,hpr⟩:=hr.at (show args[t]?=some s from e);have hut:(us.toArray++Array.replicate (fn.ntmps - us.toArray.size) undef).getD t undef=u:=by
    have hlt:=(gs hu).1;rw[Array.getD_eq_getD_getElem?,Array.getElem?_append_left (by simpa using hlt)];simp[hu]
   rw[hut];exact hpr
  ·exact hids i (idsL_mem (mg (show args[t]?=some s from e)) hi)
  ·exact (hpre.inn i r e).wide (fun b hb _=>.inr ⟨i,r,e,hb⟩) fun b hb=>hb
 refine Code.wp_mono (fun e a w' hq=>?_) (h D hG hM0 _ w (fun i r e=>by
  obtain⟨p,h1,h2,h3⟩:=mem (show lookL rs i=some r from e);have:=(hck.1 p h1).2;rw[h3] at this;exact List.contains_iff_mem.1 this) hinv)
 obtain⟨st,h1,_,h3⟩:=hq;have fin:RetOk P tab fn st res∧AllL st.res rs'→∃v,(results fn a.tmps).run P w'=.ok v w'∧a.defers=[]∧∃T',res.Rep w' X v∧MPre w' X B T' rs'∧Fr (LentR rs B Tk) w w'∧∀b,LentR rs' B T' b→LentR rs B Tk b∨w.heap.size≤b:=fun ⟨h1,h2⟩=>by
  obtain⟨v,g1,g2⟩:=ret_run (C:=D.cx fn.ntmps) hT h3 h1;obtain⟨B',T',hi⟩:=h3;have inrs:∀i,(lookL rs' i).isSome=true→(lookL rs i).isSome=true∧fn.ntmps≤i:=fun i hi=>by
   obtain⟨r,hr⟩:=Option.isSome_iff_exists.1 hi;obtain⟨p,k1,k2,k3⟩:=mem hr;have k4:=(hck.2 p k1).1;obtain⟨q,hq⟩:=Option.isSome_iff_exists.1 k4;obtain⟨p2,k5,k6,k7⟩:=mem hq;rw[← k2];exact⟨k4,by rw[← k6];exact Nat.le_of_ble_eq_true (hck.1 p2 k5).1⟩
  have fixB:∀i,(lookL rs' i).isSome=true→B i=B' i:=fun i hi2=>(hi.gr.fix i (inrs i hi2)).symm
  have some':∀{i r},lookL rs' i=some r→(lookL rs' i).isSome=true:=fun h=>by rw[h];rfl
  have sub:∀b,OwnZ X rs' B T' b→Own0 (D.cx fn.ntmps) st B' T' b:=fun b hb=>by
   rcases hb with hb | ⟨i,r,k1,k2⟩
   ·exact .inl hb
   ·rw[fixB i (some' k1)] at k2;exact .inr ⟨i,r,h2.at k1,k2⟩
  have hal:∀i r,lookL rs' i=some r→∀j∈r.ids,(lookL rs' j).isSome=true:=fun i r k1 j hj=>by
   obtain⟨p,k2,k3,k4⟩:=mem k1;have:=(hck.2 p k2).2 j (by rw[k4];exact hj);exact this
  refine⟨v,g1,hi.dfr,T',g2,⟨fun i r k1=>?_,hal,fun i r j q b k1 k2 k3 k4=>?_⟩,hi.gr.fr,fun b ⟨i,r,k1,k2⟩=>?_⟩
  ·exact ((hi.inn i r (h2.at k1)).wide (fun _ _ _=>trivial) sub).reB (fixB i (some' k1)) rfl fun j hj=>⟨fixB j (hal i r k1 j hj),rfl⟩
  ·rw[fixB i (some' k1)] at k3;rw[fixB j (some' k2)] at k4;exact hi.apart i r j q b (h2.at k1) (h2.at k2) k3 k4
  ·rw[fixB i (some' k1)] at k2;exact ((hi.inn i r (h2.at k1)).lo k2).1.symm
 cases e with
 | ret=>
  obtain⟨v,g1,g2,T',g3⟩:=fin h1;exact bodyPost_ret g1 g2 ⟨v,T',rfl,g3⟩
 | normal=>
  obtain⟨v,g1,g2,T',g3⟩:=fin h1;exact bodyPost_end g1 g2 ⟨v,T',rfl,g3⟩
 | _=>exact h1.elim
end
def PCallsG (P:Program) (T:List Nat) (f:FuncId) (args:List PV) (res:PV):Prop:=callB P f=true∧
 ∀(w:World) (X:Nat→Prop) (us:List Value),LaidG w→(∀b,X b→b < w.heap.size)→(∀b cs t fr,X b→w.heap[b]?=some (.cells cs t fr)→t ∉ T)→PV.RepL w X args us→
  Calls P f us.toArray w fun e w'=>∃v,e=.returned v∧res.Rep w' X v∧Gr w w'
def NCalls (P:Program) (Tg:List Nat) (f:FuncId) (args:List PV) (e k:Nat) (ts:List Nat) (xs:List (List PV)):Prop:=callB P f=true∧
 ∀(w:World) (X:Nat→Prop) (us:List Value),(∀b,X b→b < w.heap.size)→(∀b cs t fr,X b→w.heap[b]?=some (.cells cs t fr)→t ∉ Tg)→PV.RepL w X args us→
  Calls P f us.toArray w fun ex w'=>∃(x:Sv) (vs:List (List Value)),ex=.returned x.v∧w'.ownsRow 0 e k x.v x.n vs.flatten∧(∀b,x.v.ownBlock=some b→w.heap.size≤b)∧PV.RepLL w' (fun b=>X b∨x.v.ownBlock=some b) xs vs∧RowOk k ts xs∧x.n=xs.length∧0 < k∧Gr w w'
theorem NCalls.p {P:Program} {Tg:List Nat} {f:FuncId} {args:List PV} {e k:Nat} {ts:List Nat} {xs:List (List PV)} (h:NCalls P Tg f args e k ts xs):PCalls P Tg f args (.rows e k ts xs):=
 ⟨h.1,fun w X us hX hXT hr=>(h.2 w X us hX hXT hr).mono fun ex w' ⟨x,vs,h1,h2,h3,h4,h5,h6,h7,G⟩=>⟨x.v,h1,by
  obtain⟨g1,g2⟩:=row_is h2 rfl rfl h7;rw[PV.Rep];exact⟨x,vs,rfl,h6,g1,g2,fun ad ha hn hx=>absurd (hX _ hx) (Nat.not_lt.2 (h3 ad.block (by show (Value.slice x.A x.n x.c).ownBlock=_;rw[ha];rfl))),PV.RepLL.still (ts:=ts) h4 ⟨nr _,fun b cs t fr hx hh ht=>⟨rfl,fun hb=>hx (.inl hb)⟩⟩ fun r hr c hc=>((h5 r hr).2 c hc).2,h5⟩,G⟩⟩
def RetN (fn:Func) (e k:Nat) (ts:List Nat) (xs:List (List PV)):Exit→St→Prop
 | .ret,st=>∃t,fn.results.toList=[.tmp t]∧0 < k∧((∃i,st.slot t=some (.tok i)∧st.res i=some (.tok e k ts xs))∨∃s,st.slot t=some s∧s.nul=true∧xs=[])
 | _,_=>False
theorem NCalls.of {P:Program} {T:List Nat} {f:FuncId} {args:List PV} {e k:Nat} {ts:List Nat} {xs:List (List PV)} {fn:Func} {c:Code} (tys:List Nat) (hm:P.follows .mixedOrders=true) (hcall:callB P f=true) (hf:P.funcs[f]?=some fn) (hb:fn.body=some c) (hn:Nat.ble args.length fn.ntmps=true) (h:∀D:Dom P T,(∀b,¬D.M b)→PW (D.cx fn.ntmps) c (St.init args tys) (RetN fn e k ts xs)):NCalls P T f args e k ts xs:=by
 refine⟨hcall,fun w X us hX hXT hr=>?_⟩;have hn:=Nat.le_of_ble_eq_true hn
 let D:Dom P T:=⟨w,X,hX,hm,hXT,fun _=>False,(fun _ _ h=>h),fun _=>False,fun _=>0⟩
 refine calls_of_wp hf hb ?_;have hlen:=hr.len;have hinv:Inv (D.cx fn.ntmps) (St.init args tys) { tmps:=us.toArray++Array.replicate (fn.ntmps - us.toArray.size) undef,defers:=[] } w:=by
  refine⟨fun _=>0,fun _=>Sv.none,⟨by simp;omega,rfl,⟨Fr.refl _ w,fun i h=>h.1.elim⟩,fun t s e=>?_,fun t s e i hi=>?_,(fun i r e=>by cases e),(fun i r e=>by cases e),fun i r j q b e=>by cases e⟩⟩
  ·simp only[St.init] at e;obtain⟨p,hp,rfl⟩:=Option.map_eq_some_iff.1 e;obtain⟨u,hu,hpr⟩:=hr.at hp;rw[SV.Rep];have hut:(us.toArray++Array.replicate (fn.ntmps - us.toArray.size) undef).getD t undef=u:=by
    have hlt:=(gs hu).1;rw[Array.getD_eq_getD_getElem?,Array.getElem?_append_left (by simpa using hlt)];simp[hu]
   rw[hut];exact hpr.still ⟨nr _,fun b cs t fr hx hh ht=>⟨rfl,fun hb=>by
    rcases hb with hb | ⟨i,r,hr,_⟩
    ·exact hx hb
    ·cases hr⟩⟩
  ·simp only[St.init] at e;obtain⟨p,hp,rfl⟩:=Option.map_eq_some_iff.1 e;cases (show i∈([]:List Nat) from hi)
 refine Code.wp_mono (fun ex a w' hq=>?_) (h D (fun _ h=>h) _ w (fun i r e=>by cases e) hinv);obtain⟨st,h1,_,⟨B,T',hi⟩⟩:=hq;cases ex with
 | ret=>
  obtain⟨t,ht,hk0,h1⟩:=h1;have hres:(results fn a.tmps).run P w'=.ok (a.tmps.getD t undef) w':=by
   unfold results;rw[show fn.results=#[.tmp t] from by rw[← ht]];rw[Sem.run_bind,Array.mapM_eq_mapM_toList,map_eq_pure_bind,Sem.run_bind];simp[List.mapM_cons,Sem.run_bind]
  have G:Gr w w':=Gr.of_fr hi.gr.fr;rcases h1 with ⟨i,h2,h3⟩ | ⟨s,h2,h3,rfl⟩
  ·have h4:=hi.slot t _ h2;rw[SV.Rep] at h4;obtain⟨vs,g1,g2,g3,g4,g5,g6⟩:=hi.inn i _ h3;refine bodyPost_ret hres hi.dfr ⟨T' i,vs,by rw[h4],g1,fun b hb=>(g6 b hb).elim id (fun h=>h.elim),PV.RepLL.still (ts:=ts) g2 ⟨nr _,fun b cs t fr hx hh ht=>⟨rfl,fun hb=>hx (hb.elim .inl fun h=>.inr ⟨i,_,h3,h⟩)⟩⟩ fun r hr c hc=>((g3 r hr).2 c hc).2,g3,g4,g5,G⟩
  ·have h4:=nul_rep h3 (hi.slot t s h2);exact bodyPost_ret hres hi.dfr ⟨Sv.none,[],by rw[h4],World.ownsRow_nil w' _ _ _,(fun b hb=>by cases hb),PV.RepLL.nil,(fun r hr=>by cases hr),rfl,hk0,G⟩
 | _=>exact h1.elim
section
variable {C:Cx} {tys:List Nat} {o:Oper} {st:St}
theorem opE_callN {c:Call} {f:FuncId} {ss:List SV} {ps:List PV} {e k id:Nat} {ts:List Nat} {xs:List (List PV)} {Tg:List Nat} (hp:NCalls C.P Tg f ps e k ts xs) (ho:o.op=.call c) (hc:c.callee=.value (.func f)) (ha:evL st c.args.toList=some ss) (hco:coSVL st ss=some ps) (hids:(SV.idsL ss).isEmpty=true) (hre:st.res id=none) (he:st.tys.contains e=true) (hT:Tg.all (fun t=>C.T.contains t)=true) (hty:Tg.all (fun t=>!st.tys.contains t)=true) (hd:∀d,o.dst=some d→d < C.N):
  OpE C st.tys o st ⟨.tok id,some (id,.tok e k ts xs),[id],true⟩:=by
 have hids:=List.isEmpty_iff.1 hids;refine⟨fun i r e1=>by injection e1 with e1;injection e1 with e1 e2;subst e1 e2;exact⟨List.mem_singleton.2 rfl,List.contains_iff_mem.1 he⟩,fun st1 h1 h2 h3 a w ⟨B,T,hi⟩=>?_⟩;rw[← h2 id (List.mem_singleton.2 rfl)] at hre;have ha':=ha;rw[← evL_agree (o:=o) (st1:=st1) (rb:=[]) ⟨h1,fun i hi=>by cases hi⟩ fun x hx=>by
  rw[ho];simp only[Op.operands,Call.operands,hc,Array.mem_append];exact .inr (Array.mem_toList_iff.1 hx)] at ha'
 obtain⟨g1,g2⟩:=evL_rep hi ha';have hco':=(coSVL_ok hco).move (st1:=st1) fun i hi=>by rw[hids] at hi;cases hi
 have old:∀b,Own0 C st1 B T b→b < w.heap.size:=fun b hb=>by
  rcases hb with hb | ⟨i,r,hr,hb⟩
  ·exact nk (C.old b hb) hi.gr.size
  ·exact ((hi.inn i r hr).lo hb).2
 have hrep:PV.RepL w (Own0 C st1 B T) ps (c.args.toList.map a.eval):=CoL.rep hi hco' g1 fun b hb=>⟨hb,fun ⟨i,hi,k⟩=>by rw[hids] at hi;cases hi⟩
 have run:(execOp a.eval o).run C.P w=.ok (.enter f (c.args.map a.eval)) w:=by
  simp only[execOp,ho,resolve,hc,Sem.run_bind];have hf:a.eval (.func f)=.func (.func f) #[] #[]:=rfl;rw[hf];simp only[Deferred.ofValue];simp[invoke,callB_run hp.1]
 refine doesAt_enter run ?_;have hcall:=hp.2 w (Own0 C st1 B T) (c.args.toList.map a.eval) old (fun b cs t fr hb hh ht=>by
  have htc:=List.all_eq_true.1 hT t ht;have hty':=List.all_eq_true.1 hty t ht;rcases hb with hb1 | ⟨i,r,hr,hb1⟩
  ·have hh':C.w0.heap[b]?=some (.cells cs t fr):=by rw[← hi.gr.old hb1];exact hh
   exact C.hT b cs t fr hb1 hh' (List.contains_iff_mem.1 htc)
  ·have h4:=(hi.inn i r hr).typ hb1 hh;have h5:=h3 i r hr;rw[← h4] at h5;rw[List.contains_iff_mem.2 h5] at hty';cases hty') hrep
 rw[show (c.args.map a.eval)=(c.args.toList.map a.eval).toArray from by rw[← Array.toList_map,Array.toArray_toList]];refine hcall.mono fun ex w' ⟨x,vs,hv,k1,k2,k3,k4,k5,k6,G⟩=>⟨x.v,hv,?_⟩
 exact inv_tokG (own:=none) hi (fun r hr=>by rw[hre] at hr;cases hr) (fun _=>rfl) (G.fr.wide fun _ _ h=>h.elim) k1 (by
  cases hb:x.v.ownBlock with
  | none=>exact .inr (.inr rfl)
  | some b=>exact .inr (.inl ⟨b,rfl,k2 b hb⟩)) k3 k4 k5 k6 hd
end
theorem doesAt_mono {P:Program} {o:Oper} {a:Act} {W:World} {K K':Value→World→Prop} (h:∀v w,K v w→K' v w) (hd:doesAt P o a W K):doesAt P o a W K':=by
 unfold doesAt at hd ⊢;split at hd<;>first
  | exact h _ _ hd
  | exact hd
  | exact hd.mono fun e w' ⟨v,e1,e2⟩=>⟨v,e1,h _ _ e2⟩
def coArg (st:St) (s:SV):Option SV:=match s.ids with
 | []=>(match coSV st s with
  | some p=>some (.pv p)
  | none=>none)
 | _=>some s
def coArgs (st:St):List SV→Option (List SV)
 | []=>some []
 | s::ss=>match coArg st s,coArgs st ss with
  | some a,some qs=>some (a::qs)
  | _,_=>none
section
variable {C:Cx} {st:St} {a:Act} {w:World} {B:Nat→Nat} {T:Nat→Sv}
theorem coArg_rep (h:InvB C st a w B T) {s p:SV} {v:Value} (hc:coArg st s=some p) (hr:s.Rep w (Own0 C st B T) B T v) (hl:∀i∈s.ids,(st.res i).isSome=true):p.Rep w (Own0 C st B T) B T v∧∀i∈p.ids,i∈s.ids:=by
 unfold coArg at hc;split at hc
 ·rename_i hids
  split at hc
  ·rename_i q hq
   injection hc with hc;subst hc;refine⟨?_,fun i hi=>by cases (show i∈([]:List Nat) from hi)⟩;rw[SV.Rep];exact Co.rep h (coSV_ok hq) hr fun b hb=>⟨hb,fun ⟨i,hi,_⟩=>by rw[hids] at hi;cases hi⟩
  ·cases hc
 ·injection hc with hc;subst hc;exact⟨hr,fun i hi=>hi⟩
theorem coArgs_rep (h:InvB C st a w B T):∀{ss ps:List SV} {us:List Value},coArgs st ss=some ps→SV.RepL w (Own0 C st B T) B T ss us→(∀i∈SV.idsL ss,(st.res i).isSome=true)→SV.RepL w (Own0 C st B T) B T ps us
 | [],ps,us,hc,hr,_=>by rw[coArgs] at hc;injection hc with hc;subst hc;exact hr
 | s::ss,ps,us,hc,hr,hl=>by
  rw[coArgs] at hc;split at hc
  ·rename_i p ps' h1 h2
   injection hc with hc;subst hc;rw[SV.RepL] at hr;obtain⟨u,us',rfl,h3,h4⟩:=hr;rw[SV.idsL] at hl;exact SV.RepL.cons (coArg_rep h h1 h3 fun i hi=>hl i (List.mem_append_left _ hi)).1 (coArgs_rep h h2 h4 fun i hi=>hl i (List.mem_append_right _ hi))
  ·cases hc
end
def mB (st:St) (dst:Option Nat) (args:List SV) (sl:List (Nat×SV)) (keep rs rs':List (Nat×Res)) (Tg T:List Nat):Bool:=
 (rs.all fun p=>idsOk rs p.2.ids)&&idsOk rs (SV.idsL args)&&backB dst sl keep rs rs' st.tys&&(Tg.all (fun t=>T.contains t)&&Tg.all (fun t=>!st.tys.contains t))
section
variable {T:List Nat} {D:Dom Tryz.prog T} {N:Nat} {st:St} {Q:Exit→St→Prop} {ops:List Oper} {draw:Bool} {acc:List Itm} {k e t:Nat} {c:Call} {f:FuncId} {ss args:List SV} {rs rs':List (Nat×Res)} {res:PV} {Tg ks ts:List Nat} {dst:Option Nat} {ty:TypeId} {pos ps:String} {af:Array Edge} {gd:Option (Nat×Bool)} {x:Operand} {xs:List (List PV)} {l:Lay} {s:SV} {fn:Func}
theorem rm0 (sl:List (Nat×SV)) (keep:List (Nat×Res)) (hG:LaidG D.w0∧¬D.M 0) (hp:MCalls Tryz.prog Tg f args rs rs' res) (hk:nthL ops k=some ⟨dst,.call c,ty,pos,af,gd⟩) (hw:wantS ops.toArray ⟨dst,.call c,ty,pos,af,gd⟩ st=some true) (hd:dstB ⟨dst,.call c,ty,pos,af,gd⟩ N=true) (hc:c.callee=.value (.func f)) (ha:evL st c.args.toList=some ss) (hco:coArgs st ss=some args) (hrs:AllL st.res rs) (hsl:AllL st.slot sl) (hkeep:AllL st.res keep) (hB:mB st dst args sl keep rs rs' Tg T=true) (hch:(!draw||(monoB ops.toArray (depsOf ops.toArray)&&freeB (depsOf ops.toArray) acc))=true) (hl:(!draw||lastB (depsOf ops.toArray) k acc)=true) (q:Q .normal (St.of sl (keep++rs') st.tys)):Reg (D.cx N) ops draw Q acc [k] st:=by
 simp only[mB,be] at hB;obtain⟨⟨⟨h1,h2⟩,h3⟩,h4,h5⟩:=hB;refine reg_last hch hl ⟨_,nthL_arr hk,hw,fun a w ht hi=>?_⟩;have:=does_m (C:=D.cx N) (o:=⟨dst,.call c,ty,pos,af,gd⟩) (sl:=sl) (keep:=keep) (a:=a) (w:=w) hG.1 hG.2 hp rfl (fun us hus=>⟨[],?_,fun B T hi=>?_⟩) hrs hsl hkeep h1 h3 h4 h5 (dstB_ok hd) ht hi
 ·exact doesAt_mono (fun v w' ⟨h6,h7⟩=>⟨_,q,h6,h7⟩) this
 ·subst hus;rw[List.append_nil];simp only[execOp,resolve,hc,Sem.run_bind];have hf:a.eval (.func f)=.func (.func f) #[] #[]:=rfl;rw[hf];simp only[Deferred.ofValue];simp[invoke,callB_run hp.1];rw[← Array.toList_map,Array.toArray_toList]
 ·subst hus;obtain⟨g1,g2⟩:=evL_rep hi ha;rw[List.append_nil];exact⟨coArgs_rep hi hco g1 g2,fun i hi=>List.all_eq_true.1 h2 i hi⟩
theorem rmv0 {caps:List SV} (sl:List (Nat×SV)) (keep:List (Nat×Res)) (hG:LaidG D.w0∧¬D.M 0) (hp:MCalls Tryz.prog Tg f (args++caps) rs rs' res) (hk:nthL ops k=some ⟨dst,.call c,ty,pos,af,gd⟩) (hw:wantS ops.toArray ⟨dst,.call c,ty,pos,af,gd⟩ st=some true) (hd:dstB ⟨dst,.call c,ty,pos,af,gd⟩ N=true) (hc:c.callee=.value x) (hx:ev st x=some (.fn f caps)) (ha:evL st c.args.toList=some ss) (hco:coArgs st ss=some args) (hrs:AllL st.res rs) (hsl:AllL st.slot sl) (hkeep:AllL st.res keep) (hB:mB st dst (args++caps) sl keep rs rs' Tg T=true) (hch:(!draw||(monoB ops.toArray (depsOf ops.toArray)&&freeB (depsOf ops.toArray) acc))=true) (hl:(!draw||lastB (depsOf ops.toArray) k acc)=true) (q:Q .normal (St.of sl (keep++rs') st.tys)):Reg (D.cx N) ops draw Q acc [k] st:=by
 simp only[mB,be] at hB;obtain⟨⟨⟨h1,h2⟩,h3⟩,h4,h5⟩:=hB;refine reg_last hch hl ⟨_,nthL_arr hk,hw,fun a w ht hi=>?_⟩;obtain⟨us2,hf⟩:∃us2:List Value,a.eval x=.func (.func f) #[] us2.toArray:=by
  obtain⟨B,T,hi⟩:=hi;have:=(ev_rep hi hx).1;rw[SV.Rep] at this;obtain⟨us2,h6,_⟩:=this;exact⟨us2,h6⟩
 have:=does_m (C:=D.cx N) (o:=⟨dst,.call c,ty,pos,af,gd⟩) (sl:=sl) (keep:=keep) (a:=a) (w:=w) hG.1 hG.2 hp rfl (fun us hus=>⟨us2,?_,fun B T hi=>?_⟩) hrs hsl hkeep h1 h3 h4 h5 (dstB_ok hd) ht hi
 ·exact doesAt_mono (fun v w' ⟨h6,h7⟩=>⟨_,q,h6,h7⟩) this
 ·subst hus;simp only[execOp,resolve,hc,Sem.run_bind];rw[hf];simp only[Deferred.ofValue];simp[invoke,callB_run hp.1]
 ·subst hus;obtain⟨g1,g2⟩:=evL_rep hi ha;have g3:=(ev_rep hi hx).1;rw[SV.Rep,hf] at g3;obtain⟨us3,g4,g5⟩:=g3;have:us2=us3:=by injection g4 with _ _ g4;simpa using g4
  subst this;exact⟨(coArgs_rep hi hco g1 g2).append g5,fun i hi=>List.all_eq_true.1 h2 i hi⟩
theorem rcn0 {ps:List PV} {kk:Nat} (id:Nat) (hp:NCalls Tryz.prog Tg f ps e kk ts xs) (hk:nthL ops k=some ⟨dst,.call c,ty,pos,af,gd⟩) (hw:wantS ops.toArray ⟨dst,.call c,ty,pos,af,gd⟩ st=some true) (hd:dstB ⟨dst,.call c,ty,pos,af,gd⟩ N=true) (hc:c.callee=.value (.func f)) (ha:evL st c.args.toList=some ss) (hco:coSVL st ss=some ps) (hr:st.res id=none) (hT:((SV.idsL ss).isEmpty&&st.tys.contains e&&(Tg.all (fun t=>T.contains t)&&Tg.all (fun t=>!st.tys.contains t)))=true) (next:Reg (D.cx N) ops draw Q (acc++[⟨k,true,⟨.tok id,some (id,.tok e kk ts xs),[id],true⟩,lkOf ops k st (⟨.tok id,some (id,.tok e kk ts xs),[id],true⟩:Eff)⟩]) ks ((⟨.tok id,some (id,.tok e kk ts xs),[id],true⟩:Eff).app dst st)):Reg (D.cx N) ops draw Q acc (k::ks) st:=by
 simp only[be] at hT;exact reg_op hk hw hd (fun hd=>opE_callN (C:=D.cx N) hp rfl hc ha hco hT.1.1 hr hT.1.2 hT.2.1 hT.2.2 hd) next
theorem rmk0 {ks:List Nat} {n:Nat} {y:Operand} {le:Lay} {kd kc:IntKind} {zm zc:Int} (id:Nat) (hn:n*l.esz≤1000000) (hi:∃i z,(Tryz.prog).info? l.elem=some i∧i.zero=some z∧i.size=l.esz∧i.bytes≤1000) (hk:nthL ops k=some ⟨dst,.makeSlice t x y,ty,ps,af,gd⟩) (hw:wantS ops.toArray ⟨dst,.makeSlice t x y,ty,ps,af,gd⟩ st=some true) (hd:dstB ⟨dst,.makeSlice t x y,ty,ps,af,gd⟩ N=true) (hl:tab.get t=some l) (hle:tab.get l.elem=some le) (hx:ev st x=some (.pv (.raw (.int kd zm)))) (hy:ev st y=some (.pv (.raw (.int kc zc)))) (hzm:zm=(n:Int)) (hzc:zc=(n:Int)) (hre:st.res id=none) (hc:(Nat.blt 0 l.esz&&Nat.beq le.zero.length l.esz&&rowOkB l.esz l.ets [le.zero.map Zk.pv]&&st.tys.contains l.elem)=true)
  (next:Reg (D.cx N) ops draw Q (acc++[⟨k,true,⟨.tok id,some (id,.tok l.elem l.esz l.ets (List.replicate n (le.zero.map Zk.pv))),[id],true⟩,lkOf ops k st (⟨.tok id,some (id,.tok l.elem l.esz l.ets (List.replicate n (le.zero.map Zk.pv))),[id],true⟩:Eff)⟩]) ks ((⟨.tok id,some (id,.tok l.elem l.esz l.ets (List.replicate n (le.zero.map Zk.pv))),[id],true⟩:Eff).app dst st)):Reg (D.cx N) ops draw Q acc (k::ks) st:=by
 simp only[be] at hc;exact reg_op hk hw hd (fun hd=>opE_make (C:=D.cx N) tab_ok rfl hl hc.1.1.1 hle hc.1.1.2 hi hx hy hzm hzc hn hre (rowOkB_ok hc.1.2) hc.2 hd) next
theorem opE_boxI {C:Cx} {o:Oper} {st:St} {id:Nat} {cs:List SV} (hF:¬C.F id) (ho:o.op=.box t x) (hx:ev st x=some s) (hcl:s.cl=some cs) (hres:st.res id=none) (ht:st.tys.contains t=true) (hd:∀d,o.dst=some d→d < C.N):OpE C st.tys o st ⟨.box id 0,some (id,.box t cs),id::SV.idsL cs,false⟩:=by
 refine⟨fun i r e=>by injection e with e;injection e with e1 e2;subst e1 e2;exact⟨mf ..,List.contains_iff_mem.1 ht⟩,fun st1 h1 h2 _ a w ⟨B,T,hi⟩=>?_⟩;rw[← h2 id (mf ..)] at hres;rw[← Agree.ev ⟨h1,h2⟩ (by rw[ho];simp[Op.operands])] at hx;obtain⟨h3,h4⟩:=ev_rep hi hx;obtain⟨us,h5,h6,h7,_⟩:=cl_rep h3 hcl;have run:(execOp a.eval o).run C.P w=.ok (.value (.pointer (some ⟨w.heap.size,0,none⟩))) (w.alloc (.cells us.toArray t)):=by
  simp[execOp,ho,Instr.box,newVar,newRow,h5]
 exact doesAt_value run (inv_new hi hres hF h6 (fun i hi2=>h4 i (h7 i hi2)) hd)
theorem opE_allocI {C:Cx} {o:Oper} {st:St} {tab:Tab} (hT:TblOk C.P tab) {id:Nat} (hF:¬C.F id) (ho:o.op=.alloc t) (hl:tab.get t=some l) (hres:st.res id=none) (ht:st.tys.contains t=true) (hd:∀d,o.dst=some d→d < C.N):OpE C st.tys o st ⟨.box id 0,some (id,.box t (l.zero.map Zk.sv)),[id],false⟩:=by
 have lk:=Tab.get_ok hT hl;refine⟨fun i r e=>by injection e with e;injection e with e1 e2;subst e1 e2;exact⟨mf ..,List.contains_iff_mem.1 ht⟩,fun st1 h1 h2 _ a w ⟨B,T,hi⟩=>?_⟩;rw[← h2 id (mf ..)] at hres;have hz:∃z:Value,(C.P.info? t).bind (·.zero)=some z∧z.cells=(l.zero.map Zk.val).toArray:=by
  refine⟨_,lk.zero,?_⟩;cases hag:l.agg with
  | true=>rfl
  | false=>
   have:=lk.one hag;obtain⟨z,hz⟩:=List.length_eq_one_iff.1 this;rw[hz];exact one_cells (lk.cel z (by rw[hz];exact List.mem_singleton.2 rfl))
 obtain⟨z,hz1,hz2⟩:=hz;have run:(execOp a.eval o).run C.P w=.ok (.value (.pointer (some ⟨w.heap.size,0,none⟩))) (w.alloc (.cells (l.zero.map Zk.val).toArray t)):=by
  simp[execOp,ho,Instr.alloc,rzero hz1,newVar,newRow,hz2]
 exact doesAt_value run (inv_new (id:=id) (ty:=t) (rb:=[id]) hi hres hF zk_rep (fun i hi=>(zk_ids hi).elim) hd)
theorem rbx0 {ks:List Nat} {cs:List SV} (id:Nat) (hF:∀i,¬D.F i) (hk:nthL ops k=some ⟨dst,.box t x,ty,ps,af,gd⟩) (hw:wantS ops.toArray ⟨dst,.box t x,ty,ps,af,gd⟩ st=some true) (hd:dstB ⟨dst,.box t x,ty,ps,af,gd⟩ N=true) (hx:ev st x=some s) (hcl:s.cl=some cs) (hre:st.res id=none) (ht:st.tys.contains t=true)
  (next:Reg (D.cx N) ops draw Q (acc++[⟨k,true,⟨.box id 0,some (id,.box t cs),id::SV.idsL cs,false⟩,lkOf ops k st (⟨.box id 0,some (id,.box t cs),id::SV.idsL cs,false⟩:Eff)⟩]) ks ((⟨.box id 0,some (id,.box t cs),id::SV.idsL cs,false⟩:Eff).app dst st)):Reg (D.cx N) ops draw Q acc (k::ks) st:=
 reg_op hk hw hd (fun hd=>opE_boxI (C:=D.cx N) (fun h=>hF id h.1) rfl hx hcl hre ht hd) next
theorem ral0 {ks:List Nat} (id:Nat) (hF:∀i,¬D.F i) (hk:nthL ops k=some ⟨dst,.alloc t,ty,ps,af,gd⟩) (hw:wantS ops.toArray ⟨dst,.alloc t,ty,ps,af,gd⟩ st=some true) (hd:dstB ⟨dst,.alloc t,ty,ps,af,gd⟩ N=true) (hl:tab.get t=some l) (hre:st.res id=none) (ht:st.tys.contains t=true)
  (next:Reg (D.cx N) ops draw Q (acc++[⟨k,true,⟨.box id 0,some (id,.box t (l.zero.map Zk.sv)),[id],false⟩,lkOf ops k st (⟨.box id 0,some (id,.box t (l.zero.map Zk.sv)),[id],false⟩:Eff)⟩]) ks ((⟨.box id 0,some (id,.box t (l.zero.map Zk.sv)),[id],false⟩:Eff).app dst st)):Reg (D.cx N) ops draw Q acc (k::ks) st:=
 reg_op hk hw hd (fun hd=>opE_allocI (C:=D.cx N) tab_ok (fun h=>hF id h.1) rfl hl hre ht hd) next
theorem rcg0 {ps:List PV} (hG:LaidG D.w0∧¬D.M 0) (hp:PCallsG Tryz.prog Tg f ps res) (hk:nthL ops k=some ⟨dst,.call c,ty,pos,af,gd⟩) (hw:wantS ops.toArray ⟨dst,.call c,ty,pos,af,gd⟩ st=some true) (hd:dstB ⟨dst,.call c,ty,pos,af,gd⟩ N=true) (hc:c.callee=.value (.func f)) (ha:evL st c.args.toList=some ss) (hco:coSVL st ss=some ps) (hT:(Tg.all (fun t=>T.contains t)&&(Tg.all (fun t=>!st.tys.contains t)&&lentB st (SV.idsL ss) res.ty))=true) (next:Reg (D.cx N) ops draw Q (acc++[⟨k,true,valE (.pv res) (SV.idsL ss),lkOf ops k st (valE (.pv res) (SV.idsL ss))⟩]) ks ((valE (.pv res) (SV.idsL ss)).app dst st)):Reg (D.cx N) ops draw Q acc (k::ks) st:=by
 simp only[be] at hT;exact reg_op hk hw hd (fun hd=>opE_callK (C:=D.cx N) rfl hc ha (coSVL_ok hco) ⟨hp.1,fun w B g X us=>hp.2 w X us (LaidG.cx (C:=D.cx N) hG.1 hG.2 g)⟩ hT.1 hT.2.1 hT.2.2 hd) next
theorem rz0 {t2:Nat} {d:Nat} {kk:Nat} (hdst:dst=some d) (hk:nthL ops k=some ⟨dst,.binOp .eql t x (.const (.slice none 0 0)) t2,ty,pos,af,gd⟩) (hw:wantS ops.toArray ⟨dst,.binOp .eql t x (.const (.slice none 0 0)) t2,ty,pos,af,gd⟩ st=some true) (hd:dstB ⟨dst,.binOp .eql t x (.const (.slice none 0 0)) t2,ty,pos,af,gd⟩ N=true) (hx:ev st x=some (.pv (.rows e kk ts xs))) (hu:∃e,(Tryz.prog).underlying t=some (.slice e)) (hch:(!draw||(monoB ops.toArray (depsOf ops.toArray)&&freeB (depsOf ops.toArray) acc))=true) (hl:(!draw||lastB (depsOf ops.toArray) k acc)=true) (q1:xs=[]→Q .normal ((valE (.pv (.raw (.bool true))) []).app dst st)) (q2:Q .normal ((valE (.pv (.raw (.bool false))) []).app dst st)):Reg (D.cx N) ops draw Q acc [k] st:=by
 refine reg_last hch hl ⟨_,nthL_arr hk,hw,fun a w ht hi=>?_⟩;obtain⟨B,T,hi⟩:=hi;have x1:=(ev_rep hi hx).1;rw[SV.Rep,PV.Rep] at x1;obtain⟨v,us,hv,hn,his,hty,hav,hrep,hok⟩:=x1;obtain⟨el,hu⟩:=hu;have hev:a.eval (.const (.slice none 0 0))=.slice none 0 0:=rfl;have app:∀b:Bool,TysOk ((valE (.pv (.raw (.bool b))) []).app dst st) ((valE (.pv (.raw (.bool b))) []).app dst st).tys∧Inv (D.cx N) ((valE (.pv (.raw (.bool b))) []).app dst st) (a.put dst (.bool b)) w:=fun b=>⟨app_tys ht fun i r e=>(by cases e),inv_val hi (Gr.refl w) (by rw[SV.Rep,PV.Rep]) (fun i hi=>by cases (show i∈([]:List Nat) from hi)) (dstB_ok hd)⟩
 cases hA:v.A with
 | none=>
  have run:(execOp a.eval ⟨dst,.binOp .eql t x (.const (.slice none 0 0)) t2,ty,pos,af,gd⟩).run (D.cx N).P w=.ok (.value (.bool true)) w:=by
   simp only[execOp,hv,hev,Sem.run_bind,Lib.run_eql_slice_nil (P:=(D.cx N).P) w t el v.A v.n v.c 0 0 hu,hA];simp[eqGuard];rw[show (v.v:Value)=.slice v.A v.n v.c from rfl,Lib.run_eql_slice_nil (P:=Tryz.prog) w t el v.A v.n v.c 0 0 hu,hA];rfl
  refine doesAt_value run ⟨_,q1 ?_,app true⟩;have h1:=(his.mk0 hA).1;rw[h1] at hn;exact List.length_eq_zero_iff.1 hn.symm
 | some ad=>
  have run:(execOp a.eval ⟨dst,.binOp .eql t x (.const (.slice none 0 0)) t2,ty,pos,af,gd⟩).run (D.cx N).P w=.ok (.value (.bool false)) w:=by
   simp only[execOp,hv,hev,Sem.run_bind,Lib.run_eql_slice_nil (P:=(D.cx N).P) w t el v.A v.n v.c 0 0 hu,hA];simp[eqGuard];rw[show (v.v:Value)=.slice v.A v.n v.c from rfl,Lib.run_eql_slice_nil (P:=Tryz.prog) w t el v.A v.n v.c 0 0 hu,hA];rfl
  exact doesAt_value run ⟨_,q2,app false⟩
theorem pcm {c:Code} (tys:List Nat) (hcall:callB Tryz.prog f=true) (hf:(Tryz.prog).funcs[f]?=some fn) (hb:fn.body=some c) (hn:(Nat.ble args.length fn.ntmps&&mcB rs rs' tys fn.ntmps)=true) (h:∀D:Dom Tryz.prog T,LaidG D.w0∧¬D.M 0→W D fn.ntmps c (St.initM args rs tys) (RetM Tryz.prog tab fn res rs')):MCalls Tryz.prog T f args rs rs' res:=by
 rw[be] at hn;exact MCalls.of tys tab_ok mixed hcall hf hb hn.1 hn.2 fun D h1 h2=>h D ⟨h1,h2⟩
theorem pcn {args:List PV} {c:Code} (tys:List Nat) (hcall:callB Tryz.prog f=true) (hf:(Tryz.prog).funcs[f]?=some fn) (hb:fn.body=some c) (hn:Nat.ble args.length fn.ntmps=true) (h:∀D:Dom Tryz.prog T,W D fn.ntmps c (St.init args tys) (RetN fn e k ts xs)):NCalls Tryz.prog T f args e k ts xs:=NCalls.of tys mixed hcall hf hb hn fun D _=>h D
theorem retm {P:Program} {tab:Tab} {p:PV} (h:retE tab st fn.results.toList=some p) (e:p=res) (h2:AllL st.res rs'):RetM P tab fn res rs' .ret st:=⟨ret_ok h e,h2⟩
theorem retm' {P:Program} {tab:Tab} {p:PV} (h:retE tab st fn.results.toList=some p) (e:p=res) (h2:AllL st.res rs'):RetM P tab fn res rs' .normal st:=⟨ret_ok h e,h2⟩
theorem retn {i:Nat} {ys:List (List PV)} (h:fn.results.toList=[.tmp t]) (hk:Nat.blt 0 k=true) (h1:st.slot t=some (.tok i)) (h2:st.res i=some (.tok e k ts ys)) (e0:ys=xs):RetN fn e k ts xs .ret st:=⟨t,h,Nat.le_of_ble_eq_true hk,.inl ⟨i,h1,by rw[h2,e0]⟩⟩
theorem retn0 (h:fn.results.toList=[.tmp t]) (hk:Nat.blt 0 k=true) (h1:st.slot t=some s) (h2:s.nul=true) (e0:xs=[]):RetN fn e k ts xs .ret st:=⟨t,h,Nat.le_of_ble_eq_true hk,.inr ⟨s,h1,h2,e0⟩⟩
end
theorem PCalls.ofF {P:Program} {tab:Tab} {T:List Nat} {f:FuncId} {args:List PV} {res:PV} {fn:Func} {c:Code} (tys:List Nat) (hT:TblOk P tab) (hm:P.follows .mixedOrders=true) (hcall:callB P f=true) (hf:P.funcs[f]?=some fn) (hb:fn.body=some c) (hn:Nat.ble args.length fn.ntmps=true) (h:∀D:Dom P T,(∀i,¬D.F i)→LaidG D.w0∧¬D.M 0→PW (D.cx fn.ntmps) c (St.init args tys) (RetQ P tab fn res)):PCallsG P T f args res:=by
 refine⟨hcall,fun w X us hG hX hXT hr=>?_⟩;have hn:=Nat.le_of_ble_eq_true hn
 let D:Dom P T:=⟨w,X,hX,hm,hXT,fun _=>False,(fun _ _ h=>h),fun _=>False,fun _=>0⟩
 refine calls_of_wp hf hb ?_;have hlen:=hr.len;have hinv:Inv (D.cx fn.ntmps) (St.init args tys) { tmps:=us.toArray++Array.replicate (fn.ntmps - us.toArray.size) undef,defers:=[] } w:=by
  refine⟨fun _=>0,fun _=>Sv.none,⟨by simp;omega,rfl,⟨Fr.refl _ w,fun i h=>h.1.elim⟩,fun t s e=>?_,fun t s e i hi=>?_,(fun i r e=>by cases e),(fun i r e=>by cases e),fun i r j q b e=>by cases e⟩⟩
  ·simp only[St.init] at e;obtain⟨p,hp,rfl⟩:=Option.map_eq_some_iff.1 e;obtain⟨u,hu,hpr⟩:=hr.at hp;rw[SV.Rep];have hut:(us.toArray++Array.replicate (fn.ntmps - us.toArray.size) undef).getD t undef=u:=by
    have hlt:=(gs hu).1;rw[Array.getD_eq_getD_getElem?,Array.getElem?_append_left (by simpa using hlt)];simp[hu]
   rw[hut];exact hpr.still ⟨nr _,fun b cs t fr hx hh ht=>⟨rfl,fun hb=>by
    rcases hb with hb | ⟨i,r,hr,_⟩
    ·exact hx hb
    ·cases hr⟩⟩
  ·simp only[St.init] at e;obtain⟨p,hp,rfl⟩:=Option.map_eq_some_iff.1 e;cases (show i∈([]:List Nat) from hi)
 refine Code.wp_mono (fun e a w' hq=>?_) (h D (fun _ h=>h) ⟨hG,fun h=>h⟩ _ w (fun i r e=>by cases e) hinv);obtain⟨st,h1,_,h3⟩:=hq;cases e with
 | ret=>
  obtain⟨v,g1,g2⟩:=ret_run (C:=D.cx fn.ntmps) hT h3 h1;obtain⟨B,T',h4⟩:=h3;exact bodyPost_ret g1 h4.dfr ⟨v,rfl,g2,Gr.of_fr h4.gr.fr⟩
 | normal=>
  obtain⟨v,g1,g2⟩:=ret_run (C:=D.cx fn.ntmps) hT h3 h1;obtain⟨B,T',h4⟩:=h3;exact bodyPost_end g1 h4.dfr ⟨v,rfl,g2,Gr.of_fr h4.gr.fr⟩
 | _=>exact h1.elim
theorem pcF {T:List Nat} {f:FuncId} {args:List PV} {res:PV} {fn:Func} {c:Code} (tys:List Nat) (hcall:callB Tryz.prog f=true) (hf:(Tryz.prog).funcs[f]?=some fn) (hb:fn.body=some c) (hn:Nat.ble args.length fn.ntmps=true) (h:∀D:Dom Tryz.prog T,(∀i,¬D.F i)→LaidG D.w0∧¬D.M 0→W D fn.ntmps c (St.init args tys) (RetQ Tryz.prog tab fn res)):PCallsG Tryz.prog T f args res:=PCalls.ofF tys tab_ok mixed hcall hf hb hn h
section
variable {C:Cx} {o:Oper} {st:St} {t:Nat}
theorem opE_loadB {tab:Tab} (hT:TblOk C.P tab) {x:Operand} {l:Lay} {id ty off:Nat} {cs:List SV} {s:SV} (ho:o.op=.load t x) (hl:tab.get t=some l) (hag:l.agg=false) (hx:ev st x=some (.box id off)) (hre:st.res id=some (.box ty cs)) (hs:cs[off]?=some s) (hd:∀d,o.dst=some d→d < C.N):OpE C st.tys o st (valE s [id]):=by
 have lk:=Tab.get_ok hT hl;obtain⟨d,hu,hdr⟩:=lk.agg;refine opE_val hd fun st1 ag a w B T hi=>?_
 rw[← ag.ev (by rw[ho];simp[Op.operands])] at hx;rw[← ag.2 id (List.mem_append_left _ (List.mem_singleton.2 rfl))] at hre;have h1:=(ev_rep hi hx).1;rw[SV.Rep] at h1;obtain⟨g1,us,g2,g3⟩:=hi.inn id _ hre;obtain⟨u,hu1,hu2⟩:=g3.at hs;have hc:w.cell? ⟨B id,off,none⟩=some u:=by rw[g2.cell];simpa using hu1
 refine⟨u,?_,hu2,fun i hi2=>hi.alive id _ hre i (idsL_mem (mg hs) hi2)⟩;simp only[execOp,ho,h1,Instr.loadAt,Instr.sureAddr,Sem.run_bind,Sem.run_pure,Result.andThen_ok];have:=rloadVar1 (P:=C.P) (w:=w) hu (hdr.trans hag) hc;simp only[this,Result.andThen_ok]
theorem opE_idxA {n e:Nat} {x y:Operand} {id off i:Nat} {kd:IntKind} {z:Int} (ho:o.op=.indexAddr t x y) (hu:C.P.underlying t=some (.array n e)) (hsz:(C.P.info? e).map (·.size)=some 1) (hx:ev st x=some (.box id off)) (hy:ev st y=some (.pv (.raw (.int kd z)))) (hz:z=(i:Int)) (hi:i < n) (hd:∀d,o.dst=some d→d < C.N):OpE C st.tys o st (valE (.box id (off+i)) []):=by
 refine opE_val hd fun st1 ag a w B T hi'=>?_
 rw[← ag.ev (by rw[ho];simp[Op.operands])] at hx hy;obtain⟨h1,h3⟩:=ev_rep hi' hx;have h2:=(ev_rep hi' hy).1;rw[SV.Rep] at h1;rw[SV.Rep,PV.Rep] at h2;refine⟨.pointer (some ((⟨B id,off,none⟩:Addr).add i)),?_,by rw[SV.Rep,add_mk],h3⟩;have hlt:(i:Int) < (n:Int):=by omega
 simp[execOp,ho,h1,h2,hz,Instr.indexAt,Instr.sureAddr,asIntOf,run_underlying hu,hlt,rsize hsz];intro h;omega
theorem opE_arr {n e:Nat} {parts:Array (Nat×Operand)} {zs us:List Value} (ho:o.op=.build t parts) (hu:C.P.underlying t=some (.array n e)) (hsz:(C.P.info? e).map (·.size)=some 1) (hz:(C.P.info? t).bind (·.zero)=some (.agg zs.toArray)) (hparts:parts.toList.all (fun p=>match p.2 with
  | .func _=>true
  | _=>false)=true) (hfill:Instr.fill (fun i=>some (i,1)) zs.toArray (parts.toList.map fun p=>(p.1,match p.2 with
  | .func f=>.func (.func f) #[] #[]
  | _=>undef))=some us.toArray) (hd:∀d,o.dst=some d→d < C.N):OpE C st.tys o st (valE (.agg (us.map fun v=>.pv (.raw v))) []):=by
 refine opE_val hd fun st1 ag a w B T hi=>?_
 have hpm:(parts.map fun x=>match x with | (i,x)=>(i,a.eval x)).toList=parts.toList.map fun p=>(p.1,match p.2 with
  | .func f=>.func (.func f) #[] #[]
  | _=>undef):=by
  rw[Array.toList_map];refine List.map_congr_left fun p hp=>?_
  have h1:=List.all_eq_true.1 hparts p hp;obtain⟨i,x⟩:=p;cases x with
  | func f=>rfl
  | _=>cases h1
 refine⟨.agg us.toArray,?_,?_,fun i hi=>?_⟩
 ·simp only[execOp,ho,Instr.build,Sem.run_bind,rzero hz,Result.andThen_ok,run_underlying hu,rsize hsz,Value.cells,hpm];have h2:(fun i=>some (i*1,1))=fun i=>some (i,1):=funext fun i=>by rw[Nat.mul_one]
  first
   | (simp only[Nat.mul_one,hfill];rfl)
   | (simp[h2,hfill])
 ·rw[SV.Rep];refine⟨us,rfl,?_⟩;clear hfill ag
  induction us with
  | nil=>rw[List.map_nil,SV.RepL]
  | cons u us ih=>rw[List.map_cons];exact SV.RepL.cons (by rw[SV.Rep,PV.Rep]) ih
 ·obtain⟨c,hc,hi2⟩:=idsL_of (show i∈SV.idsL (us.map fun v=>.pv (.raw v)) from hi);obtain⟨v,_,rfl⟩:=List.mem_map.1 hc;cases (show i∈([]:List Nat) from hi2)
end
section
variable {T:List Nat} {D:Dom Tryz.prog T} {N:Nat} {st:St} {Q:Exit→St→Prop} {ops:List Oper} {draw:Bool} {acc:List Itm}
theorem rcr {k:Nat} {ks:List Nat} {c:Call} {f:FuncId} {x:Operand} {sf:SV} {ss:List SV} {ps:List PV} {res:PV} {Tg:List Nat} {dst:Option Nat} {ty:TypeId} {pos:String} {af:Array Edge} {gd:Option (Nat×Bool)} (hp:PCalls Tryz.prog Tg f ps res) (hk:nthL ops k=some ⟨dst,.call c,ty,pos,af,gd⟩) (hw:wantS ops.toArray ⟨dst,.call c,ty,pos,af,gd⟩ st=some true) (hd:dstB ⟨dst,.call c,ty,pos,af,gd⟩ N=true) (hc:c.callee=.value x) (hx:ev st x=some sf) (hsf:sf=.pv (.raw (.func (.func f) #[] #[]))) (ha:evL st c.args.toList=some ss) (hco:coSVL st ss=some ps) (hT:(Tg.all (fun t=>T.contains t)&&(Tg.all (fun t=>!st.tys.contains t)&&lentB st (SV.idsL ss) res.ty))=true) (next:Reg (D.cx N) ops draw Q (acc++[⟨k,true,valE (.pv res) (SV.idsL ss),lkOf ops k st (valE (.pv res) (SV.idsL ss))⟩]) ks ((valE (.pv res) (SV.idsL ss)).app dst st)):Reg (D.cx N) ops draw Q acc (k::ks) st:=by
 simp only[be] at hT;subst hsf;have h0:SV.idsL ss++(SV.pv (.raw (.func (.func f) #[] #[]))).ids=SV.idsL ss:=List.append_nil _;have h:=fun hd=>opE_callV (C:=D.cx N) (o:=⟨dst,.call c,ty,pos,af,gd⟩) (ps2:=[]) (f:=f) rfl hc hx (.fnr f) ha (coSVL_ok hco) (by rw[List.append_nil];exact hp) hT.1 hT.2.1 (by rw[h0];exact hT.2.2) hd
 rw[h0] at h;exact reg_op hk hw hd h next
end
theorem opE_glob {C:Cx} {o:Oper} {st:St} {y:Operand} {kd:IntKind} {z:Int} (hP:C.P=Tryz.prog) (hG:LaidG C.w0∧¬C.M 0) (ho:o.op=.indexAddr 224 (.global 0) y) (hy:ev st y=some (.pv (.raw (.int kd z)))) (h0:0≤z) (h5:z < 5) (hT:(C.T.contains 224)=true) (hd:∀d,o.dst=some d→d < C.N):OpE C st.tys o st (valE (.ref 224 [.raw (.int .i64 (oppK z))]) []):=by
 refine opE_val hd fun st1 ag a w B T hi=>?_
 rw[← ag.ev (by rw[ho];simp[Op.operands])] at hy;have h2:=(ev_rep hi hy).1;rw[SV.Rep,PV.Rep] at h2;have hl:=hG.1.cx hG.2 hi.gr;obtain⟨zs,fr,hz⟩:=hl.1;obtain⟨n,rfl⟩:∃n:Nat,z=(n:Int):=⟨z.toNat,by omega⟩;have hn:n < 5:=by omega
 have hu:C.P.underlying 224=some (.array 5 3):=by rw[hP];kernel_rfl
 have hsz:(C.P.info? 3).map (·.size)=some 1:=by rw[hP];kernel_rfl
 refine⟨.pointer (some ((⟨0,0,none⟩:Addr).add n)),?_,?_,fun i hi=>by cases (show i∈([]:List Nat) from hi)⟩
 ·have hlt:(n:Int) < 5:=by omega
  have hg:a.eval (.global 0)=.pointer (some ⟨0,0,none⟩):=rfl;simp[execOp,ho,hg,h2,Instr.indexAt,Instr.sureAddr,asIntOf,run_underlying hu,hlt,rsize hsz];intro h;omega
 ·rw[SV.Rep];refine⟨(⟨0,0,none⟩:Addr).add n,[.int .i64 (oppK (n:Int))],rfl,PV.RepL.cons (by rw[PV.Rep]) PV.RepL.nil,fun _=>?_,fun j u hu=>?_⟩
  ·rw[add_blk];refine⟨fun hx=>?_,zs,fr,hz⟩;rcases hx with hx | ⟨i,r,h1,h3⟩
   ·have h4:=C.hT 0 zs _ fr hx (by rw[← hi.gr.old hx];exact hz);exact h4 (List.contains_iff_mem.1 hT)
   ·exact hG.1.lo hG.2 ((hi.inn i r h1).lo h3).1
  ·rw[add_mk,Nat.zero_add];cases j with
   | zero=>simp at hu;subst hu;rw[add_zero];exact hl.2 n hn
   | succ j=>simp at hu
theorem MCalls.nil {P:Program} {Tg:List Nat} {f:FuncId} {pre post:List SV} {e k:Nat} {ts:List Nat} {rs rs':List (Nat×Res)} {res:PV} (h:MCalls P Tg f (pre++.pv (.rows e k ts [])::post) rs rs' res):MCalls P Tg f (pre++.pv (.raw (.slice none 0 0))::post) rs rs' res:=by
 refine⟨h.1,fun w X B T us h1 h2 h3 h4 h5 h6 h7 h8=>h.2 w X B T us h1 h2 h3 h4 h5 h6 ?_ ?_⟩
 ·have key:∀(pre:List SV) (us:List Value),SV.RepL w (OwnZ X rs B T) B T (pre++.pv (.raw (.slice none 0 0))::post) us→SV.RepL w (OwnZ X rs B T) B T (pre++.pv (.rows e k ts [])::post) us:=fun pre=>by
   induction pre with
   | nil=>
    intro us h;rw[List.nil_append,SV.RepL] at h;obtain⟨u,us',rfl,g1,g2⟩:=h;rw[SV.Rep,PV.Rep] at g1;subst g1;refine SV.RepL.cons ?_ g2;rw[SV.Rep,PV.Rep];exact⟨Sv.none,[],rfl,rfl,Sv.Is.none w k,(fun ad h=>by cases h),(fun ad h=>by cases h),by rw[PV.RepLL],fun r hr=>by cases hr⟩
   | cons p pre ih=>
    intro us h;rw[List.cons_append,SV.RepL] at h;obtain⟨u,us',rfl,g1,g2⟩:=h;exact SV.RepL.cons g1 (ih us' g2)
  exact key pre us h7
 ·have ids:∀(pre:List SV),SV.idsL (pre++.pv (.raw (.slice none 0 0))::post)=SV.idsL (pre++.pv (.rows e k ts [])::post):=fun pre=>by
   induction pre with
   | nil=>rfl
   | cons p pre ih=>rw[List.cons_append,List.cons_append,SV.idsL,SV.idsL,ih]
  rw[← ids];exact h8
def PCallsW (H:World→Prop) (P:Program) (T:List Nat) (f:FuncId) (args:List PV) (res:PV):Prop:=callB P f=true∧
 ∀(w:World) (X:Nat→Prop) (us:List Value),H w→(∀b,X b→b < w.heap.size)→(∀b cs t fr,X b→w.heap[b]?=some (.cells cs t fr)→t ∉ T)→PV.RepL w X args us→
  Calls P f us.toArray w fun e w'=>∃v,e=.returned v∧res.Rep w' X v∧Gr w w'
theorem PCallsW.of {H:World→Prop} {P:Program} {tab:Tab} {T:List Nat} {f:FuncId} {args:List PV} {res:PV} {fn:Func} {c:Code} (tys:List Nat) (hT:TblOk P tab) (hm:P.follows .mixedOrders=true) (hcall:callB P f=true) (hf:P.funcs[f]?=some fn) (hb:fn.body=some c) (hn:Nat.ble args.length fn.ntmps=true) (h:∀D:Dom P T,(∀i,¬D.F i)→(∀b,¬D.M b)→H D.w0→PW (D.cx fn.ntmps) c (St.init args tys) (RetQ P tab fn res)):PCallsW H P T f args res:=by
 refine⟨hcall,fun w X us hG hX hXT hr=>?_⟩;have hn:=Nat.le_of_ble_eq_true hn
 let D:Dom P T:=⟨w,X,hX,hm,hXT,fun _=>False,(fun _ _ h=>h),fun _=>False,fun _=>0⟩
 refine calls_of_wp hf hb ?_;have hlen:=hr.len;have hinv:Inv (D.cx fn.ntmps) (St.init args tys) { tmps:=us.toArray++Array.replicate (fn.ntmps - us.toArray.size) undef,defers:=[] } w:=by
  refine⟨fun _=>0,fun _=>Sv.none,⟨by simp;omega,rfl,⟨Fr.refl _ w,fun i h=>h.1.elim⟩,fun t s e=>?_,fun t s e i hi=>?_,(fun i r e=>by cases e),(fun i r e=>by cases e),fun i r j q b e=>by cases e⟩⟩
  ·simp only[St.init] at e;obtain⟨p,hp,rfl⟩:=Option.map_eq_some_iff.1 e;obtain⟨u,hu,hpr⟩:=hr.at hp;rw[SV.Rep];have hut:(us.toArray++Array.replicate (fn.ntmps - us.toArray.size) undef).getD t undef=u:=by
    have hlt:=(gs hu).1;rw[Array.getD_eq_getD_getElem?,Array.getElem?_append_left (by simpa using hlt)];simp[hu]
   rw[hut];exact hpr.still ⟨nr _,fun b cs t fr hx hh ht=>⟨rfl,fun hb=>by
    rcases hb with hb | ⟨i,r,hr,_⟩
    ·exact hx hb
    ·cases hr⟩⟩
  ·simp only[St.init] at e;obtain⟨p,hp,rfl⟩:=Option.map_eq_some_iff.1 e;cases (show i∈([]:List Nat) from hi)
 refine Code.wp_mono (fun e a w' hq=>?_) (h D (fun _ h=>h) (fun _ h=>h) hG _ w (fun i r e=>by cases e) hinv);obtain⟨st,h1,_,h3⟩:=hq;cases e with
 | ret=>
  obtain⟨v,g1,g2⟩:=ret_run (C:=D.cx fn.ntmps) hT h3 h1;obtain⟨B,T',h4⟩:=h3;exact bodyPost_ret g1 h4.dfr ⟨v,rfl,g2,Gr.of_fr h4.gr.fr⟩
 | normal=>
  obtain⟨v,g1,g2⟩:=ret_run (C:=D.cx fn.ntmps) hT h3 h1;obtain⟨B,T',h4⟩:=h3;exact bodyPost_end g1 h4.dfr ⟨v,rfl,g2,Gr.of_fr h4.gr.fr⟩
 | _=>exact h1.elim
theorem pcW {H:World→Prop} {T:List Nat} {f:FuncId} {args:List PV} {res:PV} {fn:Func} {c:Code} (tys:List Nat) (hcall:callB Tryz.prog f=true) (hf:(Tryz.prog).funcs[f]?=some fn) (hb:fn.body=some c) (hn:Nat.ble args.length fn.ntmps=true) (h:∀D:Dom Tryz.prog T,(∀i,¬D.F i)→(∀b,¬D.M b)→H D.w0→W D fn.ntmps c (St.init args tys) (RetQ Tryz.prog tab fn res)):PCallsW H Tryz.prog T f args res:=PCallsW.of tys tab_ok mixed hcall hf hb hn h
theorem GrC.gr {C:Cx} {B:Nat→Nat} {w:World} (h:GrC C B w) (hM:∀b,¬C.M b):Gr C.w0 w:=Gr.of_fr h.fr hM
section
variable {T:List Nat} {D:Dom Tryz.prog T} {N:Nat} {st:St} {Q:Exit→St→Prop} {ops:List Oper} {draw:Bool} {acc:List Itm}
theorem rcw {k:Nat} {ks:List Nat} {c:Call} {f:FuncId} {ss:List SV} {ps:List PV} {res:PV} {Tg:List Nat} {dst:Option Nat} {ty:TypeId} {pos:String} {af:Array Edge} {gd:Option (Nat×Bool)} {H:World→Prop} (hM:∀b,¬D.M b) (hH:∀w,Gr D.w0 w→H w) (hp:PCallsW H Tryz.prog Tg f ps res) (hk:nthL ops k=some ⟨dst,.call c,ty,pos,af,gd⟩) (hw:wantS ops.toArray ⟨dst,.call c,ty,pos,af,gd⟩ st=some true) (hd:dstB ⟨dst,.call c,ty,pos,af,gd⟩ N=true) (hc:c.callee=.value (.func f)) (ha:evL st c.args.toList=some ss) (hco:coSVL st ss=some ps) (hT:(Tg.all (fun t=>T.contains t)&&(Tg.all (fun t=>!st.tys.contains t)&&lentB st (SV.idsL ss) res.ty))=true) (next:Reg (D.cx N) ops draw Q (acc++[⟨k,true,valE (.pv res) (SV.idsL ss),lkOf ops k st (valE (.pv res) (SV.idsL ss))⟩]) ks ((valE (.pv res) (SV.idsL ss)).app dst st)):Reg (D.cx N) ops draw Q acc (k::ks) st:=by
 simp only[be] at hT;exact reg_op hk hw hd (fun hd=>opE_callK (C:=D.cx N) rfl hc ha (coSVL_ok hco) ⟨hp.1,fun w B g X us=>hp.2 w X us (hH w (GrC.gr (C:=D.cx N) g hM))⟩ hT.1 hT.2.1 hT.2.2 hd) next
end
section
variable {C:Cx} {o:Oper} {st:St} {x:Operand}
theorem opE_lenR {A:Option Addr} {n k:Nat} (hP:C.P=Tryz.prog) (ho:o.op=.call { callee:=.builtin .len,args:=#[x],argTypes:=#[22] }) (hx:ev st x=some (.pv (.raw (.slice A n k)))) (hd:∀d,o.dst=some d→d < C.N):OpE C st.tys o st (valE (.pv (.raw (.int .i64 (n:Int)))) []):=by
 refine opE_val hd fun st1 ag a w B T hi=>?_
 rw[← ag.ev (by rw[ho];simp[Op.operands,Call.operands])] at hx;have h1:=(ev_rep hi hx).1;rw[SV.Rep,PV.Rep] at h1;have hu:C.P.underlying 22=some (.slice 5):=by rw[hP];kernel_rfl
 refine⟨.int .i64 (n:Int),?_,by rw[SV.Rep,PV.Rep],fun i hi=>by cases (show i∈([]:List Nat) from hi)⟩;simp[execOp,ho,resolve,invoke,builtin,Builtin.len_,h1,run_underlying hu,goInt]
theorem opE_idxR {y:Operand} {ad:Addr} {n k i:Nat} {kd:IntKind} {z:Int} (hP:C.P=Tryz.prog) (ho:o.op=.indexAddr 22 x y) (hx:ev st x=some (.pv (.raw (.slice (some ad) n k)))) (hy:ev st y=some (.pv (.raw (.int kd z)))) (hz:z=(i:Int)) (hi:i < n) (hd:∀d,o.dst=some d→d < C.N):OpE C st.tys o st (valE (.pv (.raw (.pointer (some (ad.add i))))) []):=by
 refine opE_val hd fun st1 ag a w B T hin=>?_
 rw[← ag.ev (by rw[ho];simp[Op.operands])] at hx hy;have h1:=(ev_rep hin hx).1;have h2:=(ev_rep hin hy).1;rw[SV.Rep,PV.Rep] at h1 h2;have hu:C.P.underlying 22=some (.slice 5):=by rw[hP];kernel_rfl
 have hsz:(C.P.info? 5).map (·.size)=some 1:=by rw[hP];kernel_rfl
 refine⟨.pointer (some (ad.add i)),?_,by rw[SV.Rep,PV.Rep],fun i hi=>by cases (show i∈([]:List Nat) from hi)⟩;have hlt:(i:Int) < (n:Int):=by omega
 simp[execOp,ho,h1,h2,hz,Instr.indexAt,asIntOf,run_underlying hu,hlt,rsize hsz];intro h;omega
theorem opE_loadR {ad:Addr} {u:Value} (hP:C.P=Tryz.prog) (hM:∀b,¬C.M b) (hc:∀w,Gr C.w0 w→w.cell? ad=some u) (ho:o.op=.load 5 x) (hx:ev st x=some (.pv (.raw (.pointer (some ad))))) (hd:∀d,o.dst=some d→d < C.N):OpE C st.tys o st (valE (.pv (.raw u)) []):=by
 refine opE_val hd fun st1 ag a w B T hin=>?_
 rw[← ag.ev (by rw[ho];simp[Op.operands])] at hx;have h1:=(ev_rep hin hx).1;rw[SV.Rep,PV.Rep] at h1;have hu:C.P.underlying 5=some (.int .u8):=by rw[hP];kernel_rfl
 refine⟨u,?_,by rw[SV.Rep,PV.Rep],fun i hi=>by cases (show i∈([]:List Nat) from hi)⟩;simp only[execOp,ho,h1,Instr.loadAt,Instr.sureAddr,Sem.run_bind,Sem.run_pure,Result.andThen_ok];have:=rloadVar1 (P:=C.P) (w:=w) hu rfl (hc w (hin.gr.gr hM));simp only[this,Result.andThen_ok]
end
abbrev TQ:List Nat:=[35,37,138,200]
section
variable {w:World} {X:Nat→Prop}
theorem q_ok (l:List Q):RowOk 3 [200] (l.map qC):=fun r hr=>by
 obtain⟨t,_,rfl⟩:=List.mem_map.1 hr;refine⟨rfl,fun c hc=>?_⟩;unfold qC at hc;simp only[List.mem_cons,List.not_mem_nil,or_false] at hc;rcases hc with rfl | rfl | rfl<;>exact⟨rfl,fun t ht=>by first | exact ht | cases ht⟩
theorem rats_to {T:List Nat} {x:Sv} {l:List Q} (h:Rats w x l) (hX:XOk w X T) (h0:35∈T) (hu:200∈T):(ratsP l).Rep w X x.v:=rows_to h hX h0 (fun b a hb=>q_to hb hX hu) Rv.len dx (q_ok _)
theorem forms_to {T:List Nat} {x:Sv} {l:List Fm} (h:Forms w x l) (hX:XOk w X T) (h0:37∈T) (ht:138∈T) (hu:200∈T):(formsP l).Rep w X x.v:=rows_to h hX h0 (fun b a hb=>fm_to hb hX hu ht) Fv.len dx (fm_ok _)
theorem query_to {q:Qv} {x:Qr} (h:q.Iq w x) (hX:XOk w X TQ):(qyP x).Rep w X q.v:=by
 rw[PV.Rep];refine⟨_,rfl,?_⟩;unfold qyC;have hu:200∈TQ:=by simp
 have ht:138∈TQ:=by simp
 have ha:37∈TQ:=by simp
 have hr:35∈TQ:=by simp
 have hg:=fm_to h.goal hX hu ht;unfold fmC at hg;refine PV.RepL.cons ?_ (PV.RepL.cons (forms_to h.g.units hX ha ht hu) (PV.RepL.cons (forms_to h.g.outs hX ha ht hu) (PV.RepL.cons (rats_to h.rg.lo hX hr hu) (PV.RepL.cons (rats_to h.rg.hi hX hr hu) (PV.RepL.cons (forms_to h.rg.rows hX ha ht hu) hg)))));rw[← h.g.inputs];exact raw_to _
end
def By (x:Sv) (L:List Nat) (w:World):Prop:=x.Is w 1 (L.map bv)
theorem By.gr {x:Sv} {L:List Nat} {w w':World} (h:By x L w) (G:Gr w w'):By x L w':=Sv.Is.gr h G
theorem By.at {x:Sv} {L:List Nat} {w:World} (h:By x L w) {i:Nat} (hi:i < L.length):∃ad,x.A=some ad∧w.cell? (ad.add i)=some (bv (atZ L (i:Int))):=by
 obtain⟨ad,h1,_,h2⟩:=h.look (i:=i) (u:=bv (atZ L (i:Int))) (by rw[List.getElem?_map,get_of hi];rfl);exact⟨ad,h1,h2⟩
theorem r_instance {x:Sv} {L:List Nat} (hl:∀y∈L,y < 256) (hn:L.length≤1000):PCallsW (By x L) Tryz.prog TQ 24 [.raw x.v] (qyP (queryQ L).1):=⟨by kernel_rfl,fun w X us hx h1 h2 h3=>by
 obtain⟨u,rfl,g⟩:=args1 h3;rw[PV.Rep] at g;subst g;have hxn:x.n=L.length:=by have:=hx.len;rw[List.length_map] at this;omega
 exact (instance_any w x L hx hl om).mono fun e w' ⟨q,he,hq,G⟩=>⟨_,he,query_to hq (XOk.gr ⟨h1,h2⟩ G),G⟩⟩
def IsRow (k:IntKind) (w:World) (a:Option Addr) (len cap:Nat) (zs:List Int):Prop:=
 (a=none∧len=0∧cap=0∧zs=[])∨
 ∃x,a=some x∧len≤cap∧cap≤maxLen∧zs.length=cap∧(∀i,i < zs.length→w.cell? (x.add i)=some (.int k (zs.getD i 0)))∧∀n∈zs,(Lit.int k n).wf=true
section
variable {k:IntKind} {w:World} {a:Option Addr} {len cap:Nat} {zs:List Int}
theorem IsRow.caps (h:IsRow k w a len cap zs):len≤cap∧cap≤maxLen:=by
 rcases h with ⟨_,rfl,rfl,_⟩ | ⟨x,_,h1,h2,_⟩
 ·exact⟨nr _,nq _⟩
 ·exact⟨h1,h2⟩
theorem IsRow.nil0 (h:IsRow k w a len cap zs) (h0:a=none):cap=0:=by
 rcases h with ⟨_,rfl,rfl,_⟩ | ⟨x,e,_⟩
 ·rfl
 ·rw[h0] at e;cases e
theorem IsRow.lens (h:IsRow k w a len cap zs):(zs.take len).length=len:=by
 rcases h with ⟨_,rfl,rfl,rfl⟩ | ⟨x,_,h1,h2,h3,_⟩
 ·rfl
 ·rw[List.length_take];omega
theorem IsRow.sees (h:IsRow k w a len cap zs):Sees w w.heap.size a ((zs.take len).map (Value.int k)):=by
 rcases h with ⟨_,rfl,rfl,rfl⟩ | ⟨x,rfl,h1,h2,h3,h4,_⟩
 ·exact Sees.nil
 ·intro j u hu;rw[List.getElem?_map] at hu;have hj:j < (zs.take len).length:=by
   rcases Nat.lt_or_ge j (zs.take len).length with h | h
   ·exact h
   ·rw[List.getElem?_eq_none h] at hu;cases hu
  rw[List.length_take] at hj;rw[List.getElem?_take_of_lt om,ge om] at hu;simp only[Option.map_some,oq] at hu;have hc:=h4 j om;rw[List.getD_eq_getElem?_getD,ge om,Option.getD_some,hu] at hc;exact⟨x,rfl,by have:=World.block_lt_of_cell? w _ hc;rwa [add_blk] at this,hc⟩
theorem IsRow.bytes (h:IsRow .u8 w a len cap zs):∀x∈zs.take len,0≤x∧x≤255:=by
 rcases h with ⟨_,rfl,rfl,rfl⟩ | ⟨x,rfl,h1,h2,h3,h4,h5⟩
 ·intro x hx;simp at hx
 ·intro x hx;exact bounds_u8 (h5 x (List.mem_of_mem_take hx))
def bytesOf (zs:List Int) (len:Nat):List Nat:=(zs.take len).map Int.toNat
theorem IsRow.nats (h:IsRow .u8 w a len cap zs):(bytesOf zs len).map bv=(zs.take len).map (Value.int .u8):=by
 unfold bytesOf;rw[List.map_map]
 apply List.map_congr_left
 intro x hx;have:=(h.bytes x hx).1;show Value.int .u8 ((x.toNat:Nat):Int)=Value.int .u8 x;rw[Int.toNat_of_nonneg this]
theorem IsRow.is (h:IsRow .u8 w a len cap zs):Sv.Is w ⟨a,len,cap⟩ 1 ((bytesOf zs len).map bv):=by
 refine⟨?_,h.caps.1,by have:=h.caps.2;unfold maxLen at this;exact this,h.nil0,?_⟩
 ·rw[h.nats,List.length_map,h.lens,Nat.mul_one]
 ·rw[h.nats];exact h.sees
theorem IsRow.lim (h:IsRow .u8 w a len cap zs):∀y∈bytesOf zs len,y < 256:=fun y hy=>by
 unfold bytesOf at hy;obtain⟨x,hx,rfl⟩:=List.mem_map.1 hy;have:=h.bytes x hx;omega
end
theorem p_indexD {l:List Dc} {f:Nat} {caps:List PV} {F:Dc→Bool} (hl:l.length≤100000) (h:∀d∈l,PCalls Tryz.prog TU f (dcP d::caps) (bP (F d))):PCalls Tryz.prog TU 185 [dcsP l,.fn f caps] (iP (idxG F l 0)):=by
 refine pcA [] Tryz.func185 (fun D=>?_);refine au ?_;refine pl (ι:={i:Nat // i≤l.length∧idxG F (l.drop i) i=idxG F l 0}) (fun i=>[(0,.pv (dcsP l)),(1,.pv (.fn f caps)),(7,.pv (iP ((l.map dcC).length:Int))),(8,.pv (iP i.1))]) (fun _=>[]) [] (fun i=>l.length - i.1) ⟨0,nq _,rfl⟩ (c4 Y Y Y Y trivial) trivial (fun _=>rfl) ?_;intro ⟨i,hi0,hg⟩;refine a2 (fun e9=>?_) (fun e9=>?_)
 ·have hi:i < l.length:=lt_of e9;refine ax (c:=(getmap (get_of hi))) ?_;refine au ?_;refine rcv (h _ (mg (get_of hi))) Y Y Y Y Y Y Y Y Y ?_;refine a2 (fun e16=>?_) (fun e16=>?_)
  ·exact ar (c:=congrArg iP (idxG_hit hg hi e16))
  ·refine aa (c:=ari_succ (by show i≤_;omega)) ?_;refine au ?_;exact pe ⟨i+1,hi,idxG_step hg hi e16⟩ (c4 Y Y Y Y trivial) trivial Y (by show l.length - (i+1) < l.length - i;omega)
 ·have hj:l.length≤i:=ge_of e9;exact ar (c:=congrArg iP (idxG_end hg hj))
theorem p_containsD {l:List Dc} {f:Nat} {caps:List PV} {F:Dc→Bool} (hl:l.length≤100000) (h:∀d∈l,PCalls Tryz.prog TU f (dcP d::caps) (bP (F d))):PCalls Tryz.prog TU 135 [dcsP l,.fn f caps] (bP (l.any F)):=by
 refine pcA [] Tryz.func135 (fun D=>?_);refine ac (c:=p_indexD hl h) ?_;exact ar (c:=congrArg bP idxG_any)
theorem p_indexA {l:List Fm} {f:Nat} {caps:List PV} {F:Fm→Bool} (hl:l.length≤100000) (h:∀d∈l,PCalls Tryz.prog TU f (fmP d::caps) (bP (F d))):PCalls Tryz.prog TU 181 [formsP l,.fn f caps] (iP (idxG F l 0)):=by
 refine pcA [] Tryz.func181 (fun D=>?_);refine au ?_;refine pl (ι:={i:Nat // i≤l.length∧idxG F (l.drop i) i=idxG F l 0}) (fun i=>[(0,.pv (formsP l)),(1,.pv (.fn f caps)),(7,.pv (iP ((l.map fmC).length:Int))),(8,.pv (iP i.1))]) (fun _=>[]) [] (fun i=>l.length - i.1) ⟨0,nq _,rfl⟩ (c4 Y Y Y Y trivial) trivial (fun _=>rfl) ?_;intro ⟨i,hi0,hg⟩;refine a2 (fun e9=>?_) (fun e9=>?_)
 ·have hi:i < l.length:=lt_of e9;refine ax (c:=(getmap (get_of hi))) ?_;refine au ?_;refine rcv (h _ (mg (get_of hi))) Y Y Y Y Y Y Y Y Y ?_;refine a2 (fun e16=>?_) (fun e16=>?_)
  ·exact ar (c:=congrArg iP (idxG_hit hg hi e16))
  ·refine aa (c:=ari_succ (by show i≤_;omega)) ?_;refine au ?_;exact pe ⟨i+1,hi,idxG_step hg hi e16⟩ (c4 Y Y Y Y trivial) trivial Y (by show l.length - (i+1) < l.length - i;omega)
 ·have hj:l.length≤i:=ge_of e9;exact ar (c:=congrArg iP (idxG_end hg hj))
theorem p_containsA {l:List Fm} {f:Nat} {caps:List PV} {F:Fm→Bool} (hl:l.length≤100000) (h:∀d∈l,PCalls Tryz.prog TU f (fmP d::caps) (bP (F d))):PCalls Tryz.prog TU 128 [formsP l,.fn f caps] (bP (l.any F)):=by
 refine pcA [] Tryz.func128 (fun D=>?_);refine ac (c:=p_indexA hl h) ?_;exact ar (c:=congrArg bP idxG_any)
theorem p_zero {q:Q}:PCalls Tryz.prog [] 223 [ratP q] (bP (decide (q=Q.zero))):=by
 refine pcA [35] Tryz.func223 (fun D=>?_);refine a2 (fun e6=>?_) (fun e6=>?_)
 ·replace e6:=not_t e6;refine a2 (fun e12=>?_) (fun e12=>?_)
  ·exact ar (c:=by rw[zero_all];simp only[e6,e12,sb])
  ·exact ar (c:=by rw[zero_all];simp only[e6,e12,sb])
 ·replace e6:=not_f e6;exact ar (c:=by rw[zero_all];simp only[e6,sb])
theorem p_fits {q:Qr} {d:Dc} {s:Nat} (h:d.at_.S s) (hs:s≤10000):PCalls Tryz.prog [] 186 [qyP q,dcP d] (bP (fitsQ q d)):=by
 refine pcA [39,42] Tryz.func186 (fun D=>?_);refine a2 (fun e7=>?_) (fun e7=>?_)
 ·refine a2 (fun e13=>?_) (fun e13=>?_)
  ·refine a2 (fun e22=>?_) (fun e22=>?_)
   ·refine ac (c:=p_zero) ?_;exact ar (c:=by (try simp only[List.length_map] at *);simp only[fitsQ,e7,e13,e22,sb]<;>rfl)
   ·exact ar (c:=by (try simp only[List.length_map] at *);simp only[fitsQ,e7,e13,e22,sb]<;>rfl)
  ·exact ar (c:=by (try simp only[List.length_map] at *);simp only[fitsQ,e7,e13,sb]<;>rfl)
 ·refine a2 (fun e7'=>?_) (fun e7'=>?_)
  ·refine a2 (fun e13=>?_) (fun e13=>?_)
   ·refine a2 (fun e22=>?_) (fun e22=>?_)
    ·refine ac (c:=p_zero) ?_;exact ar (c:=by (try simp only[List.length_map] at *);simp only[fitsQ,e7,e7',e13,e22,sb]<;>rfl)
    ·exact ar (c:=by (try simp only[List.length_map] at *);simp only[fitsQ,e7,e7',e13,e22,sb]<;>rfl)
   ·exact ar (c:=by (try simp only[List.length_map] at *);simp only[fitsQ,e7,e7',e13,sb]<;>rfl)
  ·refine a2 (fun e27=>?_) (fun e27=>?_)
   ·refine a2 (fun e33=>?_) (fun e33=>?_)
    ·refine a2 (fun e41=>?_) (fun e41=>?_)
     ·refine ac (c:=p_valid (h.sm hs) h.ok) ?_;exact ar (c:=by (try simp only[List.length_map] at *);simp only[fitsQ,e7,e7',e27,e33,e41,sb]<;>rfl)
     ·exact ar (c:=by (try simp only[List.length_map] at *);simp only[fitsQ,e7,e7',e27,e33,e41,sb]<;>rfl)
    ·exact ar (c:=by (try simp only[List.length_map] at *);simp only[fitsQ,e7,e7',e27,e33,sb]<;>rfl)
   ·refine a2 (fun e27'=>?_) (fun e27'=>?_)
    ·refine a2 (fun e33=>?_) (fun e33=>?_)
     ·refine a2 (fun e41=>?_) (fun e41=>?_)
      ·refine ac (c:=p_valid (h.sm hs) h.ok) ?_;exact ar (c:=by (try simp only[List.length_map] at *);simp only[fitsQ,e7,e7',e27,e27',e33,e41,sb]<;>rfl)
      ·exact ar (c:=by (try simp only[List.length_map] at *);simp only[fitsQ,e7,e7',e27,e27',e33,e41,sb]<;>rfl)
     ·exact ar (c:=by (try simp only[List.length_map] at *);simp only[fitsQ,e7,e7',e27,e27',e33,sb]<;>rfl)
    ·exact ar (c:=by (try simp only[List.length_map] at *);simp only[fitsQ,e7,e7',e27,e27',sb]<;>rfl)
theorem p_decided1 {s:Sc} {d:Dc} {n:Nat} {kind unit:Int} (h:d.at_.S n) (hn:n≤10000):PCalls Tryz.prog TU 386 [dcP d,.ptr 3 [iP kind],.ptr 3 [iP unit],.ptr 85 (scC s)] (bP (hitQ s.q kind unit d)):=by
 refine pcA [42] Tryz.func386 (fun D=>?_);refine a2 (fun e10=>?_) (fun e10=>?_)
 ·refine a2 (fun e16=>?_) (fun e16=>?_)
  ·refine ac (c:=p_fits h hn) ?_;exact ar (c:=by (try simp only[List.length_map] at *);simp only[hitQ,e10,e16,sb]<;>rfl)
  ·exact ar (c:=by (try simp only[List.length_map] at *);simp only[hitQ,e10,e16,sb]<;>rfl)
 ·exact ar (c:=by (try simp only[List.length_map] at *);simp only[hitQ,e10,sb]<;>rfl)
theorem p_decided {s:Sc} {a b:Nat} {kind unit:Int} (h:s.Va a b):PCalls Tryz.prog TU 337 [scP s,iP kind,iP unit] (bP (decidedQ s kind unit)):=by
 refine pcA [85,3] Tryz.func337 (fun D=>?_);refine au ?_;refine rmk Y Y Y Y ?_;refine ac (c:=p_containsD (F:=hitQ s.q kind unit) (by have:=h.p9;omega) fun d hd=>p_decided1 (s:=s) (h.path d hd) (by have:=h.a9;omega)) ?_;exact ar (c:=rfl)
theorem p_num {q:Q} {s:Nat} (h:q.S s) (hs:s≤10000):PCalls Tryz.prog TF 277 [ratP q] (fmP (numR q)):=by
 refine pcA [37,35] Tryz.func277 (fun D=>?_);refine ac (c:=p_canon (h.sm hs)) ?_;exact ar (c:=by rw[h.canon];rfl)
theorem p_var (v:Int):PCalls Tryz.prog TF 276 [iP v] (fmP (varR v)):=by
 refine pcA [37] Tryz.func276 (fun D=>?_);refine ac (c:=p_of 1 dx dx) ?_;exact ar (c:=rfl)
theorem p_minus {f:Fm} {s l:Nat} (h:f.S s l) (hs:s≤10000) (hl:l≤400):PCalls Tryz.prog TF 278 [fmP f] (fmP (Fm.scaleR f Q.mone)):=by
 refine pcA [37] Tryz.func278 (fun D=>?_);refine ac (c:=p_of (-1) dx dx) ?_;refine ac (c:=p_fscale (q:=Q.mone) h sz_mone hs dx hl) ?_;exact ar (c:=rfl)
theorem p_lemma {s:Sc} {a b:Nat} {n unit:Int} {upper:Bool} (h:s.Va a b):PCalls Tryz.prog TU 279 [scP s,iP n,iP unit,bP upper] (.tup [ratP (lemmaQ s.lems n unit upper).1,bP (lemmaQ s.lems n unit upper).2]):=by
 refine pcA [85,35] Tryz.func279 (fun D=>?_);refine a2 (fun e12=>?_) (fun e12=>?_)
 ·exact ar (c:=by (try simp only[List.length_map] at *);simp only[lemmaQ,e12,sb]<;>rfl)
 ·have g1:1≤n:=by have:=of_decide_eq_false e12;omega
  refine a2 (fun e19=>?_) (fun e19=>?_)
  ·exact ar (c:=by (try simp only[List.length_map] at *);simp only[lemmaQ,e12,e19,sb]<;>rfl)
  ·have g2:n≤s.lems.length:=by have:=of_decide_eq_false e19;rw[List.length_map] at this;omega
   have h1:0≤n - 1:=by omega
   have h2:n - 1 < s.lems.length:=by omega
   have h9:=h.l9;refine aa (c:=ari_sub om om om om) ?_;refine ay (z:=toN h1) (c:=(getmap (atZ_get h1 h2))) ?_;refine a2 (fun e30=>?_) (fun e30=>?_)
   ·exact ar (c:=by (try simp only[List.length_map] at *);simp only[lemmaQ,e12,e19,e30,sb]<;>rfl)
   ·refine aa (c:=ari_sub om om om om) ?_;refine ay (z:=toN h1) (c:=(getmap (atZ_get h1 h2))) ?_;refine au ?_;refine re0 (((atZ s.lems (n - 1)).upper != upper)) Y Y Y Y Y Y (.inr ⟨rfl,rfl⟩) ?_;refine a2 (fun e40=>?_) (fun e40=>?_)
    ·exact ar (c:=by (try simp only[List.length_map] at *);simp only[lemmaQ,e12,e19,e30,e40,sb]<;>rfl)
    ·refine aa (c:=ari_sub om om om om) ?_;refine ay (z:=toN h1) (c:=(getmap (atZ_get h1 h2))) ?_;refine ac (c:=p_canon ((h.lems _ (atZ_mem h1 h2)).sm (by have:=h.b9;omega))) ?_;exact ar (c:=by (try simp only[List.length_map] at *);simp only[lemmaQ,e12,e19,e30,e40,sb]<;>rfl)
theorem p_useOn {s:Sc} {a b n:Nat} {r:Rw} {v p:Fm} {l u:Q×Bool} (h:s.Va a b) (hq:l.1.S n) (hn:n≤10000):PCalls Tryz.prog TU 280 [.agg (usC s r v p l u)] (bP (onQ s r l)):=by
 refine pcA [367] Tryz.func280 (fun D=>?_);refine a2 (fun e7=>?_) (fun e7=>?_)
 ·refine a2 (fun e12=>?_) (fun e12=>?_)
  ·refine ac (c:=p_decided h) ?_;refine a2 (fun e20=>?_) (fun e20=>?_)
   ·exact ar (c:=by (try simp only[List.length_map] at *);simp only[onQ,e7,e12,e20,sb]<;>rfl)
   ·refine a2 (fun e23=>?_) (fun e23=>?_)
    ·refine ac (c:=p_sgn (hq.sm hn)) ?_;exact ar (c:=by (try simp only[List.length_map] at *);simp only[onQ,e7,e12,e20,e23,sb]<;>rfl)
    ·exact ar (c:=by (try simp only[List.length_map] at *);simp only[onQ,e7,e12,e20,e23,sb]<;>rfl)
  ·refine a2 (fun e23=>?_) (fun e23=>?_)
   ·refine ac (c:=p_sgn (hq.sm hn)) ?_;exact ar (c:=by (try simp only[List.length_map] at *);simp only[onQ,e7,e12,e23,sb]<;>rfl)
   ·exact ar (c:=by (try simp only[List.length_map] at *);simp only[onQ,e7,e12,e23,sb]<;>rfl)
 ·exact ar (c:=by (try simp only[List.length_map] at *);simp only[onQ,e7,sb]<;>rfl)
theorem p_useOff {s:Sc} {a b n:Nat} {r:Rw} {v p:Fm} {l u:Q×Bool} (h:s.Va a b) (hq:u.1.S n) (hn:n≤10000):PCalls Tryz.prog TU 281 [.agg (usC s r v p l u)] (bP (offQ s r u)):=by
 refine pcA [367] Tryz.func281 (fun D=>?_);refine a2 (fun e7=>?_) (fun e7=>?_)
 ·refine a2 (fun e12=>?_) (fun e12=>?_)
  ·refine ac (c:=p_decided h) ?_;refine a2 (fun e20=>?_) (fun e20=>?_)
   ·exact ar (c:=by (try simp only[List.length_map] at *);simp only[offQ,e7,e12,e20,sb]<;>rfl)
   ·refine a2 (fun e23=>?_) (fun e23=>?_)
    ·refine ac (c:=p_sgn (hq.sm hn)) ?_;exact ar (c:=by (try simp only[List.length_map] at *);simp only[offQ,e7,e12,e20,e23,sb]<;>rfl)
    ·exact ar (c:=by (try simp only[List.length_map] at *);simp only[offQ,e7,e12,e20,e23,sb]<;>rfl)
  ·refine a2 (fun e23=>?_) (fun e23=>?_)
   ·refine ac (c:=p_sgn (hq.sm hn)) ?_;exact ar (c:=by (try simp only[List.length_map] at *);simp only[offQ,e7,e12,e23,sb]<;>rfl)
   ·exact ar (c:=by (try simp only[List.length_map] at *);simp only[offQ,e7,e12,e23,sb]<;>rfl)
 ·exact ar (c:=by (try simp only[List.length_map] at *);simp only[offQ,e7,sb]<;>rfl)
theorem p_unit {s:Sc} {a b:Nat} {r:Rw} (h:s.Va a b):PCalls Tryz.prog TF 228 [scP s,rwP r] (.tup [fmP (unitQ s r).1,bP (unitQ s r).2]):=by
 refine pcA [85,96,37,27,367] Tryz.func228 (fun D=>?_);refine a2 (fun e15=>?_) (fun e15=>?_)
 ·exact ar (c:=by (try simp only[List.length_map] at *);simp only[unitQ,unitF,e15,sb]<;>rfl)
 ·have g0:=ge_ofZ e15;refine a2 (fun e22=>?_) (fun e22=>?_)
  ·exact ar (c:=by (try simp only[List.length_map] at *);simp only[unitQ,unitF,e15,e22,sb]<;>rfl)
  ·have g1:=lt_ofZ' e22;have hn:=h.n9;have hv:(varR (s.q.g.inputs+r.index)).S 1 1:=sz_var _;have hp:(atZ s.q.g.units r.index).S 2 8:=(h.q.us _ (atZ_mem g0 g1)).up h.a9 h.n9;have hl:(lemmaQ s.lems r.lo r.index false).1.S 8:=(lemmaQ_S h.lems h.b1).up h.b9;have hu:(lemmaQ s.lems r.hi r.index true).1.S 8:=(lemmaQ_S h.lems h.b1).up h.b9;refine aa (c:=ari_add om om om om) ?_;refine ac (c:=p_var _) ?_;refine ay (z:=toN g0) (c:=(getmap (atZ_get g0 g1))) ?_;refine ac (c:=p_lemma h) ?_;refine ac (c:=p_lemma h) ?_;refine a2 (fun e65=>?_) (fun e65=>?_)
   ·refine ac (c:=plain_any r) ?_;refine a2 (fun e61=>?_) (fun e61=>?_)
    ·exact ar (c:=by (try rw[hp.cn.addR_zero]);(try simp only[List.length_map] at *);simp only[unitQ,unitF,e15,e22,e65,e61,sb]<;>rfl)
    ·refine akF (c:=by exact (kne e65 dx)) ?_;refine akF (c:=by exact (kne e65 dx)) ?_;refine akF (c:=by exact (kne e65 dx)) ?_;refine akF (c:=by exact (kne e65 dx)) ?_;refine akF (c:=by exact (kne e65 dx)) ?_;refine akF (c:=by exact (kne e65 dx)) ?_;refine akF (c:=by exact (kne e65 dx)) ?_;refine akF (c:=by exact (kne e65 dx)) ?_;exact ar (c:=by (try rw[hp.cn.addR_zero]);(try simp only[List.length_map] at *);simp only[unitQ,unitF,e15,e22,e65,e61,sb]<;>rfl)
   ·refine a2 (fun e75=>?_) (fun e75=>?_)
    ·refine ac (c:=plain_any r) ?_;refine a2 (fun e71=>?_) (fun e71=>?_)
     ·refine ac (c:=p_fsub hv hp dx dx dx dx) ?_;exact ar (c:=by (try rw[hp.cn.addR_zero]);(try simp only[List.length_map] at *);simp only[unitQ,unitF,e15,e22,e65,e75,e71,sb]<;>rfl)
     ·refine akF (c:=by exact (kne e75 dx)) ?_;refine akF (c:=by exact (kne e75 dx)) ?_;refine akF (c:=by exact (kne e75 dx)) ?_;refine akF (c:=by exact (kne e75 dx)) ?_;refine akF (c:=by exact (kne e75 dx)) ?_;refine akF (c:=by exact (kne e75 dx)) ?_;refine akF (c:=by exact (kne e75 dx)) ?_;exact ar (c:=by (try rw[hp.cn.addR_zero]);(try simp only[List.length_map] at *);simp only[unitQ,unitF,e15,e22,e65,e75,e71,sb]<;>rfl)
    ·refine a2 (fun e88=>?_) (fun e88=>?_)
     ·refine ac (c:=p_useOn (l:=lemmaQ s.lems r.lo r.index false) (u:=lemmaQ s.lems r.hi r.index true) h hl dx) ?_;refine a2 (fun e84=>?_) (fun e84=>?_)
      ·refine ac (c:=p_fadd hp fm_zero_S dx dx dx dx) ?_;exact ar (c:=by (try rw[hp.cn.addR_zero]);(try simp only[List.length_map] at *);simp only[unitQ,unitF,e15,e22,e65,e75,e88,e84,sb]<;>rfl)
      ·refine akF (c:=by exact (kne e88 dx)) ?_;refine akF (c:=by exact (kne e88 dx)) ?_;refine akF (c:=by exact (kne e88 dx)) ?_;refine akF (c:=by exact (kne e88 dx)) ?_;refine akF (c:=by exact (kne e88 dx)) ?_;refine akF (c:=by exact (kne e88 dx)) ?_;exact ar (c:=by (try rw[hp.cn.addR_zero]);(try simp only[List.length_map] at *);simp only[unitQ,unitF,e15,e22,e65,e75,e88,e84,sb]<;>rfl)
     ·refine a2 (fun e100=>?_) (fun e100=>?_)
      ·refine ac (c:=p_useOn (l:=lemmaQ s.lems r.lo r.index false) (u:=lemmaQ s.lems r.hi r.index true) h hl dx) ?_;refine a2 (fun e96=>?_) (fun e96=>?_)
       ·refine ac (c:=p_fsub hp hv dx dx dx dx) ?_;exact ar (c:=by (try rw[hp.cn.addR_zero]);(try simp only[List.length_map] at *);simp only[unitQ,unitF,e15,e22,e65,e75,e88,e100,e96,sb]<;>rfl)
       ·refine akF (c:=by exact (kne e100 dx)) ?_;refine akF (c:=by exact (kne e100 dx)) ?_;refine akF (c:=by exact (kne e100 dx)) ?_;refine akF (c:=by exact (kne e100 dx)) ?_;refine akF (c:=by exact (kne e100 dx)) ?_;exact ar (c:=by (try rw[hp.cn.addR_zero]);(try simp only[List.length_map] at *);simp only[unitQ,unitF,e15,e22,e65,e75,e88,e100,e96,sb]<;>rfl)
      ·refine a2 (fun e113=>?_) (fun e113=>?_)
       ·refine ac (c:=p_useOff (l:=lemmaQ s.lems r.lo r.index false) (u:=lemmaQ s.lems r.hi r.index true) h hu dx) ?_;refine a2 (fun e109=>?_) (fun e109=>?_)
        ·refine ac (c:=p_minus hp dx dx) ?_;exact ar (c:=by (try rw[hp.cn.addR_zero]);(try simp only[List.length_map] at *);simp only[unitQ,unitF,e15,e22,e65,e75,e88,e100,e113,e109,sb]<;>rfl)
        ·refine akF (c:=by exact (kne e113 dx)) ?_;refine akF (c:=by exact (kne e113 dx)) ?_;refine akF (c:=by exact (kne e113 dx)) ?_;refine akF (c:=by exact (kne e113 dx)) ?_;exact ar (c:=by (try rw[hp.cn.addR_zero]);(try simp only[List.length_map] at *);simp only[unitQ,unitF,e15,e22,e65,e75,e88,e100,e113,e109,sb]<;>rfl)
       ·refine a2 (fun e124=>?_) (fun e124=>?_)
        ·refine ac (c:=p_useOff (l:=lemmaQ s.lems r.lo r.index false) (u:=lemmaQ s.lems r.hi r.index true) h hu dx) ?_;refine a2 (fun e120=>?_) (fun e120=>?_)
         ·refine ac (c:=p_minus hv dx dx) ?_;exact ar (c:=by (try rw[hp.cn.addR_zero]);(try simp only[List.length_map] at *);simp only[unitQ,unitF,e15,e22,e65,e75,e88,e100,e113,e124,e120,sb]<;>rfl)
         ·refine akF (c:=by exact (kne e124 dx)) ?_;refine akF (c:=by exact (kne e124 dx)) ?_;refine akF (c:=by exact (kne e124 dx)) ?_;exact ar (c:=by (try rw[hp.cn.addR_zero]);(try simp only[List.length_map] at *);simp only[unitQ,unitF,e15,e22,e65,e75,e88,e100,e113,e124,e120,sb]<;>rfl)
        ·refine a2 (fun e135=>?_) (fun e135=>?_)
         ·refine a2 (fun e139=>?_) (fun e139=>?_)
          ·refine a2 (fun e131=>?_) (fun e131=>?_)
           ·refine ac (c:=p_num hl dx) ?_;refine ac (c:=p_fsub hp (sz_num hl) dx dx dx dx) ?_;exact ar (c:=by (try rw[hp.cn.addR_zero]);(try simp only[List.length_map] at *);simp only[unitQ,unitF,e15,e22,e65,e75,e88,e100,e113,e124,e135,e139,e131,sb]<;>rfl)
           ·refine akF (c:=by exact (kne e135 dx)) ?_;refine akF (c:=by exact (kne e135 dx)) ?_;exact ar (c:=by (try rw[hp.cn.addR_zero]);(try simp only[List.length_map] at *);simp only[unitQ,unitF,e15,e22,e65,e75,e88,e100,e113,e124,e135,e139,e131,sb]<;>rfl)
          ·refine akF (c:=by exact (kne e135 dx)) ?_;refine akF (c:=by exact (kne e135 dx)) ?_;exact ar (c:=by (try rw[hp.cn.addR_zero]);(try simp only[List.length_map] at *);simp only[unitQ,unitF,e15,e22,e65,e75,e88,e100,e113,e124,e135,e139,sb]<;>rfl)
         ·refine a2 (fun e154=>?_) (fun e154=>?_)
          ·refine a2 (fun e158=>?_) (fun e158=>?_)
           ·refine a2 (fun e150=>?_) (fun e150=>?_)
            ·refine ac (c:=p_num hu dx) ?_;refine ac (c:=p_fsub (sz_num hu) hp dx dx dx dx) ?_;exact ar (c:=by (try rw[hp.cn.addR_zero]);(try simp only[List.length_map] at *);simp only[unitQ,unitF,e15,e22,e65,e75,e88,e100,e113,e124,e135,e154,e158,e150,sb]<;>rfl)
            ·refine akF (c:=by exact (kne e154 dx)) ?_;exact ar (c:=by (try rw[hp.cn.addR_zero]);(try simp only[List.length_map] at *);simp only[unitQ,unitF,e15,e22,e65,e75,e88,e100,e113,e124,e135,e154,e158,e150,sb]<;>rfl)
           ·refine akF (c:=by exact (kne e154 dx)) ?_;exact ar (c:=by (try rw[hp.cn.addR_zero]);(try simp only[List.length_map] at *);simp only[unitQ,unitF,e15,e22,e65,e75,e88,e100,e113,e124,e135,e154,e158,sb]<;>rfl)
          ·refine a2 (fun e173=>?_) (fun e173=>?_)
           ·refine a2 (fun e177=>?_) (fun e177=>?_)
            ·refine a2 (fun e181=>?_) (fun e181=>?_)
             ·refine ac (c:=p_sgn (hl.sm dx)) ?_;refine a2 (fun e187=>?_) (fun e187=>?_)
              ·refine ac (c:=p_sgn (hu.sm dx)) ?_;refine a2 (fun e169=>?_) (fun e169=>?_)
               ·refine ac (c:=p_num hl dx) ?_;refine ac (c:=p_fsub hp (sz_num hl) dx dx dx dx) ?_;refine ac (c:=p_fscale (hp.subR (sz_num hl)) hu dx dx dx) ?_;refine ac (c:=p_qsub hu hl dx dx) ?_;refine ac (c:=p_fscale hv (hu.add hl.neg) dx dx dx) ?_;refine ac (c:=p_fsub ((hp.subR (sz_num hl)).scaleR hu) (hv.scaleR (hu.add hl.neg)) dx dx dx dx) ?_;exact ar (c:=by (try rw[hp.cn.addR_zero]);(try simp only[List.length_map] at *);simp only[unitQ,unitF,e15,e22,e65,e75,e88,e100,e113,e124,e135,e154,e173,e177,e181,e187,e169,sb]<;>rfl)
               ·exact ar (c:=by (try rw[hp.cn.addR_zero]);(try simp only[List.length_map] at *);simp only[unitQ,unitF,e15,e22,e65,e75,e88,e100,e113,e124,e135,e154,e173,e177,e181,e187,e169,sb]<;>rfl)
              ·exact ar (c:=by (try rw[hp.cn.addR_zero]);(try simp only[List.length_map] at *);simp only[unitQ,unitF,e15,e22,e65,e75,e88,e100,e113,e124,e135,e154,e173,e177,e181,e187,sb]<;>rfl)
             ·exact ar (c:=by (try rw[hp.cn.addR_zero]);(try simp only[List.length_map] at *);simp only[unitQ,unitF,e15,e22,e65,e75,e88,e100,e113,e124,e135,e154,e173,e177,e181,sb]<;>rfl)
            ·exact ar (c:=by (try rw[hp.cn.addR_zero]);(try simp only[List.length_map] at *);simp only[unitQ,unitF,e15,e22,e65,e75,e88,e100,e113,e124,e135,e154,e173,e177,sb]<;>rfl)
           ·exact ar (c:=by (try rw[hp.cn.addR_zero]);(try simp only[List.length_map] at *);simp only[unitQ,unitF,e15,e22,e65,e75,e88,e100,e113,e124,e135,e154,e173,sb]<;>rfl)
theorem plain_no {a b:Int} {x:Bool} (h:(a == 0&&b == 0)=false):((a != 0)||((b != 0)||x))=true:=by
 show (!(a == 0)||(!(b == 0)||x))=true;cases h1:a == 0<;>cases h2:b == 0<;>simp_all
theorem plain_yes {a b:Int} (h:(a == 0&&b == 0)=true):(a != 0)=false∧(b != 0)=false:=by
 show (!(a == 0))=false∧(!(b == 0))=false;cases h1:a == 0<;>cases h2:b == 0<;>simp_all
theorem p_input {s:Sc} {a b:Nat} {r:Rw} (h:s.Va a b) (h5:decide (5≤r.kind)=false):PCalls Tryz.prog TF 227 [scP s,rwP r] (.tup [fmP (formR s r).1,bP (formR s r).2]):=by
 refine pcA [85,96,37,30,42] Tryz.func227 (fun D=>?_);refine ac (c:=plain_any r) ?_;refine a2 (fun e18=>?_) (fun e18=>?_)
 ·replace e18:=not_t e18;exact ar (c:=by unfold formR;rw[h5];simp only[cond_false];rw[plain_no e18];rfl)
 ·replace e18:=not_f e18;obtain⟨e18b,e18c⟩:=plain_yes e18;refine a2 (fun e21=>?_) (fun e21=>?_)
  ·exact ar (c:=by unfold formR;rw[h5];simp only[cond_false];first | (rw[plain_no e18];rfl) | (rw[e18b,e18c,e21];rfl))
  ·have g0:=ge_ofZ e21;refine a2 (fun e27=>?_) (fun e27=>?_)
   ·refine a2 (fun e23=>?_) (fun e23=>?_)
    ·have g1:=lt_ofZ e23;refine ac (c:=p_var _) ?_;refine ay (z:=toN g0) (c:=(getmap (atZ_get g0 g1))) ?_;refine ac (c:=p_num ((h.q.rg.los _ (atZ_mem g0 g1)).up h.a9) dx) ?_;refine ac (c:=p_fsub (sz_var _) (sz_num ((h.q.rg.los _ (atZ_mem g0 g1)).up h.a9)) dx dx dx dx) ?_;exact ar (c:=by (try simp only[List.length_map] at *);simp only[formR,pathF,h5,e18,e18b,e18c,e21,e27,e23,sb]<;>rfl)
    ·refine akF (c:=by exact (kne e27 dx)) ?_;refine akF (c:=by exact (kne e27 dx)) ?_;refine akF (c:=by exact (kne e27 dx)) ?_;exact ar (c:=by (try simp only[List.length_map] at *);simp only[formR,pathF,h5,e18,e18b,e18c,e21,e27,e23,sb]<;>rfl)
   ·refine a2 (fun e47=>?_) (fun e47=>?_)
    ·refine a2 (fun e43=>?_) (fun e43=>?_)
     ·have g1:=lt_ofZ e43;refine ay (z:=toN g0) (c:=(getmap (atZ_get g0 g1))) ?_;refine ac (c:=p_num ((h.q.rg.his _ (atZ_mem g0 g1)).up h.a9) dx) ?_;refine ac (c:=p_var _) ?_;refine ac (c:=p_fsub (sz_num ((h.q.rg.his _ (atZ_mem g0 g1)).up h.a9)) (sz_var _) dx dx dx dx) ?_;exact ar (c:=by (try simp only[List.length_map] at *);simp only[formR,pathF,h5,e18,e18b,e18c,e21,e27,e47,e43,sb]<;>rfl)
     ·refine akF (c:=by exact (kne e47 dx)) ?_;refine akF (c:=by exact (kne e47 dx)) ?_;exact ar (c:=by (try simp only[List.length_map] at *);simp only[formR,pathF,h5,e18,e18b,e18c,e21,e27,e47,e43,sb]<;>rfl)
    ·refine a2 (fun e67=>?_) (fun e67=>?_)
     ·refine a2 (fun e63=>?_) (fun e63=>?_)
      ·have g1:=lt_ofZ e63;have hrow:(atZ s.q.rg.rows r.index).S 2 8:=(h.q.rg.rows _ (atZ_mem g0 g1)).2.up h.a9 (by have:=h.n9;omega);refine ay (z:=toN g0) (c:=(getmap (atZ_get g0 g1))) ?_;refine ac (c:=p_fadd hrow fm_zero_S dx dx dx dx) ?_;exact ar (c:=by (try rw[hrow.cn.addR_zero]);(try simp only[List.length_map] at *);simp only[formR,pathF,h5,e18,e18b,e18c,e21,e27,e47,e67,e63,sb]<;>rfl)
      ·refine akF (c:=by exact (kne e67 dx)) ?_;exact ar (c:=by (try simp only[List.length_map] at *);simp only[formR,pathF,h5,e18,e18b,e18c,e21,e27,e47,e67,e63,sb]<;>rfl)
     ·refine a2 (fun e85=>?_) (fun e85=>?_)
      ·refine a2 (fun e92=>?_) (fun e92=>?_)
       ·have g1:=lt_ofZ e92;have e92b:decide ((s.path.length:Int)≤r.index)=false:=df om;have hd:(atZ s.path r.index).at_.S 2:=(h.path _ (atZ_mem g0 g1)).up h.a9;refine ay (z:=toN g0) (c:=(getmap (atZ_get g0 g1))) ?_;refine ac (c:=p_fits (h.path _ (atZ_mem g0 g1)) (by have:=h.a9;omega)) ?_;refine a2 (fun e81=>?_) (fun e81=>?_)
        ·refine ay (z:=toN g0) (c:=(getmap (atZ_get g0 g1))) ?_;refine ac (c:=p_var _) ?_;refine ac (c:=p_num hd dx) ?_;refine ac (c:=p_fsub (sz_var _) (sz_num hd) dx dx dx dx) ?_;refine a2 (fun e116=>?_) (fun e116=>?_)
         ·exact ar (c:=by (try simp only[List.length_map] at *);simp only[formR,pathF,h5,e18,e18b,e18c,e21,e27,e47,e67,e85,e92,e92b,e81,e116,sb]<;>rfl)
         ·refine a2 (fun e119=>?_) (fun e119=>?_)
          ·refine ac (c:=p_minus ((sz_var _).subR (sz_num hd)) dx dx) ?_;exact ar (c:=by (try simp only[List.length_map] at *);simp only[formR,pathF,h5,e18,e18b,e18c,e21,e27,e47,e67,e85,e92,e92b,e81,e116,e119,sb]<;>rfl)
          ·exact ar (c:=by (try simp only[List.length_map] at *);simp only[formR,pathF,h5,e18,e18b,e18c,e21,e27,e47,e67,e85,e92,e92b,e81,e116,e119,sb]<;>rfl)
        ·exact ar (c:=by (try simp only[List.length_map] at *);simp only[formR,pathF,h5,e18,e18b,e18c,e21,e27,e47,e67,e85,e92,e92b,e81,sb]<;>rfl)
       ·have e92b:decide ((s.path.length:Int)≤r.index)=true:=dt (by have:=of_decide_eq_false e92;rw[List.length_map] at this;omega);exact ar (c:=by (try simp only[List.length_map] at *);simp only[formR,pathF,h5,e18,e18b,e18c,e21,e27,e47,e67,e85,e92,e92b,sb]<;>rfl)
      ·exact ar (c:=by (try simp only[List.length_map] at *);simp only[formR,pathF,h5,e18,e18b,e18c,e21,e27,e47,e67,e85,sb]<;>rfl)
theorem ari_addN {m n:Nat} (h:m≤1000000) (k:n≤1000000):ariO .add .i64 (m:Int) (n:Int)=some (((m+n:Nat)):Int):=by
 show some (IntKind.wrap .i64 ((m:Int)+n))=_;rw[i64_wrap om om];rfl
theorem any_no {α:Type}:∀(l:List α),(l.any fun _=>false)=false
 | []=>rfl
 | a::l=>by rw[List.any_cons,any_no l];rfl
theorem p_rgclo {f:Fm} {v s l:Nat} (h:f.S s l) (hs:s≤10000) (hl:l≤400) (k:f.Ok v):PCalls Tryz.prog TU 129 [fmP f,.ptr 3 [iP v]] (bP false):=by
 refine pcA [37] Tryz.func129 (fun D=>?_);refine ac (c:=p_lvalid (h.lo hs hl) k) ?_;exact ar (c:=rfl)
theorem p_rgvalid {r:Rgm} {n s:Nat} (h:r.Va n s):PCalls Tryz.prog TU 72 [rgP r,iP n] (bP true):=by
 refine pcA [30,3,35] Tryz.func72 (fun D=>?_);refine akF (c:=by exact (show _=false from df (by have:=h.i0;omega))) ?_;refine akF (c:=by exact (show _=false from df (by have:=h.i9;omega))) ?_;refine akF (c:=by exact (show _=false from by rw[List.length_map,h.lo];exact bne_self_eq_false _)) ?_;refine akF (c:=by exact (show _=false from by rw[List.length_map,h.hi];exact bne_self_eq_false _)) ?_;refine akF (c:=by exact (show _=false from df (by have:=h.r9;rw[List.length_map];omega))) ?_;refine au ?_;refine pl (ι:={i:Nat // i≤r.lo.length}) (fun i=>[(2,.box 2 0),(3,.box 3 0),(4,.pv (bP false)),(34,.pv (ratsP r.lo)),(35,.pv (iP ((r.lo.map qC).length:Int))),(36,.pv (iP i.1))]) (fun _=>[(2,.box 30 [.pv (ratsP r.lo),.pv (ratsP r.hi),.pv (formsP r.rows)]),(3,.box 3 [.pv (iP n)])]) [30,3,35] (fun i=>r.lo.length - i.1) ⟨0,nq _⟩ (c6 Y Y Y Y Y Y trivial) (c2 Y Y trivial) (fun _=>rfl) ?_;intro ⟨i,hi⟩;refine a2 (fun e37=>?_) (fun e37=>?_)
 ·have h1:i < r.lo.length:=lt_of e37;have h2:i < r.hi.length:=by have:=h.lo;have:=h.hi;omega
  have hlo:=h.los _ (mg (get_of h1));have hhi:=h.his _ (mg (get_of h2));have hs9:=h.s9;refine ax (c:=(getmap (get_of h1))) ?_;refine ac (c:=p_valid (hlo.sm om) hlo.ok) ?_;refine ax (c:=(getmap (get_of h2))) ?_;refine ac (c:=p_valid (hhi.sm om) hhi.ok) ?_;refine ax (c:=(getmap (get_of h2))) ?_;refine ac (c:=p_cmp (hlo.sm om) (hhi.sm om)) ?_;refine akF (c:=by exact (show _=false from df (by have:=(h.le i _ _ (get_of h1) (get_of h2)).2;omega))) ?_;refine aa (c:=ari_succ (by have:=h.i9;have:=h.lo;show i≤_;omega)) ?_;refine au ?_;exact pe ⟨i+1,h1⟩ (c6 Y Y Y Y Y Y trivial) (c2 Y Y trivial) Y (by show r.lo.length - (i+1) < r.lo.length - i;omega)
 ·refine au ?_;refine rmk Y Y Y Y ?_;refine ac (c:=p_containsA (F:=fun _=>false) (by have:=h.r9;omega) fun f hf=>p_rgclo (h.rows f hf).2 (by have:=h.s9;omega) (by have:=h.i9;omega) (h.rows f hf).1) ?_;exact ar (c:=congrArg bP (by rw[any_no];rfl))
theorem p_qvalid {q:Qr} {s:Nat} (h:q.Va s) (h4:q.g.inputs+q.g.units.length≤400):PCalls Tryz.prog TU 35 [qyP q] (bP true):=by
 refine pcA [39] Tryz.func35 (fun D=>?_);refine ac (c:=p_gvalid h.g) ?_;refine ac (c:=p_rgvalid h.rg) ?_;refine aa (c:=ari_addN (by have:=h.rg.i9;omega) (by rw[List.length_map];have:=h.g.u9;omega)) ?_;refine ac (c:=p_lvalid (v:=q.g.inputs+(q.g.units.map fmC).length) (h.goal.lo (by have:=h.rg.s9;omega) h4) (by rw[List.length_map];exact h.ok)) ?_;exact ar (c:=rfl)
abbrev tblF:List Value:=.nilFunc::(List.replicate 4 (.func (.func 227) #[] #[])++List.replicate 9 (.func (.func 228) #[] #[]))
theorem tbl_in {k:Int} (h1:1≤k) (h2:k < 5):(tblF.map fun v=>SV.pv (.raw v))[0+k.toNat]?=some (.pv (.raw (.func (.func 227) #[] #[]))):=by
 have:k=1∨k=2∨k=3∨k=4:=by omega
 rcases this with rfl | rfl | rfl | rfl<;>rfl
theorem tbl_un {k:Int} (h1:5≤k) (h2:k < 14):(tblF.map fun v=>SV.pv (.raw v))[0+k.toNat]?=some (.pv (.raw (.func (.func 228) #[] #[]))):=by
 have:k=5∨k=6∨k=7∨k=8∨k=9∨k=10∨k=11∨k=12∨k=13:=by omega
 rcases this with rfl | rfl | rfl | rfl | rfl | rfl | rfl | rfl | rfl<;>rfl
theorem formR_no {s:Sc} {r:Rw} (h:r.kind < 1∨14≤r.kind):formR s r=(Fm.zero,false):=by
 rcases h with h | h
 ·have h5:decide (5≤r.kind)=false:=df om;have h1:(r.kind == 1)=false:=beq_eq_false_iff_ne.2 om;have h2:(r.kind == 2)=false:=beq_eq_false_iff_ne.2 om;have h3:(r.kind == 3)=false:=beq_eq_false_iff_ne.2 om;have h4:(r.kind == 4)=false:=beq_eq_false_iff_ne.2 om;unfold formR;rw[h5];simp only[h1,h2,h3,h4,cond_false];cases r.lo != 0||(r.hi != 0||decide (r.index < 0))<;>rfl
 ·have h5:decide (5≤r.kind)=true:=dt om;unfold formR;rw[h5];unfold unitQ unitF;have e:∀k:Int,k < 14→(r.kind == k)=false:=fun k hk=>beq_eq_false_iff_ne.2 om
  simp only[e 5 dx,e 6 dx,e 7 dx,e 8 dx,e 9 dx,e 10 dx,e 11 dx,e 12 dx,e 13 dx,cond_false,cond_true];simp
theorem p_formIn {s:Sc} {a b:Nat} {r:Rw} (h:s.Va a b) (h1:1≤r.kind) (h2:r.kind < 5):PCalls Tryz.prog TF 190 [scP s,rwP r] (.tup [fmP (formR s r).1,bP (formR s r).2]):=by
 refine pcA [85,96,37,320] Tryz.func190 (fun D=>?_);refine pa Y Y (pr0 (ro0 Y Y Y (fun hd=>opE_arr (n:=14) (e:=270) (us:=tblF) (zs:=List.replicate 14 .nilFunc) Y (by kernel_rfl) (by kernel_rfl) (by kernel_rfl) (by rfl) (by rfl) hd) ?_));refine akF (c:=by exact (show _=false from df om)) ?_;refine akF (c:=by exact (show _=false from df om)) ?_;refine ac (c:=p_qvalid h.q (by have:=h.n9;omega)) ?_;refine qg 2 ?_;refine rn Y (pj Y ?_);refine pk (pr0 (qg 2 ?_));refine ro0 Y Y Y (fun hd=>opE_idxA (n:=14) (e:=270) Y (by kernel_rfl) (by kernel_rfl) Y Y (show r.kind=(r.kind.toNat:Int) by omega) om hd) ?_;refine ro0 Y Y Y (fun hd=>opE_loadB tab_ok Y Y Y Y Y (tbl_in om h2) hd) ?_;refine qg 2 ?_;refine rcr (p_input h (df om)) Y Y Y Y Y Y Y Y Y ?_;exact ar (c:=rfl)
theorem p_formUn {s:Sc} {a b:Nat} {r:Rw} (h:s.Va a b) (h1:5≤r.kind) (h2:r.kind < 14):PCalls Tryz.prog TF 190 [scP s,rwP r] (.tup [fmP (formR s r).1,bP (formR s r).2]):=by
 rw[show formR s r=unitQ s r from by unfold formR;rw[dt (show (5:Int)≤r.kind from h1)];rfl];refine pcA [85,96,37,320] Tryz.func190 (fun D=>?_);refine pa Y Y (pr0 (ro0 Y Y Y (fun hd=>opE_arr (n:=14) (e:=270) (us:=tblF) (zs:=List.replicate 14 .nilFunc) Y (by kernel_rfl) (by kernel_rfl) (by kernel_rfl) (by rfl) (by rfl) hd) ?_));refine akF (c:=by exact (show _=false from df om)) ?_;refine akF (c:=by exact (show _=false from df om)) ?_;refine ac (c:=p_qvalid h.q (by have:=h.n9;omega)) ?_;refine qg 2 ?_;refine rn Y (pj Y ?_);refine pk (pr0 (qg 2 ?_));refine ro0 Y Y Y (fun hd=>opE_idxA (n:=14) (e:=270) Y (by kernel_rfl) (by kernel_rfl) Y Y (show r.kind=(r.kind.toNat:Int) by omega) om hd) ?_;refine ro0 Y Y Y (fun hd=>opE_loadB tab_ok Y Y Y Y Y (tbl_un om h2) hd) ?_;refine qg 2 ?_;refine rcr (p_unit h) Y Y Y Y Y Y Y Y Y ?_;exact ar (c:=rfl)
theorem p_formLt {s:Sc} {r:Rw} (h1:r.kind < 1):PCalls Tryz.prog TF 190 [scP s,rwP r] (.tup [fmP Fm.zero,bP false]):=by
 refine pcA [85,96,37,320] Tryz.func190 (fun D=>?_);refine pa Y Y (pr0 (ro0 Y Y Y (fun hd=>opE_arr (n:=14) (e:=270) (us:=tblF) (zs:=List.replicate 14 .nilFunc) Y (by kernel_rfl) (by kernel_rfl) (by kernel_rfl) (by rfl) (by rfl) hd) ?_));refine akT (c:=by exact (show _=true from dt om)) ?_;exact ar (c:=rfl)
theorem p_formGt {s:Sc} {r:Rw} (h1:14≤r.kind):PCalls Tryz.prog TF 190 [scP s,rwP r] (.tup [fmP Fm.zero,bP false]):=by
 refine pcA [85,96,37,320] Tryz.func190 (fun D=>?_);refine pa Y Y (pr0 (ro0 Y Y Y (fun hd=>opE_arr (n:=14) (e:=270) (us:=tblF) (zs:=List.replicate 14 .nilFunc) Y (by kernel_rfl) (by kernel_rfl) (by kernel_rfl) (by rfl) (by rfl) hd) ?_));refine akF (c:=by exact (show _=false from df om)) ?_;refine akT (c:=by exact (show _=true from dt om)) ?_;exact ar (c:=rfl)
theorem p_form {s:Sc} {a b:Nat} (r:Rw) (h:s.Va a b):PCalls Tryz.prog TF 190 [scP s,rwP r] (.tup [fmP (formR s r).1,bP (formR s r).2]):=by
 by_cases h1:r.kind < 1
 ·rw[formR_no (.inl h1)];exact p_formLt h1
 ·by_cases h2:14≤r.kind
  ·rw[formR_no (.inr h2)];exact p_formGt h2
  ·by_cases h3:r.kind < 5
   ·exact p_formIn h om h3
   ·exact p_formUn h om om
abbrev intsP (l:List Int):PV:=.rows 3 1 [] (l.map fun x=>[iP x])
def cmpZ (x y:Int):Int:=bif decide (x < y) then -1 else bif decide (y < x) then 1 else 0
def orZ:List Int→Int
 | []=>0
 | x::l=>bif x != 0 then x else orZ l
def cmpRw (a b:Rw):Int:=orZ [cmpZ a.kind b.kind,cmpZ a.index b.index,cmpZ a.lo b.lo,cmpZ a.hi b.hi]
theorem cmpZ_ne {x y:Int}:(cmpZ x y != 0)=(x != y):=by
 unfold cmpZ;by_cases h1:x < y
 ·rw[dt h1];have:x≠y:=by omega
  simp[this]
 ·rw[df h1];by_cases h2:y < x
  ·rw[dt h2];have:x≠y:=by omega
   simp[this]
  ·rw[df h2];have:x=y:=by omega
   simp[this]
theorem cmpZ_ge {x y:Int}:decide (0≤cmpZ x y)=!decide (x < y):=by
 unfold cmpZ;by_cases h1:x < y
 ·rw[dt h1];rfl
 ·rw[df h1];cases decide (y < x)<;>rfl
theorem cmpRw_ge {a b:Rw}:decide (0≤cmpRw a b)=!lessR a b:=by
 unfold cmpRw lessR orZ orZ orZ orZ orZ;simp only[cmpZ_ne];cases a.kind != b.kind
 ·cases a.index != b.index
  ·cases a.lo != b.lo
   ·cases h:a.hi != b.hi
    ·have e:a.hi=b.hi:=by simpa using h
     simp[e]
    ·exact cmpZ_ge
   ·exact cmpZ_ge
  ·exact cmpZ_ge
 ·exact cmpZ_ge
theorem orZ_hit {l:List Int} {i:Nat} (h:orZ (l.drop i)=orZ l) (hi:i < l.length) (hF:(atZ l (i:Int) != 0)=true):atZ l (i:Int)=orZ l:=by
 have e:l.drop i=atZ l (i:Int)::l.drop (i+1):=by rw[atZ_nat (ge hi),List.drop_eq_getElem_cons hi]
 rw[e,orZ,hF] at h;exact h
theorem orZ_step {l:List Int} {i:Nat} (h:orZ (l.drop i)=orZ l) (hi:i < l.length) (hF:(atZ l (i:Int) != 0)=false):orZ (l.drop (i+1))=orZ l:=by
 have e:l.drop i=atZ l (i:Int)::l.drop (i+1):=by rw[atZ_nat (ge hi),List.drop_eq_getElem_cons hi]
 rw[e,orZ,hF] at h;exact h
theorem orZ_end {l:List Int} {i:Nat} (h:orZ (l.drop i)=orZ l) (hi:l.length≤i):(0:Int)=orZ l:=by
 rw[List.drop_of_length_le hi] at h;exact h
theorem p_nan (x:Int):PCalls Tryz.prog [] 336 [iP x] (bP false):=by
 refine pcA [] Tryz.func336 (fun D=>?_);exact ar (c:=congrArg bP (by simp))
theorem p_cmpZ (x y:Int):PCalls Tryz.prog [] 274 [iP x,iP y] (iP (cmpZ x y)):=by
 refine pcA [] Tryz.func274 (fun D=>?_);refine ac (c:=p_nan x) ?_;refine ac (c:=p_nan y) ?_;refine a2 (fun e16=>?_) (fun e16=>?_)
 ·exact ar (c:=by (try simp only[List.length_map] at *);simp only[cmpZ,e16,sb]<;>rfl)
 ·refine a2 (fun e19=>?_) (fun e19=>?_)
  ·exact ar (c:=by (try simp only[List.length_map] at *);simp only[cmpZ,e16,e19,sb]<;>rfl)
  ·exact ar (c:=by (try simp only[List.length_map] at *);simp only[cmpZ,e16,e19,sb]<;>rfl)
theorem p_orZ {l:List Int} (hl:l.length≤1000):PCalls Tryz.prog [] 273 [intsP l] (iP (orZ l)):=by
 refine pcA [] Tryz.func273 (fun D=>?_);refine au ?_;refine pl (ι:={i:Nat // i≤l.length∧orZ (l.drop i)=orZ l}) (fun i=>[(2,.pv (iP 0)),(3,.pv (iP 0)),(6,.pv (intsP l)),(7,.pv (iP ((l.map fun x=>[iP x]).length:Int))),(8,.pv (iP i.1))]) (fun _=>[]) [] (fun i=>l.length - i.1) ⟨0,nq _,rfl⟩ (c5 Y Y Y Y Y trivial) trivial (fun _=>rfl) ?_;intro ⟨i,hi0,hg⟩;refine a2 (fun e9=>?_) (fun e9=>?_)
 ·have hi:i < l.length:=lt_of e9;refine ax (c:=(getmap (f:=fun x=>[iP x]) (get_of hi))) ?_;refine a2 (fun e14=>?_) (fun e14=>?_)
  ·exact ar (c:=congrArg iP (orZ_hit hg hi e14))
  ·refine aa (c:=ari_succ (by show i≤_;omega)) ?_;refine au ?_;exact pe ⟨i+1,hi,orZ_step hg hi e14⟩ (c5 Y Y Y Y Y trivial) trivial Y (by show l.length - (i+1) < l.length - i;omega)
 ·have hj:l.length≤i:=ge_of e9;exact ar (c:=congrArg iP (orZ_end hg hj))
theorem p_compare {a b:Rw}:PCalls Tryz.prog [] 226 [rwP a,rwP b] (iP (cmpRw a b)):=by
 refine pcA [96] Tryz.func226 (fun D=>?_);refine ac (c:=p_cmpZ _ _) ?_;refine ac (c:=p_cmpZ _ _) ?_;refine ac (c:=p_cmpZ _ _) ?_;refine ac (c:=p_cmpZ _ _) ?_;refine ac (c:=p_orZ (l:=[cmpZ a.kind b.kind,cmpZ a.index b.index,cmpZ a.lo b.lo,cmpZ a.hi b.hi]) (by simp)) ?_;exact ar (c:=rfl)
theorem p_canonical {l:List Mm} {n:Nat} (h:∀m∈l,m.2.S n) (hn:n≤10000) (hl:l.length≤1000):PCalls Tryz.prog [] 189 [mmsP l] (bP (canonR l)):=by
 refine pcA [98] Tryz.func189 (fun D=>?_);refine au ?_;refine pl (ι:={i:Nat // i≤l.length∧∀j,j < i→badM l j=false}) (fun i=>[(0,.pv (mmsP l)),(2,.pv (bP false)),(5,.pv (mmsP l)),(6,.pv (iP ((l.map mmC).length:Int))),(7,.pv (iP i.1))]) (fun _=>[]) [98] (fun i=>l.length - i.1) ⟨0,nq _,fun j hj=>by omega⟩ (c5 Y Y Y Y Y trivial) trivial (fun _=>rfl) ?_;intro ⟨i,hi0,hnb⟩;refine a2 (fun e8=>?_) (fun e8=>?_)
 ·have hi:i < l.length:=lt_of e8;have hm:=h _ (mg (get_of hi));refine ax (c:=(getmap (get_of hi))) ?_;refine ac (c:=p_sgn (hm.sm hn)) ?_;refine a2 (fun e16=>?_) (fun e16=>?_)
  ·exact ar (c:=by rw[canon_bad hi (by simp only[badM,← cmpRw_ge,e8,e16,sb])])
  ·refine ac (c:=p_valid (hm.sm hn) hm.ok) ?_;refine a2 (fun e25=>?_) (fun e25=>?_)
   ·refine aa (c:=ari_pred e25 (by show i≤_;omega)) ?_;refine ax (c:=(getmap (get_of (show i - 1 < l.length by omega)))) ?_;refine ac (c:=p_compare) ?_;refine a2 (fun e37=>?_) (fun e37=>?_)
    ·exact ar (c:=by rw[canon_bad hi (by simp only[badM,← cmpRw_ge,e8,e16,e25,e37,sb])])
    ·refine aa (c:=ari_succ (by show i≤_;omega)) ?_;refine au ?_;exact pe ⟨i+1,hi,all_succ hnb (by simp only[badM,← cmpRw_ge,e8,e16,e25,e37,sb])⟩ (c5 Y Y Y Y Y trivial) trivial Y (by show l.length - (i+1) < l.length - i;omega)
   ·refine aa (c:=ari_succ (by show i≤_;omega)) ?_;refine au ?_;exact pe ⟨i+1,hi,all_succ hnb (by simp only[badM,← cmpRw_ge,e8,e16,e25,sb])⟩ (c5 Y Y Y Y Y trivial) trivial Y (by show l.length - (i+1) < l.length - i;omega)
 ·have hj:l.length≤i:=ge_of e8;exact ar (c:=by rw[canon_all hnb hj])
end Go.Proofs.YtbhbainhmfjpdaaGreatDoor
