/- Walks of the search and of what it calls, part 9. -/
import Derived.Test.YtbhbainhmfjpdaaGreatDoorMh
import Derived.Deep.MidRow
set_option linter.unusedVariables false
set_option linter.unusedSimpArgs false
set_option maxRecDepth 100000
set_option maxHeartbeats 8000000
namespace Go.Proofs.YtbhbainhmfjpdaaGreatDoor
open Go.RowKit
def TysOk (st:St) (tys:List Nat):Prop:=∀i r,st.res i=some r→r.typ∈tys
def looks (o:Oper):List Nat:=o.op.operands.toList.filterMap fun | .tmp t=>some t | _=>none
def OpE (C:Cx) (tys:List Nat) (o:Oper) (st:St) (e:Eff):Prop:=
 (∀i r,e.rs=some (i,r)→i∈e.rb∧r.typ∈tys)∧
 ∀st1,(∀t∈looks o,st1.slot t=st.slot t)→(∀i∈e.rb,st1.res i=st.res i)→TysOk st1 tys→∀a w,Inv C st1 a w→doesAt C.P o a w fun v w'=>Inv C (e.app o.dst st1) (a.put o.dst v) w'
def skipE:Eff:=⟨.pv (.raw undef),none,[],false⟩
def wantB (want:Bool):Option SV→Option Bool
 | some (.pv (.raw (.bool c)))=>some (c == want)
 | some (.pv (.raw (.tuple _)))=>some false
 | _=>none
def wantS (ops:Array Oper) (o:Oper) (st:St):Option Bool:=match o.guard with
 | none=>some true
 | some (g,want)=>match (ops[g]?).bind (·.dst) with
  | some d=>wantB want (st.slot d)
  | none=>none
def SV.isAny:SV→Bool
 | .any=>true
 | _=>false
def Res.noAny:Res→Bool
 | .box _ cs=>cs.all fun c=>!c.isAny
 | _=>true
def CovP (l:List Nat) (o:Oper) (st:St) (rb:List Nat):Prop:=(∀t∈looks o,∀s,st.slot t=some s→s.isAny=false∧∀i∈s.ids,i∈l)∧∀j∈rb,∀r,st.res j=some r→r.noAny=true∧∀i∈r.ids,i∈l
def covL (o:Oper) (st:St) (rb:List Nat):Option (List Nat):=
 bif ((looks o).all fun t=>match st.slot t with
  | some s=>!s.isAny
  | none=>true)&&rb.all fun j=>match st.res j with
  | some r=>r.noAny
  | none=>true
 then some (((looks o).flatMap fun t=>match st.slot t with
  | some s=>s.ids
  | none=>[])++rb.flatMap fun j=>match st.res j with
  | some r=>r.ids
  | none=>[]) else none
theorem covL_ok {o:Oper} {st:St} {rb l:List Nat} (h:covL o st rb=some l):CovP l o st rb:=by
 unfold covL at h;cases hb:((looks o).all fun t=>match st.slot t with
  | some s=>!s.isAny
  | none=>true)&&rb.all fun j=>match st.res j with
  | some r=>r.noAny
  | none=>true with
 | false=>rw[hb] at h;cases h
 | true=>
  rw[hb] at h;injection h with h;subst h;rw[be,List.all_eq_true,List.all_eq_true] at hb;refine⟨fun t ht s hs=>⟨?_,fun i hi=>List.mem_append_left _ (List.mem_flatMap.2 ⟨t,ht,by rw[hs];exact hi⟩)⟩,fun j hj r hr=>⟨?_,fun i hi=>List.mem_append_right _ (List.mem_flatMap.2 ⟨j,hj,by rw[hr];exact hi⟩)⟩⟩
  ·have:=hb.1 t ht;rw[hs] at this;simpa using this
  ·have:=hb.2 j hj;rw[hr] at this;exact this
structure Itm where
 k:Nat
 b:Bool
 e:Eff
 lk:Option (List Nat)
def RunL (C:Cx) (tys:List Nat) (ops:Array Oper):List Itm→St→St→Prop
 | [],st,st'=>st=st'
 | x::r,st,st'=>∃o,ops[x.k]?=some o∧wantS ops o st=some x.b∧(x.b=true→OpE C tys o st x.e)∧(x.b=false→x.e=skipE)∧(∀d,o.dst=some d→d < C.N)∧(∀l,x.lk=some l→CovP l o st x.e.rb)∧RunL C tys ops r (x.e.app o.dst st) st'
section
variable {C:Cx} {tys:List Nat} {ops:Array Oper} {st st':St} {a:Act} {w:World} {e:Eff} {dst d:Option Nat} {o:Oper} {t i:Nat} {r:Res} {x:Itm}
theorem app_tys (h:TysOk st tys) (he:∀i r,e.rs=some (i,r)→r.typ∈tys):TysOk (e.app dst st) tys:=fun i r hr=>by
 simp only[Eff.app] at hr;cases hs:e.rs with
 | none=>rw[hs] at hr;exact h i r hr
 | some p=>
  obtain⟨j,q⟩:=p;rw[hs] at hr;cases hb:Nat.beq i j with
  | true=>
   simp only[hb,cond_true,oq] at hr;subst hr;exact he j q hs
  | false=>
   simp only[hb,cond_false] at hr;cases hk:e.kt with
   | false=>
    simp only[hk,cond_false] at hr;exact h i r hr
   | true=>
    simp only[hk,cond_true] at hr;cases hh:st.res i with
    | none=>rw[hh] at hr;cases hr
    | some r'=>
     rw[hh] at hr;injection hr with hr;subst hr;have:=h i r' hh;cases r'<;>exact this
theorem wanted_of (h:Inv C st a w) {b:Bool} (hw:wantS ops o st=some b):Region.wanted o (yielded ops a.tmps)=b:=by
 obtain⟨B,T,h⟩:=h;unfold wantS at hw;unfold Region.wanted;cases hg:o.guard with
 | none=>rw[hg] at hw;injection hw
 | some p=>
  obtain⟨g,want⟩:=p;simp only[hg] at hw ⊢;cases hd:(ops[g]?).bind (·.dst) with
  | none=>rw[hd] at hw;cases hw
  | some d=>
   simp only[hd] at hw;unfold yielded;rw[hd];have hlt:∀v,a.tmps.getD d undef=v→v≠undef→a.tmps[d]?=some v:=fun v e hne=>by
    rcases Nat.lt_or_ge d a.tmps.size with h1 | h1
    ·simp[Array.getD_eq_getD_getElem?,h1] at e;simp[h1,e]
    ·simp[Array.getD_eq_getD_getElem?,h1] at e;exact absurd e.symm hne
   cases hs:st.slot d with
   | none=>rw[hs] at hw;cases hw
   | some s=>
    have hr:=h.slot d s hs;rw[hs] at hw;unfold wantB at hw;split at hw
    ·rename_i c e
     injection e with e;subst e;rw[SV.Rep,PV.Rep] at hr;injection hw with hw;have:=hlt _ hr (by unfold undef;intro e;cases e);simp only[Option.bind_some,this];rw[← hw];cases c<;>cases want<;>rfl
    ·rename_i c e
     injection e with e;subst e;rw[SV.Rep,PV.Rep] at hr;injection hw with hw;subst hw;simp only[Option.bind_some];rcases Nat.lt_or_ge d a.tmps.size with h1 | h1
     ·simp[Array.getD_eq_getD_getElem?,h1] at hr;simp[h1,hr]
     ·simp[h1]
    ·cases hw
theorem inv_skip (h:Inv C st a w) (hd:∀d,dst=some d→d < C.N):Inv C (skipE.app dst st) (a.put dst undef) w:=by
 obtain⟨B,T,h⟩:=h;exact inv_val h (Gr.refl w) (s:=.pv (.raw undef)) (by rw[SV.Rep,PV.Rep]) (fun i hi=>by cases (show i∈([]:List Nat) from hi)) hd
theorem runPlain {Q:Exit→Act→World→Prop}:∀(L:List Itm) {st:St} {a:Act} {w:World},RunL C tys ops L st st'→TysOk st tys→Inv C st a w→(∀a w,TysOk st' tys→Inv C st' a w→Q .normal a w)→wpOps C.P ops Q (L.map (·.k)) a w
 | [],st,a,w,h,ht,hi,hq=>by
  rw[RunL] at h;subst h;exact hq a w ht hi
 | x::L,st,a,w,h,ht,hi,hq=>by
  rw[RunL] at h;obtain⟨o,ho,hw,h1,h2,hd,_,h3⟩:=h;simp only[List.map_cons,wpOps,ho,wanted_of hi hw];cases hb:x.b with
  | true=>
   obtain⟨h4,h5⟩:=h1 hb;simp only[if_true];refine .inl (doesAt_wp (h5 st (fun _ _=>rfl) (fun _ _=>rfl) ht a w hi) fun v w' hv=>?_);exact runPlain L h3 (app_tys ht fun i r e=>(h4 i r e).2) hv hq
  | false=>
   have:=h2 hb;rw[this] at h3;simp only[Bool.false_eq_true,if_false];exact runPlain L h3 (app_tys ht fun i r e=>by cases e) (inv_skip hi hd) hq
def Eff.own (e:Eff):List Nat:=e.rb++(e.s.ids++match e.rs with
 | some (i,r)=>i::r.ids
 | none=>[])
def Itm.free (y x:Itm):Bool:=(match y.e.rs with | some (i,_)=>!x.e.rb.contains i | none=>true)&&(match x.e.rs with | some (i,_)=>!y.e.rb.contains i | none=>true)&&(match y.e.kt,x.e.kt with
 | false,false=>true
 | true,true=>false
 | true,false=>(match y.e.rs,x.lk with
  | some (i,_),some l=>!l.contains i&&!x.e.own.contains i
  | _,_=>false)
 | false,true=>(match x.e.rs,y.lk with
  | some (i,_),some l=>!l.contains i&&!y.e.own.contains i
  | _,_=>false))
theorem slot_app (hk:e.kt=false) (ht:∀d,dst=some d→t≠d):(e.app dst st).slot t=st.slot t:=by
 have ho:e.old st t=st.slot t:=by
  unfold Eff.old;rw[hk];split<;>rfl
 simp only[Eff.app];cases dst with
 | none=>exact ho
 | some d=>
  simp only[nbeq_ne (ht d rfl),cond_false];exact ho
theorem slot_kt (hr:e.rs=some (i,r)) (hk:e.kt=true) (ht:∀d,dst=some d→t≠d):(e.app dst st).slot t=optKill i (st.slot t):=by
 have ho:e.old st t=optKill i (st.slot t):=by unfold Eff.old;rw[hr,hk];rfl
 simp only[Eff.app];cases dst with
 | none=>exact ho
 | some d=>
  simp only[nbeq_ne (ht d rfl),cond_false];exact ho
theorem res_app (hk:e.kt=false) (hi:∀j r,e.rs=some (j,r)→i≠j):(e.app dst st).res i=st.res i:=by
 simp only[Eff.app];split
 ·rename_i j r hs
  simp only[nbeq_ne (hi j r hs),hk,cond_false]
 ·rfl
theorem res_kt (hr:e.rs=some (i,r)) (hk:e.kt=true) {j:Nat} (hj:j≠i):(e.app dst st).res j=resKill i (st.res j):=by
 simp only[Eff.app,hr,nbeq_ne hj,hk,cond_false,cond_true]
theorem idsL_mem':∀{cs:List SV} {c:SV} {i:Nat},c∈cs→i∈c.ids→i∈SV.idsL cs
 | d::cs,c,i,h,hi=>by
  rw[SV.idsL];rcases List.mem_cons.1 h with e | e
  ·exact List.mem_append_left _ (e▸hi)
  ·exact List.mem_append_right _ (idsL_mem' e hi)
theorem kill_self {s:SV} (h:i ∉ s.ids):s.kill i=s:=by
 unfold SV.kill;rw[show s.ids.contains i=false from by simpa using h];rfl
theorem kill_any {s:SV} (h:(s.kill i).isAny=false):s.kill i=s:=by
 unfold SV.kill at h ⊢;cases hc:s.ids.contains i with
 | true=>rw[hc] at h;cases h
 | false=>rfl
theorem rkill_self (h:i ∉ r.ids):r.kill i=r:=by
 cases r with
 | tok e k ts xs=>rfl
 | box ty cs=>
  rw[Res.ids] at h;rw[Res.kill]
  congr 1
  exact (List.map_congr_left (f:=SV.kill i) (g:=id) fun c hc=>kill_self fun hi=>h (idsL_mem' hc hi)).trans (List.map_id _)
theorem rkill_any (h:(r.kill i).noAny=true):r.kill i=r:=by
 cases r with
 | tok e k ts xs=>rfl
 | box ty cs=>
  rw[Res.kill,Res.noAny,List.all_map,List.all_eq_true] at h;rw[Res.kill]
  congr 1
  exact (List.map_congr_left (f:=SV.kill i) (g:=id) fun c hc=>kill_any (by have:=h c hc;simpa using this)).trans (List.map_id _)
theorem OpE.move {st st':St} (h:OpE C tys o st e) (h1:∀t∈looks o,st'.slot t=st.slot t) (h2:∀i∈e.rb,st'.res i=st.res i):OpE C tys o st' e:=
 ⟨h.1,fun st1 k1 k2=>h.2 st1 (fun t ht=>(k1 t ht).trans (h1 t ht)) fun i hi=>(k2 i hi).trans (h2 i hi)⟩
theorem CovP.move {l:List Nat} {rb:List Nat} {st st':St} (h:CovP l o st rb) (h1:∀t∈looks o,st'.slot t=st.slot t) (h2:∀i∈rb,st'.res i=st.res i):CovP l o st' rb:=
 ⟨fun t ht s hs=>h.1 t ht s ((h1 t ht).symm.trans hs),fun j hj r hr=>h.2 j hj r ((h2 j hj).symm.trans hr)⟩
theorem st_ext:∀a b:St,(∀t,a.slot t=b.slot t)→(∀i,a.res i=b.res i)→a.tys=b.tys→a=b:=fun a b h k l=>by
 obtain⟨s,r,t⟩:=a;obtain⟨s',r',t'⟩:=b;simp only at h k l;rw[funext h,funext k,l]
theorem slot_dst {d:Nat}:(e.app (some d) st).slot d=some e.s:=by simp only[Eff.app,Nat.beq_refl,cond_true]
theorem res_rs (hr:e.rs=some (i,r)):(e.app dst st).res i=some r:=by simp only[Eff.app,hr,Nat.beq_refl,cond_true]
theorem app_comm {f:Eff} {c:Option Nat} (h1:e.kt=false) (h2:f.kt=false) (hd:∀x,d=some x→c≠some x) (hr:∀i r j q,e.rs=some (i,r)→f.rs=some (j,q)→i≠j):e.app d (f.app c st)=f.app c (e.app d st):=by
 have slot:∀t,(e.app d (f.app c st)).slot t=(f.app c (e.app d st)).slot t:=fun t=>by
  by_cases td:d=some t
  ·rw[slot_app (st:=e.app d st) h2 (fun x hx e=>hd t td (by rw[hx,e]))];subst td;simp only[Eff.app,Nat.beq_refl,cond_true]
  ·rw[slot_app h1 (fun x hx e=>td (by rw[hx,e]))];by_cases tc:c=some t
   ·subst tc;simp only[Eff.app,Nat.beq_refl,cond_true]
   ·rw[slot_app h2 (fun x hx e=>tc (by rw[hx,e])),slot_app h2 (fun x hx e=>tc (by rw[hx,e])),slot_app h1 (fun x hx e=>td (by rw[hx,e]))]
 have res:∀i,(e.app d (f.app c st)).res i=(f.app c (e.app d st)).res i:=fun i=>by
  by_cases ti:∃r,e.rs=some (i,r)
  ·obtain⟨r,hr1⟩:=ti;rw[res_app (st:=e.app d st) h2 (fun j q hq=>hr i r j q hr1 hq)];simp only[Eff.app,hr1,Nat.beq_refl,cond_true]
  ·rw[res_app h1 (fun j q hq e=>ti ⟨q,by rw[e];exact hq⟩)];by_cases tj:∃r,f.rs=some (i,r)
   ·obtain⟨r,hr1⟩:=tj;simp only[Eff.app,hr1,Nat.beq_refl,cond_true]
   ·rw[res_app h2 (fun j q hq e=>tj ⟨q,by rw[e];exact hq⟩),res_app h2 (fun j q hq e=>tj ⟨q,by rw[e];exact hq⟩),res_app h1 (fun j q hq e=>ti ⟨q,by rw[e];exact hq⟩)]
 exact st_ext _ _ slot res rfl
theorem app_comm2 {f:Eff} {c:Option Nat} (h1:e.kt=true) (hrs:e.rs=some (i,r)) (h2:f.kt=false) (hd:∀x,d=some x→c≠some x) (hn:i ∉ f.own):e.app d (f.app c st)=f.app c (e.app d st):=by
 have ns:i ∉ f.s.ids:=fun h=>hn (List.mem_append_right _ (List.mem_append_left _ h))
 have nr:∀j q,f.rs=some (j,q)→i≠j∧i ∉ q.ids:=fun j q hq=>by
  unfold Eff.own at hn;rw[hq] at hn;simp only[List.mem_append,List.mem_cons,not_or] at hn;exact hn.2.2
 have slot:∀t,(e.app d (f.app c st)).slot t=(f.app c (e.app d st)).slot t:=fun t=>by
  by_cases td:d=some t
  ·rw[slot_app (st:=e.app d st) h2 (fun x hx e=>hd t td (by rw[hx,e]))];subst td;rw[slot_dst,slot_dst]
  ·rw[slot_kt hrs h1 (fun x hx e=>td (by rw[hx,e]))];by_cases tc:c=some t
   ·subst tc;rw[slot_dst,slot_dst];show some (f.s.kill i)=_;rw[kill_self ns]
   ·rw[slot_app h2 (fun x hx e=>tc (by rw[hx,e])),slot_app h2 (fun x hx e=>tc (by rw[hx,e])),slot_kt hrs h1 (fun x hx e=>td (by rw[hx,e]))]
 have res:∀j,(e.app d (f.app c st)).res j=(f.app c (e.app d st)).res j:=fun j=>by
  by_cases ji:j=i
  ·subst ji;rw[res_app (st:=e.app d st) h2 (fun k q hq=>(nr k q hq).1),res_rs hrs,res_rs hrs]
  ·rw[res_kt hrs h1 ji];by_cases tj:∃q,f.rs=some (j,q)
   ·obtain⟨q,hq⟩:=tj;rw[res_rs hq,res_rs hq];show some (q.kill i)=_;rw[rkill_self (nr j q hq).2]
   ·rw[res_app h2 (fun k q hq e=>tj ⟨q,by rw[e];exact hq⟩),res_app h2 (fun k q hq e=>tj ⟨q,by rw[e];exact hq⟩),res_kt hrs h1 ji]
 exact st_ext _ _ slot res rfl
theorem wantB_kill {want:Bool} {s:Option SV}:wantB want (optKill i s)=wantB want s:=by
 cases s with
 | none=>rfl
 | some s=>
  show wantB want (some (s.kill i))=_;unfold SV.kill;cases hc:s.ids.contains i with
  | false=>rfl
  | true=>
   cases s with
   | pv p=>cases (show ([]:List Nat).contains i=true from hc)
   | _=>rfl
theorem wantS_app (hk:e.kt=true→∃i r,e.rs=some (i,r)) (hd:∀x,d=some x→x ∉ o.looksAt ops):wantS ops o (e.app d st)=wantS ops o st:=by
 unfold wantS;cases hg:o.guard with
 | none=>rfl
 | some p=>
  obtain⟨g,want⟩:=p;simp only;cases hc:(ops[g]?).bind (·.dst) with
  | none=>rfl
  | some c=>
   simp only;have hne:∀x,d=some x→c≠x:=fun x hx e=>hd x hx (by
    unfold Oper.looksAt;refine List.mem_append_right _ ?_;rw[hg];show x∈((ops[g]?).bind (·.dst)).toList;rw[hc,← e];exact List.mem_singleton.2 rfl)
   cases hkt:e.kt with
   | false=>rw[slot_app hkt hne]
   | true=>
    obtain⟨i,r,hr⟩:=hk hkt;rw[slot_kt hr hkt hne,wantB_kill]
theorem looks_sub (h:t∈looks o):t∈o.looksAt ops:=List.mem_append_left _ h
theorem RunL.swap {y:Itm} {L:List Itm} {st st':St} (hf:y.free x=true) (hap:∀p q,ops[y.k]?=some p→ops[x.k]?=some q→p.apart ops q=true) (h:RunL C tys ops (y::x::L) st st'):RunL C tys ops (x::y::L) st st':=by
 simp only[RunL] at h ⊢;obtain⟨p,hp,wp,op1,op2,hdp,cp,q,hq,wq,oq1,oq2,hdq,cq,hL⟩:=h;simp only[Itm.free,be] at hf;obtain⟨⟨ryx,rxy⟩,hkk⟩:=hf;obtain⟨a1,a2,a3⟩:=Oper.apart_spec (hap p q hp hq);have ry:∀i∈x.e.rb,∀j r,y.e.rs=some (j,r)→i≠j:=fun i hi j r hr e=>by
  rw[hr] at ryx;subst e;simp only[Bool.not_eq_true',List.contains_eq_mem,decide_eq_false_iff_not] at ryx;exact ryx hi
 have rx:∀i∈y.e.rb,∀j r,x.e.rs=some (j,r)→i≠j:=fun i hi j r hr e=>by
  rw[hr] at rxy;subst e;simp only[Bool.not_eq_true',List.contains_eq_mem,decide_eq_false_iff_not] at rxy;exact rxy hi
 have hxrb:∀i r,x.e.rs=some (i,r)→i∈x.e.rb:=fun i r e=>by
  cases hb:x.b with
  | true=>exact ((oq1 hb).1 i r e).1
  | false=>rw[oq2 hb] at e;cases e
 have nx:∀t∈looks q,∀d,p.dst=some d→t≠d:=fun t ht d hd e=>a1 d hd (by rw[← e];exact looks_sub ht)
 have ny:∀t∈looks p,∀d,q.dst=some d→t≠d:=fun t ht d hd e=>a3 d hd (by rw[← e];exact looks_sub ht)
 -- what is the same at both places
 have key:(y.e.kt=true→∃i r,y.e.rs=some (i,r))∧(x.e.kt=true→∃i r,x.e.rs=some (i,r))∧(∀t∈looks q,(y.e.app p.dst st).slot t=st.slot t)∧(∀i∈x.e.rb,(y.e.app p.dst st).res i=st.res i)∧(∀t∈looks p,(x.e.app q.dst st).slot t=st.slot t)∧(∀i∈y.e.rb,(x.e.app q.dst st).res i=st.res i)∧x.e.app q.dst (y.e.app p.dst st)=y.e.app p.dst (x.e.app q.dst st):=by
  cases ky:y.e.kt with
  | false=>
   cases kx:x.e.kt with
   | false=>
    exact⟨(fun h=>by cases h),(fun h=>by cases h),fun t ht=>slot_app ky (nx t ht),fun i hi=>res_app ky fun j r hr=>ry i hi j r hr,fun t ht=>slot_app kx (ny t ht),fun i hi=>res_app kx fun j r hr=>rx i hi j r hr,(app_comm ky kx a2 fun i r j s hi hj e=>ry j (hxrb j s hj) i r hi e.symm).symm⟩
   | true=>
    simp only[ky,kx] at hkk;split at hkk
    ·rename_i i r l hrs hl
     simp only[be,Bool.not_eq_true',List.contains_eq_mem,decide_eq_false_iff_not] at hkk;obtain⟨hil,hio⟩:=hkk;have hc:=cp l hl;refine⟨(fun h=>by cases h),fun _=>⟨i,r,hrs⟩,fun t ht=>slot_app ky (nx t ht),fun i hi=>res_app ky fun j r hr=>ry i hi j r hr,fun t ht=>?_,fun j hj=>?_,app_comm2 kx hrs ky (fun z hz hw=>a2 z hw (hz.symm▸rfl)) hio⟩
     ·rw[slot_kt hrs kx (ny t ht)];cases hs:st.slot t with
      | none=>rfl
      | some s=>show some (s.kill i)=_;rw[kill_self fun h=>hil ((hc.1 t ht s hs).2 i h)]
     ·have hji:j≠i:=rx j hj i r hrs;rw[res_kt hrs kx hji];cases hs:st.res j with
      | none=>rfl
      | some s=>show some (s.kill i)=_;rw[rkill_self fun h=>hil ((hc.2 j hj s hs).2 i h)]
    ·cases hkk
  | true=>
   cases kx:x.e.kt with
   | true=>simp only[ky,kx] at hkk;cases hkk
   | false=>
    simp only[ky,kx] at hkk;split at hkk
    ·rename_i i r l hrs hl
     simp only[be,Bool.not_eq_true',List.contains_eq_mem,decide_eq_false_iff_not] at hkk;obtain⟨hil,hio⟩:=hkk;have hc:=cq l hl;refine⟨fun _=>⟨i,r,hrs⟩,(fun h=>by cases h),fun t ht=>?_,fun j hj=>?_,fun t ht=>slot_app kx (ny t ht),fun i hi=>res_app kx fun j r hr=>rx i hi j r hr,(app_comm2 ky hrs kx a2 hio).symm⟩
     ·have h1:=hc.1 t ht;rw[slot_kt hrs ky (nx t ht)] at h1 ⊢;cases hs:st.slot t with
      | none=>rfl
      | some s=>
       rw[hs] at h1;show some (s.kill i)=_;rw[kill_any (h1 (s.kill i) rfl).1]
     ·have hji:j≠i:=ry j hj i r hrs;have h1:=hc.2 j hj;rw[res_kt hrs ky hji] at h1 ⊢;cases hs:st.res j with
      | none=>rfl
      | some s=>
       rw[hs] at h1;show some (s.kill i)=_;rw[rkill_any (h1 (s.kill i) rfl).1]
    ·cases hkk
 obtain⟨ky,kx,k1,k2,k3,k4,k5⟩:=key;refine⟨q,hq,(wantS_app ky a1).symm.trans wq,fun hb=>?_,oq2,hdq,fun l hl=>(cq l hl).move (fun t ht=>(k1 t ht).symm) fun i hi=>(k2 i hi).symm,p,hp,(wantS_app kx a3).trans wp,fun hb=>?_,op2,hdp,fun l hl=>(cp l hl).move k3 k4,?_⟩
 ·exact (oq1 hb).move (fun t ht=>(k1 t ht).symm) fun i hi=>(k2 i hi).symm
 ·exact (op1 hb).move k3 k4
 ·rw[← k5];exact hL
theorem RunL.pull {R:List Itm}:∀{L:List Itm} {st:St},(∀y∈L,y.free x=true∧∀p q,ops[y.k]?=some p→ops[x.k]?=some q→p.apart ops q=true)→RunL C tys ops (L++x::R) st st'→RunL C tys ops (x::(L++R)) st st'
 | [],st,_,h=>h
 | y::L,st,hy,h=>by
  have h':=h;rw[List.cons_append,RunL] at h';obtain⟨o,ho,hw,h1,h2,hd,hcv,h3⟩:=h';have h4:=RunL.pull (fun z hz=>hy z (List.mem_cons_of_mem _ hz)) h3;have h5:RunL C tys ops (y::x::(L++R)) st st':=by rw[RunL];exact⟨o,ho,hw,h1,h2,hd,hcv,h4⟩
  obtain⟨f1,f2⟩:=hy y (mf ..);exact h5.swap f1 f2
def freeB (D:Array (List Nat)):List Itm→Bool
 | []=>true
 | y::L=>(L.all fun x=>(D.getD x.k []).contains y.k||y.free x)&&freeB D L
theorem freeB_at {D:Array (List Nat)}:∀{L l r:List Itm} {x:Itm},freeB D L=true→L=l++x::r→∀y∈l,(D.getD x.k []).contains y.k=true∨y.free x=true
 | [],l,r,x,_,e,y,hy=>by cases l<;>cases e
 | z::L,[],r,x,_,e,y,hy=>by cases hy
 | z::L,v::l,r,x,h,e,y,hy=>by
  rw[List.cons_append] at e;injection e with e1 e2;subst e1;simp only[freeB,be,List.all_eq_true,Bool.or_eq_true] at h;rcases List.mem_cons.1 hy with e | e
  ·subst e;exact h.1 x (by rw[e2];exact List.mem_append_right _ (mf ..))
  ·exact freeB_at h.2 e2 y e
theorem freeB_drop {D:Array (List Nat)} :∀{l r:List Itm},freeB D (l++x::r)=true→freeB D (l++r)=true
 | [],r,h=>by simp only[List.nil_append,freeB,be] at h;exact h.2
 | z::l,r,h=>by
  simp only[List.cons_append,freeB,be,List.all_eq_true,List.mem_append,List.mem_cons] at h ⊢;exact⟨fun y hy=>h.1 y (hy.imp id .inr),freeB_drop h.2⟩
theorem runAny {Q:Exit→Act→World→Prop} (hB:monoB ops (depsOf ops)=true) (hq:∀a w,TysOk st' tys→Inv C st' a w→Q .normal a w):
  ∀(n:Nat) (L:List Itm) (listed:Array Bool) (st:St) (a:Act) (w:World),L.length=n→listed.size=ops.size→(∀k,k < ops.size→(listed.getD k true=false↔k∈L.map (·.k)))→(∀x∈L,x.k < ops.size)→(L.map (·.k)).Pairwise (· < ·)→(∀j,listed.getD j false=true→∀i∈(depsOf ops).getD j [],listed.getD i false=true)→
   freeB (depsOf ops) L=true→RunL C tys ops L st st'→TysOk st tys→Inv C st a w→wpAny C.P .any ops Q n listed a w:=by
 intro n;have hB':=hB;simp only[monoB,be,List.all_eq_true,List.mem_range] at hB;have spec:∀j oj,ops[j]?=some oj→(∀e∈oj.after,Region.binds .any e=true→e.on < j)∧(∀i∈(depsOf ops).getD j [],i < j∧∃e∈oj.after,Region.binds .any e=true∧(e.on=i∨i∈(depsOf ops).getD e.on []))∧(∀i,i < j→∀oi,ops[i]?=some oi→(∃e∈oj.after,Region.binds .any e=true∧e.on=i)∨oi.apart ops oj=true):=fun j oj hj=>by
  have h1:=hB.2 j (Array.getElem?_eq_some_iff.1 hj).1;simp only[hj,be,List.all_eq_true,List.mem_range,Array.all_eq_true_iff_forall_mem,de,Bool.or_eq_true,Bool.not_eq_true'] at h1;refine⟨fun e he hb=>(h1.1.1 e he).resolve_left (by rw[hb];exact Bool.noConfusion),fun i hi=>?_,fun i hi oi hoi=>?_⟩
  ·obtain⟨h2,h3⟩:=h1.1.2 i hi;obtain⟨e,he,hb⟩:=Array.any_eq_true'.1 h3;simp only[be,Bool.or_eq_true,beq_iff_eq,List.contains_iff_mem] at hb;exact⟨h2,e,he,hb.1,hb.2⟩
  ·have h2:=h1.2 i hi;simp only[hoi,Bool.or_eq_true] at h2;rcases h2 with h2 | h2
   ·obtain⟨e,he,hb⟩:=Array.any_eq_true'.1 h2;simp only[be,beq_iff_eq] at hb;exact .inl ⟨e,he,hb.1,hb.2⟩
   ·exact .inr h2
 induction n with
 | zero=>
  intro L listed st a w hn hsz hlist hlt hp hcl hf hr ht hi;obtain rfl:=List.length_eq_zero_iff.1 hn;rw[RunL] at hr;subst hr;refine⟨?_,hq a w ht hi⟩;cases hr:Region.ready .any ops listed with
  | nil=>rfl
  | cons j l=>
   have hj:j∈Region.ready .any ops listed:=by rw[hr];exact mf ..
   obtain⟨h1,o,ho,_⟩:=mem_ready.1 hj;have:=(hlist j (Array.getElem?_eq_some_iff.1 ho).1).1 h1;cases this
 | succ n ih=>
  intro L listed st a w hn hsz hlist hlt hp hcl hf hr ht hi;have tr:∀i,i < ops.size→listed.getD i true=true→listed.getD i false=true:=fun i hi h=>by
   have:i < listed.size:=by rw[hsz];exact hi
   simpa [this] using h
  have fl:∀i,listed.getD i true=false→listed.getD i false=true→False:=fun i h1 h2=>by
   rcases Nat.lt_or_ge i listed.size with h' | h'
   ·simp[h'] at h1 h2;rw[h1] at h2;cases h2
   ·simp[Array.getElem?_eq_none h'] at h1
  refine⟨fun h0=>?_,fun j hj=>?_⟩
  ·exfalso
   cases L with
   | nil=>simp at hn
   | cons x L=>
    have hx:=hlt x (mf ..);have:x.k∈Region.ready .any ops listed:=mem_ready.2 ⟨(hlist x.k hx).2 (mf ..),_,Array.getElem?_eq_getElem hx,fun e he hb=>by
     have h1:=(spec x.k _ (Array.getElem?_eq_getElem hx)).1 e he hb;refine tr _ om ?_;cases hl:listed.getD e.on true with
     | true=>rfl
     | false=>
      have h2:=(hlist e.on om).1 hl;rw[List.map_cons] at h2 hp;rcases List.mem_cons.1 h2 with h3 | h3
      ·omega
      ·have:=(List.pairwise_cons.1 hp).1 _ h3;omega⟩
    rw[h0] at this;cases this
  ·obtain⟨hun,oj,hoj,hall⟩:=mem_ready.1 hj;have hjs:=(Array.getElem?_eq_some_iff.1 hoj).1;obtain⟨x,hx,hxk⟩:=List.mem_map.1 ((hlist j hjs).1 hun);obtain⟨l,r,hlr⟩:=List.append_of_mem hx;have hdl:∀i∈(depsOf ops).getD j [],listed.getD i false=true:=fun i hi=>by
    obtain⟨_,e,he,hb,h2⟩:=(spec j oj hoj).2.1 i hi;rcases h2 with h2 | h2
    ·rw[← h2];exact hall e he hb
    ·exact hcl _ (hall e he hb) i h2
   rw[hlr,List.map_append,List.map_cons] at hp;have hp1:=List.pairwise_append.1 hp;have unl:∀y∈L,listed.getD y.k true=false:=fun y hy=>(hlist y.k (hlt y hy)).2 (List.mem_map.2 ⟨y,hy,rfl⟩)
   have comp:∀y∈l,y.free x=true∧∀p q,ops[y.k]?=some p→ops[x.k]?=some q→p.apart ops q=true:=fun y hy=>by
    have hyL:y∈L:=by rw[hlr];exact List.mem_append_left _ hy
    have hyx:y.k < x.k:=hp1.2.2 y.k (List.mem_map.2 ⟨y,hy,rfl⟩) x.k (mf ..);refine⟨(freeB_at hf hlr y hy).resolve_left fun hc=>?_,fun p q hp hq=>?_⟩
    ·rw[hxk] at hc;exact fl y.k (unl y hyL) (hdl y.k (List.contains_iff_mem.1 hc))
    ·rw[hxk] at hq;rcases (spec j q hq).2.2 y.k om p hp with ⟨e,he,hb,h1⟩ | h1
     ·rw[hoj] at hq;injection hq with hq;subst hq;exact (fl y.k (unl y hyL) (by rw[← h1];exact hall e he hb)).elim
     ·exact h1
   rw[hlr] at hr;have h3:=hr.pull comp;rw[RunL] at h3;obtain⟨o,ho,hw,h4,h5,hd,_,h6⟩:=h3;rw[hxk,hoj] at ho;injection ho with ho;subst ho;have hjl:j < listed.size:=by rw[hsz];exact hjs
   have hnd:∀y∈l++r,y.k≠j:=fun y hy e=>by
    rw[← hxk] at e;rcases List.mem_append.1 hy with h7 | h7
    ·have:=hp1.2.2 y.k (List.mem_map.2 ⟨y,h7,rfl⟩) x.k (mf ..);omega
    ·have:=(List.pairwise_cons.1 hp1.2.1).1 y.k (List.mem_map.2 ⟨y,h7,rfl⟩);omega
   have next:=fun (a':Act) (w':World) (ht':TysOk (x.e.app oj.dst st) tys) (hi':Inv C (x.e.app oj.dst st) a' w')=>ih (l++r) (listed.setIfInBounds j true) (x.e.app oj.dst st) a' w' (by
     have:L.length=(l++r).length+1:=by rw[hlr];simp;omega
     omega) (by simpa using hsz) (fun k hk=>by
     rw[mem_getD_set hjl,hlist k hk,hlr];simp only[List.map_append,List.map_cons,List.mem_append,List.mem_cons]
     constructor
     ·rintro ⟨h7 | h7 | h7,h8⟩
      ·exact .inl h7
      ·exact absurd (h7.trans hxk) h8
      ·exact .inr h7
     ·intro h7;refine⟨h7.imp id .inr,fun e=>?_⟩;rw[← List.mem_append,← List.map_append] at h7;obtain⟨y,hy,e2⟩:=List.mem_map.1 h7;exact hnd y hy (e2.trans e)) (fun y hy=>hlt y (by rw[hlr];rcases List.mem_append.1 hy with h7 | h7;exact List.mem_append_left _ h7;exact List.mem_append_right _ (List.mem_cons_of_mem _ h7))) (by
     rw[List.map_append];exact List.pairwise_append.2 ⟨hp1.1,(List.pairwise_cons.1 hp1.2.1).2,fun p hp q hq=>hp1.2.2 p hp q (List.mem_cons_of_mem _ hq)⟩) (fun i hi2 d hd2=>by
     by_cases hij:i=j
     ·subst hij;exact getD_set_true (hdl d hd2)
     ·rw[getD_set_ne false (Ne.symm hij)] at hi2;exact getD_set_true (hcl i hi2 d hd2)) (freeB_drop (by rw[← hlr];exact hf)) h6 ht' hi'
   unfold wpOp;simp only[hoj,wanted_of hi hw];cases hb:x.b with
   | true=>
    obtain⟨h7,h8⟩:=h4 hb;simp only[if_true];exact .inl (doesAt_wp (h8 st (fun _ _=>rfl) (fun _ _=>rfl) ht a w hi) fun v w' hv=>next _ _ (app_tys ht fun i r e=>(h7 i r e).2) hv)
   | false=>
    have:=h5 hb;simp only[Bool.false_eq_true,if_false];refine next _ _ (app_tys ht fun i r e=>by rw[this] at e;cases e) ?_;rw[this];exact inv_skip hi hd
theorem RunL.keepT:∀{L:List Itm} {st:St},RunL C tys ops L st st'→st'.tys=st.tys
 | [],st,h=>by rw[RunL] at h;rw[h]
 | x::L,st,h=>by
  rw[RunL] at h;obtain⟨o,_,_,_,_,_,_,h⟩:=h;show st'.tys=(x.e.app o.dst st).tys;exact RunL.keepT h
theorem wp_runL {Q:Exit→Act→World→Prop} {id:Nat} {l:List Oper} {draw:Bool} (L:List Itm) (h:RunL C tys l.toArray L st st') (hk:L.map (·.k)=List.range l.length) (hd:draw=true→(monoB l.toArray (depsOf l.toArray)&&freeB (depsOf l.toArray) L)=true) (ht:TysOk st tys) (hi:Inv C st a w) (hq:∀a w,TysOk st' tys→Inv C st' a w→Q .normal a w):(Code.region id l.toArray draw).wp C.P Q a w:=by
 cases draw with
 | false=>
  refine wp_region ?_;have:=runPlain L h ht hi hq;rw[hk] at this;simpa using this
 | true=>
  have hb:=hd rfl;simp only[be] at hb;refine wp_region_any C.hm ?_;have hlen:L.length=l.length:=by have:=congrArg List.length hk;simpa using this
  have h0:Inv C st a w.drew:=by
   obtain⟨B,T,h⟩:=hi;exact⟨B,T,h.grow (Gr.refl w).drew⟩
  have mem:∀k,k < l.length↔k∈L.map (·.k):=fun k=>by rw[hk,List.mem_range]
  refine runAny hb.1 hq _ L _ st a _ (by simpa using hlen) (by simp) (fun k hk2=>?_) (fun x hx=>by
   have:=(mem x.k).2 (List.mem_map.2 ⟨x,hx,rfl⟩);simpa using this) (by rw[hk];exact List.pairwise_lt_range) (fun j hj=>?_) hb.2 h ht h0
  ·have hk3:k < l.length:=by simpa using hk2
   simp only[List.size_toArray] at*;rw[← mem];simp[hk3]
  ·exfalso
   rcases Nat.lt_or_ge j l.length with h1 | h1
   ·simp[h1] at hj
   ·simp[h1] at hj
end
inductive Zk where
 | raw (v:Value)
 | nat
 | rows (e k:Nat) (ts:List Nat)
def Zk.val:Zk→Value
 | .raw v=>v
 | _=>.slice none 0 0
def Zk.sv:Zk→SV
 | .raw v=>.pv (.raw v)
 | .nat=>.pv (.nat 0)
 | .rows e k ts=>.nil e k ts
def Zk.pv:Zk→PV
 | .raw v=>.raw v
 | .nat=>.nat 0
 | .rows e k ts=>.rows e k ts []
structure Lay where
 agg:Bool
 zero:List Zk
 flds:List (Nat×Nat×Bool)
 elem:Nat
 esz:Nat
 ets:List Nat
structure LayOk (P:Program) (t:Nat) (l:Lay):Prop where
 agg:∃d,P.underlying t=some d∧d.isRow=l.agg
 size:(P.info? t).map (·.size)=some l.zero.length
 zero:(P.info? t).bind (·.zero)=some (if l.agg then .agg (l.zero.map Zk.val).toArray else (l.zero.map Zk.val).headD undef)
 one:l.agg=false→l.zero.length=1
 cel:∀z∈l.zero,z.val.oneCell'=true
 flds:∀(j off n:Nat) (ag:Bool),l.flds[j]?=some (off,n,ag)→∃(fs:Array Field) (f:Field) (d:TypeDesc),P.underlying t=some (.struct fs)∧fs[j]?=some f∧f.offset=off∧(P.info? f.type).map (·.size)=some n∧P.underlying f.type=some d∧d.isRow=ag∧0 < n∧(ag=false→n=1)∧off+n≤l.zero.length
 flda:l.flds≠[]→∃fs:Array Field,P.underlying t=some (.struct fs)∧fs.size=l.flds.length
 elem:l.esz≠0→P.underlying t=some (.slice l.elem)∧(P.info? l.elem).map (·.size)=some l.esz
def fldsB (P:Program) (t:Nat) (l:Lay):Bool:=match P.underlying t with
 | some (.struct fs)=>(l.agg&&fs.size == l.flds.length)&&(List.range l.flds.length).all fun j=>match l.flds[j]?,fs[j]? with
  | some (off,n,ag),some f=>f.offset == off&&(P.info? f.type).map (·.size) == some n&&(P.underlying f.type).map TypeDesc.isRow == some ag&&decide (0 < n)&&(ag||n == 1)&&decide (off+n≤l.zero.length)
  | _,_=>false
 | _=>l.flds.isEmpty
def elemTB (P:Program) (t:Nat) (l:Lay):Bool:=l.esz == 0||(match P.underlying t with
 | some (.slice e)=>e == l.elem&&(P.info? e).map (·.size) == some l.esz
 | _=>false)
theorem LayOk.of {P:Program} {t:Nat} {l:Lay} (h1:(P.underlying t).map TypeDesc.isRow=some l.agg) (h2:(P.info? t).map (·.size)=some l.zero.length) (h3:(P.info? t).bind (·.zero)=some (if l.agg then .agg (l.zero.map Zk.val).toArray else (l.zero.map Zk.val).headD undef)) (h4:(l.agg||l.zero.length == 1)=true) (h5:fldsB P t l=true) (h6:elemTB P t l=true) (h7:(l.zero.all fun z=>z.val.oneCell')=true):LayOk P t l where
 cel:=by rw[List.all_eq_true] at h7;exact h7
 agg:=by
  cases h:P.underlying t with
  | none=>rw[h] at h1;cases h1
  | some d=>rw[h] at h1;injection h1 with h1;exact⟨d,rfl,h1⟩
 size:=h2
 zero:=h3
 one h:=by rw[h] at h4;simpa using h4
 flds j off n ag e:=by
  unfold fldsB at h5;split at h5
  ·rename_i fs hu
   simp only[be,List.all_eq_true,List.mem_range] at h5;have h:=h5.2 j (gs e).1;rw[e] at h;cases hf:fs[j]? with
   | none=>simp[hf] at h
   | some f=>
    simp only[hf,be,beq_iff_eq,de,Bool.or_eq_true] at h;obtain⟨⟨⟨⟨⟨a1,a2⟩,a3⟩,a4⟩,a5⟩,a6⟩:=h;cases hd:P.underlying f.type with
    | none=>rw[hd] at a3;cases a3
    | some d=>
     rw[hd] at a3;injection a3 with a3;exact⟨fs,f,d,hu,hf,a1,a2,hd,a3,a4,fun h=>a5.resolve_left (by rw[h];exact Bool.noConfusion),a6⟩
  ·rw[List.isEmpty_iff] at h5;rw[h5] at e;simp at e
 flda h:=by
  unfold fldsB at h5;split at h5
  ·rename_i fs hu
   simp only[be,beq_iff_eq] at h5;exact⟨fs,hu,h5.1.2⟩
  ·exact absurd (List.isEmpty_iff.1 h5) h
 elem h:=by
  unfold elemTB at h6;simp only[Bool.or_eq_true,beq_iff_eq] at h6;have h6:=h6.resolve_left h;split at h6
  ·rename_i e hu
   simp only[be,beq_iff_eq] at h6;rw[hu,h6.1];exact⟨rfl,by rw[← h6.1];exact h6.2⟩
  ·cases h6
abbrev Tab:=List (Nat×Lay)
def TblOk (P:Program) (tab:Tab):Prop:=∀p∈tab,LayOk P p.1 p.2
def Tab.get (tab:Tab) (t:Nat):Option Lay:=match tab with
 | []=>none
 | (u,l)::r=>bif Nat.beq t u then some l else Tab.get r t
theorem Tab.get_ok {P:Program}:∀{tab:Tab} {t:Nat} {l:Lay},TblOk P tab→tab.get t=some l→LayOk P t l
 | [],t,l,_,e=>by cases e
 | (u,m)::r,t,l,h,e=>by
  rw[Tab.get] at e;cases hb:Nat.beq t u with
  | true=>
   rw[hb] at e;injection e with e;obtain rfl:=Nat.eq_of_beq_eq_true hb;subst e;exact h (t,m) (mf ..)
  | false=>rw[hb] at e;exact Tab.get_ok (fun p hp=>h p (List.mem_cons_of_mem _ hp)) e
def SV.nl:SV→SV
 | .nil e k ts=>.nil e k ts
 | .pv (.nat 0)=>.pv (.nat 0)
 | _=>.emp
def SV.cell:SV→Bool
 | .pv p=>p.cell
 | .emp | .nil .. | .tok _ | .box .. | .ref .. | .fn ..=>true
 | _=>false
def SV.cl:SV→Option (List SV)
 | .agg cs=>bif cs.all SV.cell then some cs else none
 | .pv (.agg ps)=>bif ps.all PV.cell then some (ps.map .pv) else none
 | s=>bif s.cell then some [s] else none
def constS:Value→SV
 | .slice none 0 0=>.emp
 | v=>.pv (.raw v)
def ev (st:St):Operand→Option SV
 | .tmp t=>match st.slot t with
  | some (.pv (.ptr e cs))=>some (.ref e cs)
  | s=>s
 | .const v=>some (constS v)
 | .func f=>some (.pv (.raw (.func (.func f) #[] #[])))
 | .global _=>none
def spl {α:Type}:List α→Nat→List α→List α
 | l,_,[]=>l
 | l,k,c::cs=>spl (l.set k c) (k+1) cs
def spf {α:Type}:List α→Nat→List α→List α
 | x::l,k+1,cs=>x::spf l k cs
 | _::l,0,c::cs=>c::spf l 0 cs
 | l,_,_=>l
theorem spl_nil {α:Type}:∀(k:Nat) (cs:List α),spl [] k cs=[]
 | _,[]=>rfl
 | k,c::cs=>by rw[spl];exact spl_nil (k+1) cs
theorem spl_succ {α:Type}:∀(cs l:List α) (x:α) (k:Nat),spl (x::l) (k+1) cs=x::spl l k cs
 | [],l,x,k=>rfl
 | c::cs,l,x,k=>by rw[spl,spl,List.set_cons_succ];exact spl_succ cs (l.set k c) x (k+1)
theorem spf_eq {α:Type}:∀(l:List α) (k:Nat) (cs:List α),spf l k cs=spl l k cs
 | [],k,cs=>by rw[spl_nil];cases k<;>cases cs<;>rfl
 | x::l,k+1,cs=>by rw[spl_succ,spf,spf_eq l k cs]
 | x::l,0,[]=>rfl
 | x::l,0,c::cs=>by rw[spl,List.set_cons_zero,spl_succ,spf,spf_eq l 0 cs]
def forceL {α:Type}:List α→Option (List α)
 | []=>some []
 | x::l=>match forceL l with
  | some r=>some (x::r)
  | none=>none
theorem forceL_eq {α:Type}:∀(l:List α),forceL l=some l
 | []=>rfl
 | x::l=>by rw[forceL,forceL_eq l]
def over (l:List SV) (k:Nat) (cs:List SV):List SV:=bif Nat.beq k 0&&Nat.beq cs.length l.length then cs else spf l k cs
def valE (s:SV) (rb:List Nat):Eff:=⟨s,none,rb++s.ids,false⟩
def retype (tab:Tab) (t:Nat):SV→SV
 | .emp=>match tab.get t with
  | some ⟨false,[z],_,_,_,_⟩=>z.sv.nl
  | _=>.emp
 | s=>s
def evalOp (tab:Tab) (o:Oper) (st:St):Option Eff:=match o.op with
 | .move x | .assign x=>match ev st x with
  | some .emp=>some (valE (retype tab o.type .emp) [])
  | some s=>some (valE s [])
  | none=>none
 | .pick c x y=>match ev st c with
  | some (.pv (.raw (.bool true)))=>(match ev st x with
   | some s=>some (valE s [])
   | none=>none)
  | some (.pv (.raw (.bool false)))=>(match ev st y with
   | some s=>some (valE s [])
   | none=>none)
  | _=>none
 | .extract x i=>match ev st x with
  | some (.tup cs)=>(match cs[i]? with
   | some s=>some (valE s [])
   | none=>none)
  | some (.pv (.tup ps))=>(match ps[i]? with
   | some p=>some (valE (.pv p) [])
   | none=>none)
  | _=>none
 | .field t x j=>match tab.get t with
  | some l=>(match l.flds[j]? with
   | some (off,n,false)=>(match ev st x with
    | some (.agg cs)=>(match cs[off]? with
     | some s=>some (valE s [])
     | none=>none)
    | some (.pv (.agg ps))=>(match ps[off]? with
     | some p=>some (valE (.pv p) [])
     | none=>none)
    | _=>none)
   | some (off,n,true)=>(match ev st x with
    | some (.agg cs)=>some (valE (.agg ((cs.drop off).take n)) [])
    | some (.pv (.agg ps))=>some (valE (.pv (.agg ((ps.drop off).take n))) [])
    | _=>none)
   | none=>none)
  | none=>none
 | .fieldAddr t x j=>match tab.get t with
  | some l=>(match l.flds[j]? with
   | some (off,n,_)=>(match ev st x with
    | some (.box id o)=>some (valE (.box id (o+off)) [])
    | some (.elt id o)=>some (valE (.elt id (o+off)) [])
    | some (.ref e cs)=>some (valE (.ref e (cs.drop off)) [])
    | _=>none)
   | none=>none)
  | none=>none
 | .load t x=>match tab.get t with
  | some l=>(match ev st x with
   | some (.box id off)=>(match st.res id with
    | some (.box _ cs)=>(match l.agg with
     | false=>(match cs[off]? with
      | some s=>some (valE s [id])
      | none=>none)
     | true=>(match Nat.beq off 0&&Nat.beq cs.length l.zero.length with
      | true=>some (valE (.agg cs) [id])
      | false=>bif Nat.ble (off+l.zero.length) cs.length then some (valE (.agg ((cs.drop off).take l.zero.length)) [id]) else none))
    | _=>none)
   | some (.ref e cs)=>(match l.agg with
    | false=>(match cs[0]? with
     | some p=>some (valE (.pv p) [])
     | none=>none)
    | true=>(match Nat.beq cs.length l.zero.length with
      | true=>some (valE (.pv (.agg cs)) [])
      | false=>bif Nat.ble l.zero.length cs.length then some (valE (.pv (.agg (cs.take l.zero.length))) []) else none))
   | _=>none)
  | none=>none
 | .alloc t=>match tab.get t,o.dst with
  | some l,some d=>(match st.res d with
   | none=>bif st.tys.contains t then some ⟨.box d 0,some (d,.box t (l.zero.map Zk.sv)),[d],false⟩ else none
   | some _=>none)
  | _,_=>none
 | .box t x=>match o.dst with
  | some d=>(match st.res d with
   | none=>(match ev st x with
    | some s=>(match s.cl with
     | some cs=>bif st.tys.contains t then some ⟨.box d 0,some (d,.box t cs),d::SV.idsL cs,false⟩ else none
     | none=>none)
    | none=>none)
   | some _=>none)
  | none=>none
 | .build t parts=>match tab.get t with
  | some l=>(match !l.flds.isEmpty with
   | true=>fillS l st (l.zero.map Zk.sv) parts.toList
   | false=>none)
  | none=>none
 | .store t x y=>match tab.get t with
  | some l=>(match ev st x with
   | some (.box id off)=>(match st.res id with
    | some (.box ty cs)=>(match ev st y with
     | some s=>(match s.cl with
      | some ds=>(match Nat.beq ds.length l.zero.length&&Nat.ble (off+ds.length) cs.length&&ds.all SV.cell&&(o.dst.isNone&&st.tys.contains ty) with
       | true=>(match forceL (over cs off ds) with
        | some es=>some ⟨.any,some (id,.box ty es),id::SV.idsL ds,false⟩
        | none=>none)
       | false=>none)
      | none=>none)
     | none=>none)
    | _=>none)
   | _=>none)
  | none=>none
 | .call c=>match c.callee,c.args[0]?,c.argTypes[0]? with
  | .builtin .len,some x,some t=>(match tab.get t with
   | some l=>bif Nat.beq l.esz 0 then none else (match ev st x with
    | some (.pv (.rows _ _ _ xs))=>some (valE (.pv (.raw (.int .i64 (xs.length:Int)))) [])
    | some (.pv (.nat n))=>some (valE (.pv (.raw (.int .i64 ((limbs n).length:Int)))) [])
    | some .emp=>some (valE (.pv (.raw (.int .i64 0))) [])
    | some (.nil ..)=>some (valE (.pv (.raw (.int .i64 0))) [])
    | some (.tok i)=>(match st.res i with
     | some (.tok _ _ _ xs)=>some (valE (.pv (.raw (.int .i64 (xs.length:Int)))) [i])
     | _=>none)
    | _=>none)
   | none=>none)
  | _,_,_=>none
 | .buildSlice t 0 parts=>match tab.get t,o.dst with
  | some l,some d=>(match st.res d with
   | none=>bif Nat.beq l.esz 0||!st.tys.contains l.elem||!parts.isEmpty then none else some ⟨.tok d,some (d,.tok l.elem l.esz l.ets []),[d],true⟩
   | some _=>none)
  | _,_=>none
 | .nilCheck x=>match ev st x with
  | some (.box id o)=>some (valE (.box id o) [])
  | some (.elt id o)=>some (valE (.elt id o) [])
  | some (.ref e cs)=>some (valE (.ref e cs) [])
  | _=>none
 | .unOp .not _ x=>match ev st x with
  | some (.pv (.raw (.bool b)))=>some (valE (.pv (.raw (.bool !b))) [])
  | _=>none
 | _=>none
where
 fillS (l:Lay) (st:St):List SV→List (Nat×Operand)→Option Eff
 | cs,[]=>some (valE (.agg cs) [])
 | cs,(i,x)::r=>match l.flds[i]? with
  | some (off,n,_)=>(match ev st x with
   | some s=>(match s.cl with
    | some ds=>bif Nat.beq ds.length n then (match forceL (over cs off ds) with
     | some es=>fillS l st es r
     | none=>none) else none
    | none=>none)
   | none=>none)
  | none=>none
section
section runs
variable {P:Program} {w:World} {t:Nat} {d:TypeDesc}
theorem rsize {n:Nat} (h:(P.info? t).map (·.size)=some n):(sizeOf t).run P w=.ok n w:=by
 cases hq:P.info? t with
 | none=>rw[hq] at h;cases h
 | some i=>rw[hq] at h;injection h with h;simp[sizeOf,typeInfo,hq,← h]
theorem ragg {b:Bool} (h:P.underlying t=some d) (hb:d.isRow=b):(isAgg t).run P w=.ok b w:=by
 subst hb;unfold isAgg;rw[Sem.run_bind,run_underlying h w];cases d<;>rfl
theorem rzero {z:Value} (h:(P.info? t).bind (·.zero)=some z):(zeroValue t).run P w=.ok z w:=by
 cases hq:P.info? t with
 | none=>rw[hq] at h;cases h
 | some i=>rw[hq] at h;have:i.zero=some z:=h;simp[zeroValue,typeInfo,hq,this]
theorem rloadVar1 {a:Addr} {v:Value} (hu:P.underlying t=some d) (hd:d.isRow=false) (h:w.cell? a=some v):(loadVar t a).run P w=.ok v w:=by
 simp[loadVar,Sem.run_bind,ragg hu hd,h]
theorem rloadVarN {n:Nat} {a:Addr} {us:List Value} (hu:P.underlying t=some d) (hd:d.isRow=true) (hi:(P.info? t).map (·.size)=some us.length) (h:∀j v,us[j]?=some v→w.cell? (a.add j)=some v):(loadVar t a).run P w=.ok (.agg us.toArray) w:=by
 simp[loadVar,Sem.run_bind,ragg hu hd,rsize hi,run_loadCells_list (P:=P) w a us h]
theorem rstore:∀(vs:List Value) (i off g:Nat) (t:Nat) (w:World) (cs:List Value),Bk w g t cs.toArray→off+i+vs.length≤cs.length→(∀v∈vs,v.oneCell'=true)→
  ∃w',(storeCells ⟨g,off,none⟩ vs i).run P w=.ok () w'∧Bk w' g t (spl cs (off+i) vs).toArray∧Fr (fun b=>b=g) w w'
 | [],i,off,g,t,w,cs,hb,_,_=>⟨w,rfl,hb,Fr.refl _ _⟩
 | v::vs,i,off,g,t,w,cs,hb,hl,h1=>by
  rw[List.length_cons] at hl;have hc:w.cell? ((⟨g,off,none⟩:Addr).add i)=some (cs[off+i]'om):=by
   rw[add_mk,hb.cell];simp
  have hf:w.frozen? ((⟨g,off,none⟩:Addr).add i)=false:=by rw[add_mk];exact hb.frozen _
  have hb':Bk (w.setCell ((⟨g,off,none⟩:Addr).add i) v) g t (cs.set (off+i) v).toArray:=by
   rw[add_mk];have:=hb.put (off+i) v;simpa using this
  obtain⟨w',h2,h3,h4⟩:=rstore vs (i+1) off g t _ (cs.set (off+i) v) hb' (by rw[List.length_set];omega) fun u hu=>h1 u (List.mem_cons_of_mem _ hu)
  refine⟨w',?_,h3,(Fr.set w _ v (by rw[add_blk])).trans h4⟩;have:=h1 v (mf ..);simp only[storeCells,Sem.run_bind,run_store P w _ v .plain this,hc,hf,Bool.false_eq_true,if_false,Result.andThen_ok,h2]
theorem run_mapML {α β:Type} {f:α→Sem β} {g:α→β}:∀(l:List α),(∀x∈l,(f x).run P w=.ok (g x) w)→(l.mapM f).run P w=.ok (l.map g) w
 | [],_=>rfl
 | x::l,h=>by
  rw[List.mapM_cons,Sem.run_bind,h x (mf ..),Result.andThen_ok,Sem.run_bind,run_mapML l fun y hy=>h y (List.mem_cons_of_mem _ hy),Result.andThen_ok,Sem.run_pure,List.map_cons]
theorem run_mapMA {α β:Type} {f:α→Sem β} {g:α→β} (xs:Array α) (h:∀x∈xs,(f x).run P w=.ok (g x) w):(xs.mapM f).run P w=.ok (xs.map g) w:=by
 rw[Array.mapM_eq_mapM_toList,map_eq_pure_bind,Sem.run_bind,run_mapML xs.toList fun x hx=>h x (by simpa using hx),Result.andThen_ok,Sem.run_pure]
 congr 1
 rw[← Array.toList_map,Array.toArray_toList]
end runs
theorem spl_len {α:Type}:∀(cs:List α) (k:Nat) (l:List α),(spl l k cs).length=l.length
 | [],k,l=>rfl
 | c::cs,k,l=>by rw[spl,spl_len cs,List.length_set]
theorem spl_all {α:Type}:∀(cs l m:List α),m.length+cs.length=l.length→l.take m.length=m→spl l m.length cs=m++cs
 | [],l,m,h,hm=>by
  rw[spl,List.append_nil];rw[← List.take_length (l:=l),← h];simpa using hm
 | c::cs,l,m,h,hm=>by
  rw[spl];have:=spl_all cs (l.set m.length c) (m++[c]) (by simp at h ⊢;omega) (by
   rw[List.length_append,List.length_singleton,List.take_add_one,List.take_set_of_le (nr _),hm,List.getElem?_set_self (by simp at h;omega)];rfl)
  rw[List.length_append,List.length_singleton] at this;rw[this,List.append_assoc];rfl
theorem over_spl {l cs:List SV} {k:Nat}:over l k cs=spl l k cs:=by
 unfold over;rw[spf_eq];cases h:Nat.beq k 0&&Nat.beq cs.length l.length with
 | false=>rfl
 | true=>
  simp only[be] at h;obtain rfl:=Nat.eq_of_beq_eq_true h.1;have h2:=Nat.eq_of_beq_eq_true h.2;have:=spl_all cs l [] (by simpa using h2) rfl;simpa using this.symm
section
variable {w:World} {X:Nat→Prop} {B:Nat→Nat} {T:Nat→Sv} {v:Value}
theorem SV.RepL.spl':∀{ds cs:List SV} {us vs:List Value} {k:Nat},SV.RepL w X B T cs us→SV.RepL w X B T ds vs→SV.RepL w X B T (spl cs k ds) (spl us k vs)
 | [],cs,us,vs,k,h,h2=>by rw[SV.RepL] at h2;subst h2;exact h
 | d::ds,cs,us,vs,k,h,h2=>by
  rw[SV.RepL] at h2;obtain⟨v,vs',rfl,h3,h4⟩:=h2;exact SV.RepL.spl' (cs:=cs.set k d) (us:=us.set k v) (k:=k+1) (h.set h3) h4
theorem idsL_map:∀{ps:List PV} {i:Nat},i∈SV.idsL (ps.map .pv)→False
 | [],i,h=>by rw[List.map_nil,SV.idsL] at h;cases h
 | p::ps,i,h=>by
  rw[List.map_cons,SV.idsL] at h;rcases List.mem_append.1 h with h | h
  ·cases (show i∈([]:List Nat) from h)
  ·exact idsL_map h
theorem idsL_mem:∀{cs:List SV} {c:SV} {i:Nat},c∈cs→i∈c.ids→i∈SV.idsL cs
 | [],c,i,h,_=>by cases h
 | d::cs,c,i,h,hi=>by
  rw[SV.idsL];rcases List.mem_cons.1 h with e | e
  ·exact List.mem_append_left _ (e▸hi)
  ·exact List.mem_append_right _ (idsL_mem e hi)
theorem idsL_of:∀{cs:List SV} {i:Nat},i∈SV.idsL cs→∃c∈cs,i∈c.ids
 | [],i,h=>by rw[SV.idsL] at h;cases h
 | d::cs,i,h=>by
  rw[SV.idsL] at h;rcases List.mem_append.1 h with h | h
  ·exact⟨d,mf ..,h⟩
  ·obtain⟨c,hc,hi⟩:=idsL_of h;exact⟨c,List.mem_cons_of_mem _ hc,hi⟩
theorem mem_set {α:Type} {l:List α} {k:Nat} {c x:α} (h:x∈l.set k c):x∈l∨x=c:=List.mem_or_eq_of_mem_set h
theorem idsL_spl:∀{ds cs:List SV} {k i:Nat},i∈SV.idsL (spl cs k ds)→i∈SV.idsL cs∨i∈SV.idsL ds
 | [],cs,k,i,h=>.inl h
 | d::ds,cs,k,i,h=>by
  rw[spl] at h;rcases idsL_spl h with h | h
  ·obtain⟨c,hc,hi⟩:=idsL_of h;rcases mem_set hc with h2 | h2
   ·exact .inl (idsL_mem h2 hi)
   ·refine .inr ?_;rw[SV.idsL];exact List.mem_append_left _ (h2▸hi)
  ·refine .inr ?_;rw[SV.idsL];exact List.mem_append_right _ h
theorem PV.cell_one {p:PV} (h:p.Rep w X v) (hc:p.cell=true):v.oneCell'=true:=by
 cases p with
 | raw u=>rw[PV.Rep] at h;subst h;exact hc
 | nat n=>rw[PV.Rep] at h;obtain⟨x,rfl,_⟩:=h;rfl
 | rows e k ts xs=>rw[PV.Rep] at h;obtain⟨x,us,rfl,_⟩:=h;rfl
 | ptr e cs=>rw[PV.Rep] at h;obtain⟨ad,us,rfl,_⟩:=h;rfl
 | fn f cs=>rw[PV.Rep] at h;obtain⟨us,rfl,_⟩:=h;rfl
 | agg cs=>cases hc
 | tup cs=>cases hc
theorem SV.cell_one {s:SV} (h:s.Rep w X B T v) (hc:s.cell=true):v.oneCell'=true:=by
 cases s with
 | pv p=>rw[SV.Rep] at h;exact PV.cell_one h hc
 | any=>cases hc
 | emp=>rw[SV.Rep] at h;subst h;rfl
 | nil e k ts=>rw[SV.Rep] at h;subst h;rfl
 | tok i=>rw[SV.Rep] at h;subst h;rfl
 | box i o=>rw[SV.Rep] at h;subst h;rfl
 | elt i o=>cases hc
 | ref e cs=>rw[SV.Rep] at h;obtain⟨ad,us,rfl,_⟩:=h;rfl
 | agg cs=>cases hc
 | tup cs=>cases hc
 | fn f cs=>rw[SV.Rep] at h;obtain⟨us,rfl,_⟩:=h;rfl
theorem SV.RepL.one:∀{cs:List SV} {us:List Value},SV.RepL w X B T cs us→cs.all SV.cell=true→∀v∈us,v.oneCell'=true
 | [],us,h,_,v,hv=>by rw[SV.RepL] at h;subst h;cases hv
 | c::cs,us,h,hc,v,hv=>by
  rw[SV.RepL] at h;obtain⟨u,us',rfl,h1,h2⟩:=h;rw[List.all_cons,be] at hc;rcases List.mem_cons.1 hv with e | e
  ·rw[e];exact SV.cell_one h1 hc.1
  ·exact SV.RepL.one h2 hc.2 v e
theorem one_cells (h:v.oneCell'=true):v.cells=#[v]:=by cases v<;>first | rfl | cases h
theorem cl_rep {s:SV} {cs:List SV} (h:s.Rep w X B T v) (hc:s.cl=some cs):∃us,v.cells=us.toArray∧SV.RepL w X B T cs us∧(∀i,i∈SV.idsL cs→i∈s.ids)∧cs.all SV.cell=true:=by
 have one:s.cell=true→∃us,v.cells=us.toArray∧SV.RepL w X B T [s] us∧(∀i,i∈SV.idsL [s]→i∈s.ids)∧[s].all SV.cell=true:=fun h1=>by
  refine⟨[v],one_cells (SV.cell_one h h1),SV.RepL.cons h (by rw[SV.RepL]),fun i hi=>?_,by simp[h1]⟩;rw[SV.idsL,SV.idsL,List.append_nil] at hi;exact hi
 unfold SV.cl at hc;split at hc
 ·rename_i l
  cases hh:l.all SV.cell with
  | false=>rw[hh] at hc;cases hc
  | true=>
   rw[hh] at hc;injection hc with hc;subst hc;rw[SV.Rep] at h;obtain⟨us,rfl,h⟩:=h;exact⟨us,rfl,h,fun i hi=>by rw[SV.ids];exact hi,hh⟩
 ·rename_i ps
  cases hh:ps.all PV.cell with
  | false=>rw[hh] at hc;cases hc
  | true=>
   rw[hh] at hc;injection hc with hc;subst hc;rw[SV.Rep,PV.Rep] at h;obtain⟨us,rfl,h⟩:=h;refine⟨us,rfl,SV.RepL.pv h,fun i hi=>(idsL_map hi).elim,?_⟩;rw[List.all_map];rw[List.all_eq_true] at hh ⊢;exact hh
 ·cases hh:s.cell with
  | false=>rw[hh] at hc;cases hc
  | true=>
   rw[hh] at hc;injection hc with hc;subst hc;exact one hh
end
theorem nl_rep {w:World} {X:Nat→Prop} {B:Nat→Nat} {T:Nat→Sv} (s:SV):s.nl.Rep w X B T (.slice none 0 0)∧s.nl.ids=[]:=by
 unfold SV.nl;split
 ·exact⟨by rw[SV.Rep],rfl⟩
 ·exact⟨by rw[SV.Rep,PV.Rep];exact⟨Sv.none,rfl,by rw[limbs_zero];exact Sv.Num.none w,fun ad h=>by cases h⟩,rfl⟩
 ·exact⟨by rw[SV.Rep],rfl⟩
theorem retype_rep {tab:Tab} {t:Nat} {w:World} {X:Nat→Prop} {B:Nat→Nat} {T:Nat→Sv} {s:SV} {v:Value} (h:s.Rep w X B T v):(retype tab t s).Rep w X B T v∧∀i∈(retype tab t s).ids,i∈s.ids:=by
 unfold retype;split
 ·rw[SV.Rep] at h;subst h;split
  ·obtain⟨h1,h2⟩:=nl_rep (w:=w) (X:=X) (B:=B) (T:=T) (Zk.sv ‹_›);exact⟨h1,fun i hi=>by rw[h2] at hi;cases hi⟩
  ·exact⟨by rw[SV.Rep],fun i hi=>hi⟩
 ·exact⟨h,fun i hi=>hi⟩
theorem zk_ids:∀{zs:List Zk} {i:Nat},i∈SV.idsL (zs.map Zk.sv)→False
 | [],i,h=>by rw[List.map_nil,SV.idsL] at h;cases h
 | z::zs,i,h=>by
  rw[List.map_cons,SV.idsL] at h;rcases List.mem_append.1 h with h | h
  ·cases z<;>cases (show i∈([]:List Nat) from h)
  ·exact zk_ids h
theorem zk_rep {w:World} {X:Nat→Prop} {B:Nat→Nat} {T:Nat→Sv}:∀{zs:List Zk},SV.RepL w X B T (zs.map Zk.sv) (zs.map Zk.val)
 | []=>by simp[SV.RepL]
 | z::zs=>by
  refine SV.RepL.cons ?_ zk_rep;cases z with
  | raw v=>rw[Zk.sv,SV.Rep,PV.Rep];rfl
  | nat=>rw[Zk.sv,SV.Rep,PV.Rep];exact⟨Sv.none,rfl,by rw[limbs_zero];exact Sv.Num.none w,fun ad h=>by cases h⟩
  | rows e k ts=>rw[Zk.sv,SV.Rep];rfl
section
variable {C:Cx} {tys:List Nat} {o:Oper} {st:St} {e:Eff}
theorem ev_rep {a:Act} {w:World} {B:Nat→Nat} {T:Nat→Sv} (h:InvB C st a w B T) {x:Operand} {s:SV} (hx:ev st x=some s):s.Rep w (Own0 C st B T) B T (a.eval x)∧∀i∈s.ids,(st.res i).isSome=true:=by
 unfold ev at hx;split at hx
 ·rename_i t
  split at hx
  ·rename_i e cs hs
   injection hx with hx;subst hx;have h1:=h.slot t _ hs;rw[SV.Rep,PV.Rep] at h1;exact⟨by rw[SV.Rep];exact h1,fun i hi=>by cases (show i∈([]:List Nat) from hi)⟩
  ·exact⟨h.slot t s hx,h.live t s hx⟩
 ·rename_i v
  injection hx with hx;subst hx;unfold constS;split
  ·exact⟨by rw[SV.Rep];rfl,fun i hi=>by cases (show i∈([]:List Nat) from hi)⟩
  ·exact⟨by rw[SV.Rep,PV.Rep];rfl,fun i hi=>by cases (show i∈([]:List Nat) from hi)⟩
 ·rename_i f
  injection hx with hx;subst hx;exact⟨by rw[SV.Rep,PV.Rep];rfl,fun i hi=>by cases (show i∈([]:List Nat) from hi)⟩
 ·cases hx
def Agree (o:Oper) (rb:List Nat) (st st1:St):Prop:=(∀t∈looks o,st1.slot t=st.slot t)∧∀i∈rb,st1.res i=st.res i
theorem Agree.ev {rb:List Nat} {st st1:St} (h:Agree o rb st st1) {x:Operand} (hx:x∈o.op.operands):ev st1 x=ev st x:=by
 cases x with
 | tmp t=>
  have:=h.1 t (List.mem_filterMap.2 ⟨.tmp t,by simpa using hx,rfl⟩);simp only[Go.Proofs.YtbhbainhmfjpdaaGreatDoor.ev,this]
 | _=>rfl
theorem opE_val {s:SV} {rb:List Nat} (hd:∀d,o.dst=some d→d < C.N) (h:∀st1,Agree o (rb++s.ids) st st1→∀a w B T,InvB C st1 a w B T→∃v,(execOp a.eval o).run C.P w=.ok (.value v) w∧s.Rep w (Own0 C st1 B T) B T v∧∀i∈s.ids,(st1.res i).isSome=true):OpE C tys o st (valE s rb):=by
 refine⟨fun i r e=>(by cases e),fun st1 h1 h2 _ a w ⟨B,T,hi⟩=>?_⟩;obtain⟨v,hr,hs,hl⟩:=h st1 ⟨h1,h2⟩ a w B T hi;exact doesAt_value hr (inv_val hi (Gr.refl w) hs hl hd)
theorem ids_take {cs:List SV} {n k i:Nat} (h:i∈SV.idsL ((cs.drop k).take n)):i∈SV.idsL cs:=by
 obtain⟨c,hc,hi⟩:=idsL_of h;exact idsL_mem (List.mem_of_mem_drop (List.mem_of_mem_take hc)) hi
theorem run_part {P:Program} {w:World} {t n off:Nat} {d:TypeDesc} {us:List Value} (hu:P.underlying t=some d) (hs:(P.info? t).map (·.size)=some n):
  (d.isRow=false→∀v,us[off]?=some v→(part t us.toArray off).run P w=.ok v w)∧(d.isRow=true→(part t us.toArray off).run P w=.ok (.agg ((us.drop off).take n).toArray) w):=by
 constructor
 ·intro hd v hv;simp[part,Sem.run_bind,ragg hu hd,hv]
 ·intro hd;simp[part,Sem.run_bind,ragg hu hd,rsize hs]
theorem evalOp_ok {tab:Tab} (hT:TblOk C.P tab) (hd:∀d,o.dst=some d→d < C.N) (h:evalOp tab o st=some e):OpE C st.tys o st e:=by
 have mem0:∀{x:Operand} {op:Op},o.op=op→x∈op.operands→x∈o.op.operands:=fun e h=>by rw[e];exact h
 unfold evalOp at h;split at h
 iterate 2
  ·rename_i x ho
   split at h
   ·rename_i hx
    injection h with h;subst h;refine opE_val hd fun st1 ag a w B T hi=>?_
    rw[← ag.ev (mem0 ho (by simp[Op.operands]))] at hx;obtain⟨h1,h2⟩:=ev_rep hi hx;obtain⟨h3,h4⟩:=retype_rep (tab:=tab) (t:=o.type) h1;exact⟨_,by simp only[execOp,ho];rfl,h3,fun i hi=>h2 i (h4 i hi)⟩
   ·rename_i s hx hne
    injection h with h;subst h;refine opE_val hd fun st1 ag a w B T hi=>?_
    rw[← ag.ev (mem0 ho (by simp[Op.operands]))] at hne;obtain⟨h1,h2⟩:=ev_rep hi hne;exact⟨_,by simp only[execOp,ho];rfl,h1,h2⟩
   ·cases h
 ·-- pick
  rename_i c x y ho
  have pk:∀{z:Operand} {b:Bool} {s:SV},ev st c=some (.pv (.raw (.bool b)))→ev st (if b then x else y)=some s→OpE C st.tys o st (valE s []):=fun {z b s} hc hx=>by
   refine opE_val hd fun st1 ag a w B T hi=>?_
   rw[← ag.ev (mem0 ho (by simp[Op.operands]))] at hc;rw[← ag.ev (mem0 ho (by cases b<;>simp[Op.operands]))] at hx;obtain⟨h1,h2⟩:=ev_rep hi hx;have h3:=(ev_rep hi hc).1;rw[SV.Rep,PV.Rep] at h3;refine⟨_,?_,h1,h2⟩;simp only[execOp,ho,h3,asBool];cases b<;>rfl
  split at h
  ·rename_i hc
   split at h
   ·rename_i s hx
    injection h with h;subst h;exact pk (z:=x) hc hx
   ·cases h
  ·rename_i hc
   split at h
   ·rename_i s hx
    injection h with h;subst h;exact pk (z:=x) hc hx
   ·cases h
  ·cases h
 ·-- extract
  rename_i x i ho
  split at h
  ·rename_i cs hx
   split at h
   ·rename_i s hs
    injection h with h;subst h;refine opE_val hd fun st1 ag a w B T hi=>?_
    rw[← ag.ev (mem0 ho (by simp[Op.operands]))] at hx;obtain⟨h1,h2⟩:=ev_rep hi hx;rw[SV.Rep] at h1;obtain⟨us,hv,h1⟩:=h1;obtain⟨u,hu,hr⟩:=h1.at hs;refine⟨u,?_,hr,fun j hj=>h2 j (by rw[SV.ids];exact idsL_mem (mg hs) hj)⟩;simp[execOp,ho,hv,Instr.extract,hu]
   ·cases h
  ·rename_i ps hx
   split at h
   ·rename_i s hs
    injection h with h;subst h;refine opE_val hd fun st1 ag a w B T hi=>?_
    rw[← ag.ev (mem0 ho (by simp[Op.operands]))] at hx;obtain⟨h1,h2⟩:=ev_rep hi hx;rw[SV.Rep,PV.Rep] at h1;obtain⟨us,hv,h1⟩:=h1;obtain⟨u,hu,hr⟩:=PV.RepL.at h1 hs;refine⟨u,?_,by rw[SV.Rep];exact hr,fun j hj=>by cases (show j∈([]:List Nat) from hj)⟩;simp[execOp,ho,hv,Instr.extract,hu]
   ·cases h
  ·cases h
 ·-- field
  rename_i t x j ho
  split at h
  ·rename_i l hl
   have lk:=Tab.get_ok hT hl;split at h
   ·rename_i off n hf
    obtain⟨fs,f,d,hu,hfs,ho1,hs1,hu1,hd1,h0,h1',hle⟩:=lk.flds j off n false hf;split at h
    ·rename_i cs hx
     split at h
     ·rename_i s hs
      injection h with h;subst h;refine opE_val hd fun st1 ag a w B T hi=>?_
      rw[← ag.ev (mem0 ho (by simp[Op.operands]))] at hx;obtain⟨h1,h2⟩:=ev_rep hi hx;rw[SV.Rep] at h1;obtain⟨us,hv,h1⟩:=h1;obtain⟨u,hu2,hr⟩:=h1.at hs;refine⟨u,?_,hr,fun j hj=>h2 j (by rw[SV.ids];exact idsL_mem (mg hs) hj)⟩;have:=(run_part (P:=C.P) (w:=w) (us:=us) (off:=off) hu1 hs1).1 hd1 u hu2;simp[execOp,ho,hv,Instr.field,run_underlying hu,hfs,asAgg,ho1,this]
     ·cases h
    ·rename_i ps hx
     split at h
     ·rename_i s hs
      injection h with h;subst h;refine opE_val hd fun st1 ag a w B T hi=>?_
      rw[← ag.ev (mem0 ho (by simp[Op.operands]))] at hx;obtain⟨h1,h2⟩:=ev_rep hi hx;rw[SV.Rep,PV.Rep] at h1;obtain⟨us,hv,h1⟩:=h1;obtain⟨u,hu2,hr⟩:=PV.RepL.at h1 hs;refine⟨u,?_,by rw[SV.Rep];exact hr,fun j hj=>by cases (show j∈([]:List Nat) from hj)⟩;have:=(run_part (P:=C.P) (w:=w) (us:=us) (off:=off) hu1 hs1).1 hd1 u hu2;simp[execOp,ho,hv,Instr.field,run_underlying hu,hfs,asAgg,ho1,this]
     ·cases h
    ·cases h
   ·rename_i off n hf
    obtain⟨fs,f,d,hu,hfs,ho1,hs1,hu1,hd1,h0,h1',hle⟩:=lk.flds j off n true hf;split at h
    ·rename_i cs hx
     injection h with h;subst h;refine opE_val hd fun st1 ag a w B T hi=>?_
     rw[← ag.ev (mem0 ho (by simp[Op.operands]))] at hx;obtain⟨h1,h2⟩:=ev_rep hi hx;rw[SV.Rep] at h1;obtain⟨us,hv,h1⟩:=h1;refine⟨.agg ((us.drop off).take n).toArray,?_,?_,fun j hj=>h2 j (by rw[SV.ids] at hj ⊢;exact ids_take hj)⟩
     ·have:=(run_part (P:=C.P) (w:=w) (us:=us) (off:=off) hu1 hs1).2 hd1;simp[execOp,ho,hv,Instr.field,run_underlying hu,hfs,asAgg,ho1,this]
     ·rw[SV.Rep];exact⟨_,rfl,(h1.drop off).take n⟩
    ·rename_i ps hx
     injection h with h;subst h;refine opE_val hd fun st1 ag a w B T hi=>?_
     rw[← ag.ev (mem0 ho (by simp[Op.operands]))] at hx;obtain⟨h1,h2⟩:=ev_rep hi hx;rw[SV.Rep,PV.Rep] at h1;obtain⟨us,hv,h1⟩:=h1;refine⟨.agg ((us.drop off).take n).toArray,?_,?_,fun j hj=>by cases (show j∈([]:List Nat) from hj)⟩
     ·have:=(run_part (P:=C.P) (w:=w) (us:=us) (off:=off) hu1 hs1).2 hd1;simp[execOp,ho,hv,Instr.field,run_underlying hu,hfs,asAgg,ho1,this]
     ·rw[SV.Rep,PV.Rep];exact⟨_,rfl,(PV.RepL.drop off h1).take n⟩
    ·cases h
   ·cases h
  ·cases h
 ·-- fieldAddr
  rename_i t x j ho
  split at h
  ·rename_i l hl
   have lk:=Tab.get_ok hT hl;split at h
   ·rename_i off n ag' hf
    obtain⟨fs,f,d,hu,hfs,ho1,hs1,hu1,hd1,h0,h1',hle⟩:=lk.flds j off n ag' hf;have hrun:∀(w:World) (ad:Addr),(Instr.fieldAt t (.pointer (some ad)) j).run C.P w=.ok (.pointer (some (ad.add off))) w:=fun w ad=>by
     have:=rsize (w:=w) hs1;have hn:¬n=0:=by omega
     simp[Instr.fieldAt,run_underlying hu,hfs,Instr.sureAddr,fieldPlace,this,ho1,hn]
    split at h
    ·rename_i id o' hx
     injection h with h;subst h;refine opE_val hd fun st1 ag a w B T hi=>?_
     rw[← ag.ev (mem0 ho (by simp[Op.operands]))] at hx;obtain⟨h1,h2⟩:=ev_rep hi hx;rw[SV.Rep] at h1;refine⟨_,by simp only[execOp,ho,h1,Sem.run_bind,hrun];rfl,by rw[SV.Rep,add_mk],h2⟩
    ·rename_i id o' hx
     injection h with h;subst h;refine opE_val hd fun st1 ag a w B T hi=>?_
     rw[← ag.ev (mem0 ho (by simp[Op.operands]))] at hx;obtain⟨h1,h2⟩:=ev_rep hi hx;rw[SV.Rep] at h1;obtain⟨g,h3,h4⟩:=h1;refine⟨.pointer (some ((⟨g,o',none⟩:Addr).add off)),by simp only[execOp,ho,h4,Sem.run_bind,hrun];rfl,by rw[SV.Rep,add_mk];exact⟨g,h3,rfl⟩,h2⟩
    ·rename_i e' cs hx
     injection h with h;subst h;refine opE_val hd fun st1 ag a w B T hi=>?_
     rw[← ag.ev (mem0 ho (by simp[Op.operands]))] at hx;obtain⟨h1,h2⟩:=ev_rep hi hx;rw[SV.Rep] at h1;obtain⟨ad,us,hv,h3,h4,h5⟩:=h1;refine⟨.pointer (some (ad.add off)),by simp only[execOp,ho,hv,Sem.run_bind,hrun];rfl,?_,fun j hj=>by cases (show j∈([]:List Nat) from hj)⟩;rw[SV.Rep];refine⟨ad.add off,us.drop off,rfl,PV.RepL.drop off h3,fun hc=>?_,fun j u hu=>?_⟩
     ·have:=h4 (fun e=>hc (by rw[e,List.drop_nil]));rw[add_blk];exact this
     ·rw[add_add];exact h5 (off+j) u (by rw[List.getElem?_drop] at hu;exact hu)
    ·cases h
   ·cases h
  ·cases h
 ·-- load
  rename_i t x ho
  split at h
  ·rename_i l hl
   have lk:=Tab.get_ok hT hl;obtain⟨d,hu,hdr⟩:=lk.agg;split at h
   ·rename_i id off hx
    split at h
    ·rename_i ty cs hres
     have fin:∀{s:SV},(∀(a:Act) (w:World) (us:List Value) (b:Nat),w.heap[b]?=some (.cells us.toArray ty)→us.length=cs.length→∀X B T,SV.RepL w X B T cs us→∃v,(loadVar t ⟨b,off,none⟩).run C.P w=.ok v w∧s.Rep w X B T v)→(∀i∈s.ids,i∈SV.idsL cs)→OpE C st.tys o st (valE s [id]):=fun {s} hf hids=>by
      refine opE_val hd fun st1 ag a w B T hi=>?_
      rw[← ag.ev (mem0 ho (by simp[Op.operands]))] at hx;rw[← ag.2 id (List.mem_append_left _ (List.mem_singleton.2 rfl))] at hres;obtain⟨h1,h2⟩:=ev_rep hi hx;rw[SV.Rep] at h1;obtain⟨h3,us,h4,h5⟩:=hi.inn id _ hres;obtain⟨v,hv,hs⟩:=hf a w us (B id) h4 h5.len _ _ _ h5;exact⟨v,by simp only[execOp,ho,h1,Instr.loadAt,Instr.sureAddr,Sem.run_bind,Sem.run_pure,Result.andThen_ok,hv],hs,fun i hi2=>hi.alive id _ hres i (hids i hi2)⟩
     split at h
     ·rename_i hag
      split at h
      ·rename_i s hs
       injection h with h;subst h;refine fin (fun a w us b hb hl X B T hr=>?_) fun i hi=>idsL_mem (mg hs) hi
       obtain⟨u,hu2,hr2⟩:=hr.at hs;exact⟨u,rloadVar1 hu (hdr.trans hag) (by rw[cell_of_row w b off _ ty (0,0) hb];simpa using hu2),hr2⟩
      ·cases h
     ·rename_i hag
      have many:∀{k:Nat} {ds:List SV},off+l.zero.length≤cs.length→OpE C st.tys o st (valE (.agg ((cs.drop off).take l.zero.length)) [id]):=fun {k ds} hle=>by
       refine fin (fun a w us b hb hl2 X B T hr=>?_) fun i hi=>by rw[SV.ids] at hi;exact ids_take hi
       refine⟨.agg ((us.drop off).take l.zero.length).toArray,rloadVarN (n:=l.zero.length) hu (hdr.trans hag) (by rw[lk.size,List.length_take,List.length_drop,hl2];congr 1;omega) fun j v hv=>?_,by rw[SV.Rep];exact⟨_,rfl,(hr.drop off).take _⟩⟩;rw[add_mk,cell_of_row w b _ _ ty (0,0) hb];rw[List.getElem?_take] at hv;split at hv
       ·rw[List.getElem?_drop] at hv;simpa using hv
       ·cases hv
      split at h
      ·rename_i hb
       injection h with h;subst h;simp only[be] at hb;obtain rfl:=Nat.eq_of_beq_eq_true hb.1;have hle:=Nat.eq_of_beq_eq_true hb.2;have:=many (k:=0) (ds:=[]) om;rwa [List.drop_zero,← hle,List.take_length] at this
      ·cases hb:Nat.ble (off+l.zero.length) cs.length with
       | false=>rw[hb] at h;cases h
       | true=>
        rw[hb] at h;injection h with h;subst h;exact many (k:=0) (ds:=[]) (Nat.le_of_ble_eq_true hb)
    ·cases h
   ·rename_i e' cs hx
    have fin:∀{s:SV},s.ids=[]→(∀(w:World) (us:List Value) (ad:Addr) X B T,PV.RepL w X cs us→(∀j u,us[j]?=some u→w.cell? (ad.add j)=some u)→∃v,(loadVar t ad).run C.P w=.ok v w∧s.Rep w X B T v)→OpE C st.tys o st (valE s []):=fun {s} hids hf=>by
     refine opE_val hd fun st1 ag a w B T hi=>?_
     rw[← ag.ev (mem0 ho (by simp[Op.operands]))] at hx;obtain⟨h1,h2⟩:=ev_rep hi hx;rw[SV.Rep] at h1;obtain⟨ad,us,hv,h3,h4,h5⟩:=h1;obtain⟨v,hr,hs⟩:=hf w us ad _ B T h3 h5;exact⟨v,by simp only[execOp,ho,hv,Instr.loadAt,Instr.sureAddr,Sem.run_bind,Sem.run_pure,Result.andThen_ok,hr],hs,fun i hi2=>by rw[hids] at hi2;cases hi2⟩
    split at h
    ·rename_i hag
     split at h
     ·rename_i p hp
      injection h with h;subst h;refine fin rfl fun w us ad X B T hr hc=>?_
      obtain⟨u,hu2,hr2⟩:=hr.at hp;refine⟨u,rloadVar1 hu (hdr.trans hag) (by have:=hc 0 u hu2;rwa [add_zero] at this),by rw[SV.Rep];exact hr2⟩
     ·cases h
    ·rename_i hag
     have many:l.zero.length≤cs.length→OpE C st.tys o st (valE (.pv (.agg (cs.take l.zero.length))) []):=fun hle=>by
      refine fin rfl fun w us ad X B T hr hc=>?_
      have hl2:=hr.len;refine⟨.agg (us.take l.zero.length).toArray,rloadVarN (n:=l.zero.length) hu (hdr.trans hag) (by rw[lk.size,List.length_take,hl2];congr 1;omega) fun j v hv=>?_,by rw[SV.Rep,PV.Rep];exact⟨_,rfl,hr.take _⟩⟩;rw[List.getElem?_take] at hv;split at hv
      ·exact hc j v hv
      ·cases hv
     split at h
     ·rename_i hb
      injection h with h;subst h;have hle:=Nat.eq_of_beq_eq_true hb;have:=many om;rwa [← hle,List.take_length] at this
     ·cases hb:Nat.ble l.zero.length cs.length with
      | false=>rw[hb] at h;cases h
      | true=>
       rw[hb] at h;injection h with h;subst h;exact many (Nat.le_of_ble_eq_true hb)
   ·cases h
  ·cases h
 ·-- alloc
  rename_i t ho
  split at h
  ·rename_i l d hl hdst
   have lk:=Tab.get_ok hT hl;split at h
   ·rename_i hres
    cases hb:st.tys.contains t with
    | false=>rw[hb] at h;cases h
    | true=>
     rw[hb] at h;injection h with h;subst h;refine⟨fun i r e=>by injection e with e;injection e with e1 e2;subst e1 e2;exact⟨List.mem_singleton.2 rfl,List.contains_iff_mem.1 hb⟩,fun st1 h1 h2 _ a w ⟨B,T,hi⟩=>?_⟩;rw[← h2 d (List.mem_singleton.2 rfl)] at hres;have zr:∀(zs:List Zk) X,SV.RepL w X B T (zs.map Zk.sv) (zs.map Zk.val):=fun zs X=>zk_rep
     have hz:∃z:Value,(C.P.info? t).bind (·.zero)=some z∧z.cells=(l.zero.map Zk.val).toArray:=by
      refine⟨_,lk.zero,?_⟩;cases hag:l.agg with
      | true=>rfl
      | false=>
       have:=lk.one hag;obtain⟨z,hz⟩:=List.length_eq_one_iff.1 this;rw[hz];exact one_cells (lk.cel z (by rw[hz];exact List.mem_singleton.2 rfl))
     obtain⟨z,hz1,hz2⟩:=hz;have run:(execOp a.eval o).run C.P w=.ok (.value (.pointer (some ⟨w.heap.size,0,none⟩))) (w.alloc (.cells (l.zero.map Zk.val).toArray t)):=by
      simp[execOp,ho,Instr.alloc,rzero hz1,newVar,newRow,hz2]
     refine doesAt_value run ?_;have:=inv_new (dst:=o.dst) (id:=d) (ty:=t) (rb:=[d]) hi hres (C.hF d (hd d hdst)) (zr l.zero _) (fun i hi=>(zk_ids hi).elim) hd;exact this
   ·cases h
  ·cases h
 ·-- box
  rename_i t x ho
  split at h
  ·rename_i d hdst
   split at h
   ·rename_i hres
    split at h
    ·rename_i s hx
     split at h
     ·rename_i cs hcl
      cases hb:st.tys.contains t with
      | false=>rw[hb] at h;cases h
      | true=>
       rw[hb] at h;injection h with h;subst h;refine⟨fun i r e=>by injection e with e;injection e with e1 e2;subst e1 e2;exact⟨mf ..,List.contains_iff_mem.1 hb⟩,fun st1 h1 h2 _ a w ⟨B,T,hi⟩=>?_⟩;rw[← h2 d (mf ..)] at hres;rw[← Agree.ev ⟨h1,h2⟩ (mem0 ho (by simp[Op.operands]))] at hx;obtain⟨h3,h4⟩:=ev_rep hi hx;obtain⟨us,h5,h6,h7,_⟩:=cl_rep h3 hcl;have run:(execOp a.eval o).run C.P w=.ok (.value (.pointer (some ⟨w.heap.size,0,none⟩))) (w.alloc (.cells us.toArray t)):=by
        simp[execOp,ho,Instr.box,newVar,newRow,h5]
       exact doesAt_value run (inv_new hi hres (C.hF d (hd d hdst)) h6 (fun i hi2=>h4 i (h7 i hi2)) hd)
     ·cases h
    ·cases h
   ·cases h
  ·cases h
 ·-- build
  rename_i t parts ho
  split at h
  ·rename_i l hl
   have lk:=Tab.get_ok hT hl;split at h
   ·rename_i hag
    obtain⟨fs,hu,hfsz⟩:=lk.flda fun e=>by rw[e] at hag;cases hag
    -- what the parts come to
    have key:∀(ps:List (Nat×Operand)) (cs:List SV),evalOp.fillS l st cs ps=some e→cs.length=l.zero.length→(∀p∈ps,p.2∈o.op.operands)→∃cs',e=valE (.agg cs') []∧(∀st1,Agree o e.rb st st1→∀a w B T,InvB C st1 a w B T→(∀i∈SV.idsL cs,(st1.res i).isSome=true)→∀us,SV.RepL w (Own0 C st1 B T) B T cs us→∀(place:Nat→Option (Nat×Nat)),(∀i off n ag,l.flds[i]?=some (off,n,ag)→place i=some (off,n))→
      ∃us',Instr.fill place us.toArray (ps.map fun p=>(p.1,a.eval p.2))=some us'.toArray∧SV.RepL w (Own0 C st1 B T) B T cs' us'∧∀i∈SV.idsL cs',(st1.res i).isSome=true):=by
     intro ps
     induction ps with
     | nil=>
      intro cs hf _ _;simp only[evalOp.fillS] at hf;injection hf with hf;exact⟨cs,hf.symm,fun st1 ag a w B T hi hal us hr place hp=>⟨us,rfl,hr,hal⟩⟩
     | cons p ps ih=>
      intro cs hf hcs hmem;obtain⟨i,x⟩:=p;simp only[evalOp.fillS] at hf;split at hf
      ·rename_i off n ag' hfl
       split at hf
       ·rename_i s hx
        split at hf
        ·rename_i ds hcl
         cases hb:Nat.beq ds.length n with
         | false=>rw[hb] at hf;cases hf
         | true=>
          rw[hb] at hf;have hn:=Nat.eq_of_beq_eq_true hb;obtain⟨fs,f,d',hu',hfs,ho1,hs1,hu1,hd1,h0,h1',hle⟩:=lk.flds i off n ag' hfl;simp only[cond_true,forceL_eq] at hf;rw[over_spl] at hf;obtain⟨cs',he,hs⟩:=ih (spl cs off ds) hf (by rw[spl_len];exact hcs) (fun q hq=>hmem q (List.mem_cons_of_mem _ hq));refine⟨cs',he,fun st1 ag a w B T hi hal us hr place hp=>?_⟩;have hx':=hx;rw[← ag.ev (hmem (i,x) (mf ..))] at hx';obtain⟨h3,h4⟩:=ev_rep hi hx';obtain⟨vs,h5,h6,h7,_⟩:=cl_rep h3 hcl;have hr':SV.RepL w (Own0 C st1 B T) B T (spl cs off ds) (spl us off vs):=hr.spl' h6;obtain⟨us',g1,g2,g3⟩:=hs st1 ag a w B T hi (fun j hj=>(idsL_spl hj).elim (hal j) fun h=>h4 j (h7 j h)) _ hr' place hp;refine⟨us',?_,g2,g3⟩;have hlv:vs.length=n:=by rw[h6.len,hn]
          have hfold:∀(vs:List Value) (k:Nat) (us:List Value),((vs.zipIdx k).foldl (fun (cs:Array Value) (p:Value×Nat)=>cs.setIfInBounds (off+p.2) p.1) us.toArray)=(spl us (off+k) vs).toArray:=by
           intro vs
           induction vs with
           | nil=>intro k us;rfl
           | cons v vs ih2=>
            intro k us;rw[spl,Nat.add_assoc,← ih2,List.zipIdx_cons,List.foldl_cons];simp
          simp only[List.map_cons,Instr.fill,hp i off n ag' hfl,h5,List.size_toArray,hlv];have hul:us.length=l.zero.length:=by rw[hr.len,hcs]
          rw[if_neg (by simp;omega)];have:=hfold vs 0 us;rw[Nat.add_zero] at this;rw[← g1,← this,← Array.foldl_toList,Array.toList_zipIdx]
        ·cases hf
       ·cases hf
      ·cases hf
    have hpm:∀p∈parts.toList,p.2∈o.op.operands:=fun p hp=>by
     rw[ho];simp only[Op.operands,List.mem_toArray,List.mem_map];exact⟨p,hp,rfl⟩
    obtain⟨cs',he,hs⟩:=key parts.toList _ h (by simp) hpm;subst he;refine opE_val hd fun st1 ag a w B T hi=>?_
    have zr:∀(zs:List Zk) X,SV.RepL w X B T (zs.map Zk.sv) (zs.map Zk.val):=fun zs X=>zk_rep
    obtain⟨us',g1,g2,g3⟩:=hs st1 ag a w B T hi (fun i hi=>(zk_ids hi).elim) _ (zr l.zero _) (fun i=>(fs[i]?).map fun (f:Field)=>(f.offset,((C.P.info? f.type).map (·.size)).getD 0)) (fun i off n ag' hfl=>by
     obtain⟨fs',f,d',hu',hfs,ho1,hs1,_⟩:=lk.flds i off n ag' hfl;rw[hu] at hu';injection hu' with hu';injection hu' with hu';subst hu';rw[hfs,Option.map_some,ho1,hs1];rfl)
    refine⟨.agg us'.toArray,?_,by rw[SV.Rep];exact⟨_,rfl,g2⟩,fun i hi=>g3 i (by rw[SV.ids] at hi;exact hi)⟩;have places:(fs.mapM fun (f:Field)=>do pure (f.offset,← sizeOf f.type):Sem (Array (Nat×Nat))).run C.P w=.ok (fs.map fun (f:Field)=>(f.offset,((C.P.info? f.type).map (·.size)).getD 0)) w:=by
     refine run_mapMA fs fun f hf=>?_
     obtain⟨j,hj,hjf⟩:=Array.mem_iff_getElem.1 hf;have hj':j < l.flds.length:=by rw[← hfsz];exact hj
     obtain⟨⟨off,n,ag'⟩,hp⟩:∃p,l.flds[j]?=some p:=⟨_,ge hj'⟩;obtain⟨fs',f',d',hu',hfs,ho1,hs1,_⟩:=lk.flds j off n ag' hp;rw[hu] at hu';injection hu' with hu';injection hu' with hu';subst hu';rw[Array.getElem?_eq_getElem hj,hjf] at hfs;injection hfs with hfs;subst hfs;simp[Sem.run_bind,rsize hs1,hs1]
    have hag2:l.agg=true:=by
     obtain⟨d,hd1,hd2⟩:=lk.agg;rw[hu] at hd1;injection hd1 with hd1;rw[← hd2,← hd1]
    have hz:=lk.zero;rw[hag2,if_pos rfl] at hz;have hpl:(fun i=>(fs.map fun (f:Field)=>(f.offset,((C.P.info? f.type).map (·.size)).getD 0))[i]?)=fun i=>(fs[i]?).map fun (f:Field)=>(f.offset,((C.P.info? f.type).map (·.size)).getD 0):=funext fun i=>Array.getElem?_map
    simp only[execOp,ho,Instr.build,Sem.run_bind,rzero hz,Result.andThen_ok,run_underlying hu,places,Value.cells];rw[hpl,show (parts.map fun x=>match x with | (i,x)=>(i,a.eval x)).toList=parts.toList.map fun p=>(p.1,a.eval p.2) from by rw[Array.toList_map]];rw[g1];rfl
   ·cases h
  ·cases h
 ·-- store
  rename_i t x y ho
  split at h
  ·rename_i l hl
   have lk:=Tab.get_ok hT hl;split at h
   ·rename_i id off hx
    split at h
    ·rename_i ty cs hres
     split at h
     ·rename_i s hy
      split at h
      ·rename_i ds hcl
       split at h
       ·rename_i hb
        rw[forceL_eq] at h;injection h with h;subst h;simp only[be] at hb;obtain⟨⟨⟨hb1,hb2⟩,hb3⟩,hb4,hb5⟩:=hb;have hn:=Nat.eq_of_beq_eq_true hb1;have hle:=Nat.le_of_ble_eq_true hb2;have hdst:o.dst=none:=Option.isNone_iff_eq_none.1 hb4;refine⟨fun i r e=>by injection e with e;injection e with e1 e2;subst e1 e2;exact⟨mf ..,List.contains_iff_mem.1 hb5⟩,fun st1 h1 h2 _ a w ⟨B,T,hi⟩=>?_⟩;have ag:Agree o (id::SV.idsL ds) st st1:=⟨h1,h2⟩;rw[← h2 id (mf ..)] at hres;rw[← ag.ev (mem0 ho (by simp[Op.operands]))] at hx hy;obtain⟨x1,x2⟩:=ev_rep hi hx;obtain⟨y1,y2⟩:=ev_rep hi hy;rw[SV.Rep] at x1;obtain⟨h3,us,h4,h5⟩:=hi.inn id _ hres;obtain⟨vs,v1,v2,v3,_⟩:=cl_rep y1 hcl;obtain⟨w',r1,r2,r3⟩:=rstore (P:=C.P) vs 0 off (B id) ty w us h4 (by rw[h5.len,v2.len];omega) (v2.one hb3);have run:(execOp a.eval o).run C.P w=.ok .skip w':=by
         have hsz:¬(a.eval y).cells.size≠l.zero.length:=by rw[v1];simp[v2.len,hn]
         simp only[execOp,ho,x1,Instr.storeAt,Instr.sureAddr,Sem.run_bind,Sem.run_pure,Result.andThen_ok,storeVar,rsize lk.size,if_neg hsz];rw[v1];simp[r1]
        unfold doesAt;rw[run,hdst,over_spl];exact inv_store hi hres (by rw[Nat.add_zero] at r2;exact r2) r3 (h5.spl' v2) (fun i hi2=>(idsL_spl hi2).elim (hi.alive id _ hres i) fun h=>y2 i (v3 i h))
       ·cases h
      ·cases h
     ·cases h
    ·cases h
   ·cases h
  ·cases h
 ·-- len
  rename_i c ho
  split at h
  ·rename_i x t hc ha ht
   split at h
   ·rename_i l hl
    have lk:=Tab.get_ok hT hl;cases hb:Nat.beq l.esz 0 with
    | true=>rw[hb] at h;cases h
    | false=>
     rw[hb] at h;obtain⟨hu,_⟩:=lk.elem (Nat.ne_of_beq_eq_false hb);simp only[cond_false] at h;have hmem:x∈o.op.operands:=by
      rw[ho];simp only[Op.operands,Call.operands,hc];have:=Array.mem_of_getElem? ha;simpa using this
     have run:∀(a:Act) (w:World) (A:Option Addr) (n k:Nat),a.eval x=.slice A n k→(execOp a.eval o).run C.P w=.ok (.value (.int .i64 (n:Int))) w:=fun a w A n k hv=>by
      simp only[execOp,ho,resolve,hc,Sem.run_bind,Sem.run_pure,Result.andThen_ok,invoke,builtin,Builtin.len_];have h1:(c.args.map a.eval)[0]?=some (.slice A n k):=by rw[Array.getElem?_map,ha,← hv];rfl
      simp[h1,ht,run_underlying hu,goInt]
     split at h
     ·rename_i e k ts xs hx
      injection h with h;subst h;refine opE_val hd fun st1 ag a w B T hi=>?_
      rw[← ag.ev hmem] at hx;obtain⟨x1,x2⟩:=ev_rep hi hx;rw[SV.Rep,PV.Rep] at x1;obtain⟨y,us,hv,hn,_⟩:=x1;exact⟨_,run a w _ _ _ hv,by rw[SV.Rep,PV.Rep,hn],fun i hi=>by cases (show i∈([]:List Nat) from hi)⟩
     ·rename_i m hx
      injection h with h;subst h;refine opE_val hd fun st1 ag a w B T hi=>?_
      rw[← ag.ev hmem] at hx;obtain⟨x1,x2⟩:=ev_rep hi hx;rw[SV.Rep,PV.Rep] at x1;obtain⟨y,hv,hn,_⟩:=x1;exact⟨_,run a w _ _ _ hv,by rw[SV.Rep,PV.Rep,hn.len],fun i hi=>by cases (show i∈([]:List Nat) from hi)⟩
     ·rename_i hx
      injection h with h;subst h;refine opE_val hd fun st1 ag a w B T hi=>?_
      rw[← ag.ev hmem] at hx;obtain⟨x1,x2⟩:=ev_rep hi hx;rw[SV.Rep] at x1;exact⟨_,run a w _ _ _ x1,by rw[SV.Rep,PV.Rep];rfl,fun i hi=>by cases (show i∈([]:List Nat) from hi)⟩
     ·rename_i e0 k0 ts0 hx
      injection h with h;subst h;refine opE_val hd fun st1 ag a w B T hi=>?_
      rw[← ag.ev hmem] at hx;obtain⟨x1,x2⟩:=ev_rep hi hx;rw[SV.Rep] at x1;exact⟨_,run a w _ _ _ x1,by rw[SV.Rep,PV.Rep];rfl,fun i hi=>by cases (show i∈([]:List Nat) from hi)⟩
     ·rename_i id hx
      split at h
      ·rename_i e k ts xs hres
       injection h with h;subst h;refine opE_val hd fun st1 ag a w B T hi=>?_
       rw[← ag.ev hmem] at hx;rw[← ag.2 id (List.mem_append_left _ (List.mem_singleton.2 rfl))] at hres;obtain⟨x1,x2⟩:=ev_rep hi hx;rw[SV.Rep] at x1;obtain⟨us,h1,h2,h3,h4,h5⟩:=hi.inn id _ hres;exact⟨_,run a w _ _ _ x1,by rw[SV.Rep,PV.Rep,h4],fun i hi=>by cases (show i∈([]:List Nat) from hi)⟩
      ·cases h
     ·cases h
   ·cases h
  ·cases h
 ·-- buildSlice
  rename_i t parts ho
  split at h
  ·rename_i l d hl hdst
   have lk:=Tab.get_ok hT hl;split at h
   ·rename_i hres
    cases hb:Nat.beq l.esz 0||!st.tys.contains l.elem||!parts.isEmpty with
    | true=>rw[hb] at h;cases h
    | false=>
     rw[hb] at h;injection h with h;subst h;simp only[Bool.or_eq_false_iff,Bool.not_eq_false'] at hb;have hk:=Nat.ne_of_beq_eq_false hb.1.1;obtain⟨hu,hsz⟩:=lk.elem hk;have hp:parts=#[]:=Array.isEmpty_iff.1 hb.2;subst hp;refine⟨fun i r e=>by injection e with e;injection e with e1 e2;subst e1 e2;exact⟨List.mem_singleton.2 rfl,List.contains_iff_mem.1 hb.1.2⟩,fun st1 h1 h2 _ a w ⟨B,T,hi⟩=>?_⟩;rw[← h2 d (List.mem_singleton.2 rfl)] at hres;have run:(execOp a.eval o).run C.P w=.ok (.value (.slice (some ⟨w.heap.size,0,none⟩) 0 0)) (w.alloc (.cells #[] l.elem)):=by
      simp[execOp,ho,Instr.buildSlice,run_underlying hu,rsize hsz,Instr.fill,newRow];rw[show Array.range 0=#[] from rfl,Array.map_empty]
     refine doesAt_value run ?_;refine inv_tok (y:=⟨some ⟨w.heap.size,0,none⟩,0,0⟩) (us:=[]) (own:=none) hi (fun r hr=>by rw[hres] at hr;cases hr) (fun _=>rfl) ⟨rfl,rfl,rfl,by simp,fun k hk _=>Below.heap_alloc w _ k hk⟩ ⟨by simp,.inr ⟨w.heap.size,0,#[],rfl,nq _,heap_alloc_new w _,nr _,nq _,by simp,by simp⟩⟩ (.inr (.inl rfl)) PV.RepLL.nil (fun r hr=>by cases hr) rfl (Nat.pos_of_ne_zero hk) hd
   ·cases h
  ·cases h
 ·-- nilCheck
  rename_i x ho
  have run:∀(a:Act) (w:World) (ad:Addr),a.eval x=.pointer (some ad)→(execOp a.eval o).run C.P w=.ok (.value (.pointer (some ad))) w:=fun a w ad he=>by
   simp only[execOp,ho,he];first | rfl | simp
  split at h
  ·rename_i id o' hx
   injection h with h;subst h;refine opE_val hd fun st1 ag a w B T hi=>?_
   rw[← ag.ev (mem0 ho (by simp[Op.operands]))] at hx;obtain⟨h1,h2⟩:=ev_rep hi hx;have h3:=h1;rw[SV.Rep] at h3;exact⟨_,run a w _ h3,by rw[SV.Rep],h2⟩
  ·rename_i id o' hx
   injection h with h;subst h;refine opE_val hd fun st1 ag a w B T hi=>?_
   rw[← ag.ev (mem0 ho (by simp[Op.operands]))] at hx;obtain⟨h1,h2⟩:=ev_rep hi hx;have h3:=h1;rw[SV.Rep] at h3;obtain⟨g,h4,h5⟩:=h3;exact⟨_,run a w _ h5,by rw[SV.Rep];exact⟨g,h4,rfl⟩,h2⟩
  ·rename_i e' cs hx
   injection h with h;subst h;refine opE_val hd fun st1 ag a w B T hi=>?_
   rw[← ag.ev (mem0 ho (by simp[Op.operands]))] at hx;obtain⟨h1,h2⟩:=ev_rep hi hx;have h3:=h1;rw[SV.Rep] at h3;obtain⟨ad,us,h4,h5⟩:=h3;exact⟨_,run a w _ h4,by rw[SV.Rep];exact⟨ad,us,rfl,h5⟩,h2⟩
  ·cases h
 ·-- not
  rename_i t x ho
  split at h
  ·rename_i b hx
   injection h with h;subst h;refine opE_val hd fun st1 ag a w B T hi=>?_
   rw[← ag.ev (mem0 ho (by simp[Op.operands]))] at hx;obtain⟨x1,x2⟩:=ev_rep hi hx;rw[SV.Rep,PV.Rep] at x1;exact⟨_,by simp only[execOp,ho,x1,Op.unary];rfl,by rw[SV.Rep,PV.Rep],fun i hi=>by cases (show i∈([]:List Nat) from hi)⟩
  ·cases h
 ·cases h
end
end
end Go.Proofs.YtbhbainhmfjpdaaGreatDoor
