/- Walks of the search and of what it calls, part 14. -/
import Derived.Test.YtbhbainhmfjpdaaGreatDoorMm
import Derived.Lib.Builder
import Derived.Lib.AppendStr
import Derived.Laws.Externs
set_option linter.unusedSectionVars false
set_option linter.unusedVariables false
set_option linter.unusedSimpArgs false
set_option maxRecDepth 100000
set_option maxHeartbeats 8000000
namespace Go.Proofs.YtbhbainhmfjpdaaGreatDoor
open Go.RowKit
def xB (st:St) (dst:Option Nat) (args:List SV) (sl:List (Nat×SV)) (keep rs0 rs rs':List (Nat×Res)) (res:SV) (Tg T:List Nat):Bool:=
 (rs.all fun p=>lw rs p.2.ids)&&lw rs (SV.idsL args)&&xp st dst sl keep rs rs' res st.tys&&(rs'.all fun p=>(am rs p.1).isSome||(am rs0 p.1).isNone)&&(Tg.all (fun t=>T.contains t)&&Tg.all (fun t=>!st.tys.contains t))
section
variable {T:List Nat} {Z:Nat} {D:Dom Tryz.prog T Z} {N:Nat} {st:St} {Q:Exit→St→Prop} {ops:List Oper} {draw:Bool} {acc:List Itm} {k t:Nat} {f:FuncId} {args cs:List SV} {rs0 rs rs':List (Nat×Res)} {res s:SV} {dst:Option Nat} {ty:TypeId} {af:Array Edge} {gd:Option (Nat×Bool)} {ks:List Nat} {fn:Func} {x:Operand} {ps:String}
theorem akc {k:Nat} {c:Call} {ss:List SV} {keep:List (Nat×Res)} {sl:List (Nat×SV)} {Tg:List Nat} {pos:String} (hG:LaidG D.w0∧¬D.M 0) (hF:∀i,D.F i→(am rs0 i).isSome=true) (hp:XCalls Tryz.prog Tg f args rs rs' res) (hd:dstB ⟨dst,.call c,ty,pos,af,gd⟩ N Z=true) (hc:c.callee=.value (.func f)) (ha:evL st c.args.toList=some ss) (hco:ii st ss=some args) (hrs:AllL st.res rs) (hsl:AllL st.slot sl) (hkeep:AllL st.res keep) (hB:xB st dst args sl keep rs0 rs rs' res Tg T=true) {a:Act} {w:World} (ht:em st st.tys) (hi:Inv (D.cx N) st a w):dj (D.cx N).P ⟨dst,.call c,ty,pos,af,gd⟩ a w fun v w'=>em (St.of (slX dst res sl) (keep++rs') st.tys) (St.of (slX dst res sl) (keep++rs') st.tys).tys∧Inv (D.cx N) (St.of (slX dst res sl) (keep++rs') st.tys) (a.put dst v) w':=by
 simp only[xB,be] at hB;obtain⟨⟨⟨⟨h1,h2⟩,h3⟩,h6⟩,h4,h5⟩:=hB;refine anl (C:=D.cx N) (o:=⟨dst,.call c,ty,pos,af,gd⟩) (sl:=sl) (keep:=keep) (a:=a) (w:=w) hG.1 hG.2 hp rfl (fun us hus=>⟨[],?_,fun B T hi=>?_⟩) hrs hsl hkeep h1 h3 (fun i hi hs=>?_) h4 h5 (mx hd) ht hi
 ·subst hus;rw[List.append_nil];simp only[execOp,resolve,hc,Sem.run_bind];have hf:a.eval (.func f)=.func (.func f) #[] #[]:=rfl;rw[hf];simp only[Deferred.ofValue];simp[invoke,j6 hp.1];rw[← Array.toList_map,Array.toArray_toList]
 ·subst hus;obtain⟨g1,g2⟩:=kj hi ha;rw[List.append_nil];exact⟨nv hi hco g1 g2,fun i hi=>zG.1 h2 i hi⟩
 ·have h7:=hF i hi.1;obtain⟨r,hr⟩:=Option.isSome_iff_exists.1 hs;obtain⟨p,k1,k2,k3⟩:=fp hr;have h8:=zG.1 h6 p k1;rw[Bool.or_eq_true,k2] at h8;rcases h8 with h8 | h8
  ·exact h8
  ·rw[Option.isNone_iff_eq_none.1 h8] at h7;cases h7
theorem rx0 {c:Call} {ss:List SV} {Tg:List Nat} {pos:String} (sl:List (Nat×SV)) (keep:List (Nat×Res)) (hG:LaidG D.w0∧¬D.M 0) (hF:∀i,D.F i→(am rs0 i).isSome=true) (hp:XCalls Tryz.prog Tg f args rs rs' res) (hk:nthL ops k=some ⟨dst,.call c,ty,pos,af,gd⟩) (hw:co ops.toArray ⟨dst,.call c,ty,pos,af,gd⟩ st=some true) (hd:dstB ⟨dst,.call c,ty,pos,af,gd⟩ N Z=true) (hc:c.callee=.value (.func f)) (ha:evL st c.args.toList=some ss) (hco:ii st ss=some args) (hrs:AllL st.res rs) (hsl:AllL st.slot sl) (hkeep:AllL st.res keep) (hB:xB st dst args sl keep rs0 rs rs' res Tg T=true) (next:Reg (D.cx N) ops false Q [] ks (St.of (slX dst res sl) (keep++rs') st.tys)):Reg (D.cx N) ops false Q acc (k::ks) st:=
 ahv hk hw (fun a w ht hi=>akc (k:=k) hG hF hp hd hc ha hco hrs hsl hkeep hB ht hi) next
theorem pcx {c:Code} (tys:List Nat) (hf:(Tryz.prog).funcs[f]?=some fn) (h:∀D:Dom Tryz.prog T 0,LaidG D.w0∧¬D.M 0→(∀i,D.F i→(am rs i).isSome=true)→W D fn.ntmps c (St.initM args rs tys) (RetX tab fn rs' res)) (hcall:fv Tryz.prog f=true:=by kernel_rfl) (hb:fn.body=some c:=by exact rfl) (hn:Nat.ble args.length fn.ntmps=true:=by exact rfl) (hck:xcB rs rs' res tys fn.ntmps=true:=by exact rfl):XCalls Tryz.prog T f args rs rs' res:=XCalls.of tys ah a1z hcall hf hb hn hck h
theorem retx (h:ansX tab rs' st fn.results.toList=some s) (e:s=res) (h2:AllL st.res rs'):RetX tab fn rs' res .ret st:=⟨h.trans (congrArg some e),h2⟩
theorem ao5 (h:ansX tab rs' st fn.results.toList=some s) (e:s=res) (h2:AllL st.res rs'):RetX tab fn rs' res .normal st:=⟨h.trans (congrArg some e),h2⟩
theorem rxb0 (id:Nat) (hF:∀i,D.F i→(am rs0 i).isSome=true) (next:Reg (D.cx N) ops draw Q (acc++[⟨k,true,⟨.box id 0,some (id,.box t cs),id::SV.idsL cs,false⟩,lkOf ops k st (⟨.box id 0,some (id,.box t cs),id::SV.idsL cs,false⟩:Eff)⟩]) ks ((⟨.box id 0,some (id,.box t cs),id::SV.idsL cs,false⟩:Eff).app dst st)) (hk:nthL ops k=some ⟨dst,.box t x,ty,ps,af,gd⟩:=by exact rfl) (hw:co ops.toArray ⟨dst,.box t x,ty,ps,af,gd⟩ st=some true:=by exact rfl) (hd:dstB ⟨dst,.box t x,ty,ps,af,gd⟩ N Z=true:=by exact rfl) (hx:ev st x=some s:=by exact rfl) (hcl:s.cl=some cs:=by exact rfl) (hre:st.res id=none:=by exact rfl) (hfr:(am rs0 id).isNone=true:=by exact rfl) (ht:(st.tys.contains t&&Nat.blt t 1000000)=true:=by exact rfl):Reg (D.cx N) ops draw Q acc (k::ks) st:=
 dh hk hw hd (fun hd=>a5n (C:=D.cx N) (fun h=>by have:=hF id h.1;rw[Option.isNone_iff_eq_none.1 hfr] at this;cases this) rfl hx hcl hre ht hd) next
theorem rmm0 (id:Nat) (hF:∀i,D.F i→(am rs0 i).isSome=true) (next:Reg (D.cx N) ops draw Q (acc++[⟨k,true,⟨.box id 1000000,some (id,.box (t+1000000) []),[id],false⟩,lkOf ops k st (⟨.box id 1000000,some (id,.box (t+1000000) []),[id],false⟩:Eff)⟩]) ks ((⟨.box id 1000000,some (id,.box (t+1000000) []),[id],false⟩:Eff).app dst st)) (hk:nthL ops k=some ⟨dst,.makeMap t none,ty,ps,af,gd⟩:=by exact rfl) (hw:co ops.toArray ⟨dst,.makeMap t none,ty,ps,af,gd⟩ st=some true:=by exact rfl) (hd:dstB ⟨dst,.makeMap t none,ty,ps,af,gd⟩ N Z=true:=by exact rfl) (hre:st.res id=none:=by exact rfl) (hfr:(am rs0 id).isNone=true:=by exact rfl) (ht:st.tys.contains (t+1000000)=true:=by exact rfl):Reg (D.cx N) ops draw Q acc (k::ks) st:=
 dh hk hw hd (fun hd=>aab (C:=D.cx N) (fun h=>by have:=hF id h.1;rw[Option.isNone_iff_eq_none.1 hfr] at this;cases this) rfl hre ht hd) next
theorem rml0 {kt et id mt:Nat} {y:Operand} {d:TypeDesc} {u:Value} {r:Option SV} (z:Zk) (hu:(Tryz.prog).underlying t=some (.map kt et)) (hkd:(Tryz.prog).underlying kt=some d) (hz:((Tryz.prog).info? et).map (fun i=>i.zero)=some (some z.val)) (hq:Go.MapKept.IsKey d u) (hm:j4 d cs) (hg:mget cs u r) (hk:nthL ops k=some ⟨dst,.lookup t x y false,ty,ps,af,gd⟩) (hw:co ops.toArray ⟨dst,.lookup t x y false,ty,ps,af,gd⟩ st=some true) (hd:dstB ⟨dst,.lookup t x y false,ty,ps,af,gd⟩ N Z=true) (hx:ev st x=some (.box id 1000000)) (hy:ev st y=some (.pv (.raw u))) (hr:st.res id=some (.box mt cs)) (hty:Nat.blt mt 1000000=false) (next:Reg (D.cx N) ops draw Q (acc++[⟨k,true,valE (r.getD z.sv) [id],lkOf ops k st (valE (r.getD z.sv) [id])⟩]) ks ((valE (r.getD z.sv) [id]).app dst st)):Reg (D.cx N) ops draw Q acc (k::ks) st:=
 dh hk hw hd (fun hd=>ael (C:=D.cx N) rfl hx hy hr hty hu hkd hq hz hm hg hd) next
theorem rmp0 {kt et id mt:Nat} {y z:Operand} {d:TypeDesc} {u:Value} {cs':List SV} (hu:(Tryz.prog).underlying t=some (.map kt et)) (hkd:(Tryz.prog).underlying kt=some d) (hq:Go.MapKept.IsKey d u) (hm:j4 d cs) (hg:mset cs u s cs') (hk:nthL ops k=some ⟨none,.mapUpdate t x y z,ty,ps,af,gd⟩) (hw:co ops.toArray ⟨none,.mapUpdate t x y z,ty,ps,af,gd⟩ st=some true) (hd:dstB ⟨none,.mapUpdate t x y z,ty,ps,af,gd⟩ N Z=true) (hx:ev st x=some (.box id 1000000)) (hy:ev st y=some (.pv (.raw u))) (hs:ev st z=some s) (hr:st.res id=some (.box mt cs)) (hty:Nat.blt mt 1000000=false) (ht:st.tys.contains mt=true) (next:Reg (D.cx N) ops draw Q (acc++[⟨k,true,⟨.any,some (id,.box mt cs'),id::s.ids,false⟩,lkOf ops k st (⟨.any,some (id,.box mt cs'),id::s.ids,false⟩:Eff)⟩]) ks ((⟨.any,some (id,.box mt cs'),id::s.ids,false⟩:Eff).app none st)):Reg (D.cx N) ops draw Q acc (k::ks) st:=
 dh hk hw hd (fun hd=>aej (C:=D.cx N) rfl hx hy hs hr hty hu hkd hq hm hg ht rfl) next
end
theorem x9 {C:Cx} {st st1:St} {a:Act} {w:World} {B:Nat→Nat} {T:Nat→Sv} (h:InvB C st1 a w B T):∀{ss ps:List SV} {us:List Value},ii st ss=some ps→SV.RepL w (Own0 C st1 B T) B T ss us→SV.RepL w (Own0 C st1 B T) B T ps us
 | [],ps,us,hc,hr=>by rw[ii] at hc;injection hc with hc;subst hc;exact hr
 | s::ss,ps,us,hc,hr=>by
  rw[ii] at hc;split at hc
  ·rename_i p ps' h1 h2
   injection hc with hc;subst hc;rw[SV.RepL] at hr;obtain⟨u,us',rfl,h3,h4⟩:=hr;refine SV.RepL.cons ?_ (x9 h h2 h4);unfold ac1 at h1;split at h1
   ·rename_i hids
    split at h1
    ·rename_i q hq
     injection h1 with h1;subst h1;rw[SV.Rep];exact Co.rep h ((io hq).move fun i hi=>by rw[hids] at hi;cases hi) h3 fun b hb=>⟨hb,fun ⟨i,hi,_⟩=>by rw[hids] at hi;cases hi⟩
    ·cases h1
   ·injection h1 with h1;subst h1;exact h3
  ·cases hc
def boxB (rs:List (Nat×Res)):Bool:=rs.all fun q=>!q.2.isTok&&q.2.tids.isEmpty&&lw rs q.2.ids
theorem abd {b off:Nat} (h:Nat.ble 2000000 off=true):hnd b off=.slice (some ⟨b,off % 1000,none⟩) (off / 1000 % 1000) (off / 1000000 - 2):=by
 have h1:=zD h;unfold hnd;rw[show Nat.blt off 1000000=false from by
  cases h:Nat.blt off 1000000 with
  | false=>rfl
  | true=>have:=zD h;omega,show Nat.beq off 1000000=false from j8 om]
 rfl
section
variable {C:Cx} {o:Oper} {st:St} {t id off e:Nat} {x y:Operand}
theorem aaf {c:Call} {f:FuncId} {ss args:List SV} {rs:List (Nat×Res)} {p:PV} {Tg:List Nat} (hG:LaidG C.w0) (hM:¬C.M 0) (hp:XCalls C.P Tg f args rs rs (.pv p)) (ho:o.op=.call c) (hc:c.callee=.value (.func f)) (ha:evL st c.args.toList=some ss) (hco:ii st ss=some args) (hrs:AllL st.res rs) (hbx:boxB rs=true) (hids:lw rs (SV.idsL args)=true) (hT:Tg.all (fun t=>C.T.contains t)=true) (hty:Tg.all (fun t=>!st.tys.contains t)=true) (hd:∀d,o.dst=some d→C.dk d):OpE C st.tys o st (valE (.pv p) (rs.map (·.1))):=by
 refine⟨fun i r e=>(by cases e),fun st1 h1 h2 h3 a w ⟨B,T,hi⟩=>?_⟩;have inrb:∀i r,am rs i=some r→i∈(valE (.pv p) (rs.map (·.1))).rb:=fun i r h=>by
  obtain⟨q,k1,k2,_⟩:=fp h;exact zL _ (List.mem_map.2 ⟨q,k1,k2⟩)
 have hrs1:∀i r,am rs i=some r→st1.res i=some r:=fun i r h=>(h2 i (inrb i r h)).trans (hrs.at h)
 simp only[boxB,zG,be] at hbx;have isbox:∀i r,am rs i=some r→(∃ty cs,r=.box ty cs)∧r.tids=[]∧∀j∈r.ids,(am rs j).isSome=true:=fun i r h=>by
  obtain⟨q,k1,_,rfl⟩:=fp h;obtain⟨⟨k2,k3⟩,k4⟩:=hbx q k1;refine⟨?_,List.isEmpty_iff.1 k3,fun j hj=>zG.1 k4 j hj⟩;cases hq:q.2 with
  | box ty cs=>exact⟨ty,cs,rfl⟩
  | tok e k ts xs=>rw[hq] at k2;cases k2
 have ha':=ha;rw[← jp (o:=o) (st1:=st1) (rb:=[]) ⟨h1,fun i hi=>by cases hi⟩ fun x hx=>by
  rw[ho];simp only[Op.operands,Call.operands,hc,Array.mem_append];exact .inr (Array.mem_toList_iff.1 hx)] at ha'
 obtain⟨g1,g2⟩:=kj hi ha';have g3:=x9 hi hco g1;have hal:(rs.all fun p=>lw rs p.2.ids)=true:=zG.2 fun q hq=>(hbx q hq).2
 have hAll:AllL st1.res rs:=by
  have:∀{l:List (Nat×Res)},(∀q∈l,st1.res q.1=st.res q.1)→AllL st.res l→AllL st1.res l:=fun {l}=>by
   induction l with
   | nil=>intro _ _;trivial
   | cons q l ih=>
    intro k h;exact⟨(k q (mf ..)).trans h.1,ih (fun q hq=>k q (zC _ hq)) h.2⟩
  exact this (fun q hq=>h2 q.1 (zL _ (List.mem_map.2 ⟨q,hq,rfl⟩))) hrs
 obtain⟨hpre,sub⟩:=zj hi hAll hal;have old:∀b,Own0 C st1 B T b→b < w.heap.size:=fun b hb=>by
  rcases hb with hb | ⟨i,r,hr,hb⟩
  ·exact nk (C.old b hb) hi.gr.size
  ·exact ((hi.inn i r hr).lo hb).2
 have lentOwn:∀b,d5 rs B T b→Own0 C st1 B T b:=fun b ⟨i,r,h1,h2⟩=>.inr ⟨i,r,hrs1 i r h1,h2⟩
 have run:(execOp a.eval o).run C.P w=.ok (.enter f (c.args.toList.map a.eval).toArray) w:=by
  simp only[execOp,ho,resolve,hc,Sem.run_bind];have hf:a.eval (.func f)=.func (.func f) #[] #[]:=rfl;rw[hf];simp only[Deferred.ofValue];simp[invoke,j6 hp.1];rw[← Array.toList_map,Array.toArray_toList]
 have hcall:=hp.2.2 w (fun b=>Own0 C st1 B T b∧¬d5 rs B T b) B T _ (fun b hb=>old b hb.1) (fun b cs t fr hb hh htg=>by
  have htc:=zG.1 hT t htg;have hty':=zG.1 hty t htg;rcases hb.1 with hb1 | ⟨i,r,hr,hb1⟩
  ·have hh':C.w0.heap[b]?=some (.cells cs t fr):=by rw[← hi.gr.old hb1];exact hh
   exact C.hT b cs t fr hb1 hh' (zE.1 htc)
  ·have h1:=(hi.inn i r hr).typ hb1 hh;have h2:=h3 i r hr;rw[← h1] at h2;rw[zE.2 h2] at hty';cases hty') (fun b hb=>hb.2) (hG.cx hM hi.gr) (fun ⟨i,r,h1,h2⟩=>hG.lo hM ((hi.inn i r (hrs1 i r h1)).lo h2).1) hpre (g3.still (B':=B) (T':=T) ⟨nr _,fun b cs t fr hx hh ht=>⟨rfl,fun hb=>hx (sub b hb)⟩⟩ fun _ _=>⟨rfl,rfl⟩) (fun i hi=>zG.1 hids i hi)
 refine eo run (hcall.mono fun e w' ⟨v,B',T',he,hB,hv,hm,F,hnew⟩=>⟨v,he,?_⟩);have hB2:∀i r,am rs i=some r→B' i=B i:=fun i r h=>hB i (by rw[h];rfl)
 have hLent:∀b,d5 rs B' T' b→d5 rs B T b:=fun b ⟨i,r,k1,k2⟩=>by
  obtain⟨⟨ty,cs,rfl⟩,_⟩:=isbox i r k1;refine⟨i,_,k1,?_⟩;simp only[Res.blk] at k2 ⊢;rw[← hB2 i _ k1];exact k2
 have hLent2:∀b,d5 rs B T b→d5 rs B' T' b:=fun b ⟨i,r,k1,k2⟩=>by
  obtain⟨⟨ty,cs,rfl⟩,_⟩:=isbox i r k1;refine⟨i,_,k1,?_⟩;simp only[Res.blk] at k2 ⊢;rw[hB2 i _ k1];exact k2
 have hOwn:∀b,Own0 C st1 B T b→OwnZ (fun b=>Own0 C st1 B T b∧¬d5 rs B T b) rs B' T' b:=fun b hb=>by
  by_cases hl:d5 rs B T b
  ·exact .inr (hLent2 b hl)
  ·exact .inl ⟨hb,hl⟩
 have S:∀ts,Still w w' (Own0 C st1 B T) (Own0 C st1 B T) ts:=fun ts=>⟨F.size,fun b cs t fr hx hh ht=>by
  have hlt:b < w.heap.size:=by
   rcases zU b w.heap.size with h | h
   ·exact h
   ·rw[zR h] at hh;cases hh
  exact⟨F.keep b hlt fun e=>hx (lentOwn b e),hx⟩⟩
 have S':∀ts,Still w' w' (OwnZ (fun b=>Own0 C st1 B T b∧¬d5 rs B T b) rs B' T') (Own0 C st1 B T) ts:=fun ts=>⟨nr _,fun b cs t fr hx hh ht=>⟨rfl,fun hb=>hx (hOwn b hb)⟩⟩
 have hi':InvB C st1 a w' B T:=by
  refine⟨hi.size,hi.dfr,hi.gr.step F fun b _ ⟨i,r,h1,h2⟩=>((hi.inn i r (hrs1 i r h1)).lo h2).1,fun t s e=>(hi.slot t s e).still (S _) fun _ _=>⟨rfl,rfl⟩,hi.live,fun i r e=>?_,hi.alive,hi.apart⟩;have hin:=hi.inn i r e;cases hl:am rs i with
  | some q=>
   have:q=r:=by have:=hrs1 i q hl;rw[e] at this;injection this with this;exact this.symm
   subst this;obtain⟨⟨ty,cs,rfl⟩,ht0,hid⟩:=isbox i q hl;obtain⟨_,us,k2,k3⟩:=hm.inn i _ hl;rw[hB2 i _ hl] at k2;refine⟨hin.1,us,k2,?_⟩;have k4:=k3.still (S' _) (B':=B) (T':=T') fun j hj=>by
    obtain⟨q,hq⟩:=Option.isSome_iff_exists.1 (hid j hj);exact⟨(hB2 j q hq).symm,rfl⟩
   exact k4.reT fun j hj=>by
    have h9:SV.tidsL cs=[]:=ht0;rw[h9] at hj;cases hj
  | none=>
   have oth:∀b,r.blk (B i) (T i)=some b→w'.heap[b]?=w.heap[b]?:=fun b hb=>F.keep b ((hin.lo hb).2) fun ⟨j,q,h4,h5⟩=>by
    have:=hi.apart i r j q b e (hrs1 j q h4) hb h5;rw[← this,hl] at h4;cases h4
   cases r with
   | box ty cells=>
    obtain⟨k1,us,k2,k3⟩:=hin;exact⟨k1,us,k2.keep (oth _ rfl),k3.still (S _) fun _ _=>⟨rfl,rfl⟩⟩
   | tok e k ts xs=>
    obtain⟨us,k1,k2,k3,k4,k5,k6⟩:=hin;exact⟨us,md k1 oth,PV.RepLL.still (ts:=ts) k2 (S _) fun r hr c hc=>((k3 r hr).2 c hc).2,k3,k4,k5,k6⟩
 refine ow hi' (Gr.refl w') ?_ (fun i hi=>by cases (show i∈([]:List Nat) from hi)) hd;exact hv.still (S' _) (B':=B) (T':=T) fun i hi=>by cases (show i∈([]:List Nat) from hi)
theorem a5k {t2:Nat} (op:BinOp) (r:Bool) (ho:o.op=.binOp op t x (.const (.pointer none)) t2) (hx:ev st x=some (.box id off)) (hof:Nat.blt off 1000000=true) (hu:C.P.underlying t=some (.pointer (C.P.pointee t))) (hop:(op=.eql∧r=false)∨(op=.neq∧r=true)) (hd:∀d,o.dst=some d→C.dk d):OpE C st.tys o st (valE (.pv (.raw (.bool r))) []):=by
 refine bj hd fun st1 ag a w B T hi=>?_
 rw[← ag.ev (by rw[ho];simp[Op.operands])] at hx;have h1:=(az hi hx).1;rw[SV.Rep,mw hof] at h1;have hev:a.eval (.const (.pointer none))=.pointer none:=rfl;refine⟨.bool r,?_,by rw[SV.Rep,PV.Rep],fun i hi=>by cases (show i∈([]:List Nat) from hi)⟩;rcases hop with ⟨rfl,rfl⟩ | ⟨rfl,rfl⟩
 ·simp[execOp,ho,h1,hev,eqGuard,run_eql_pointer_nil w t _ hu,Result.andThen]
 ·simp[execOp,ho,h1,hev,eqGuard,run_neq_pointer_nil w t _ hu,Result.andThen]
theorem ajd {s:SV} {z:Value} (hF:¬C.F id) (ho:o.op=.buildSlice t 1 #[(0,x)]) (hu:C.P.underlying t=some (.slice e)) (hsz:(C.P.info? e).map (·.size)=some 1) (hz:(C.P.info? e).bind (·.zero)=some z) (hx:ev st x=some s) (hs:s.cell=true) (hres:st.res id=none) (ht:(st.tys.contains e&&Nat.blt e 1000000)=true) (hd:∀d,o.dst=some d→C.dk d):OpE C st.tys o st ⟨.box id 3001000,some (id,.box e [s]),id::s.ids,false⟩:=by
 rw[be] at ht;refine⟨fun i r e=>by injection e with e;injection e with e1 e2;subst e1 e2;exact⟨mf ..,zE.1 ht.1⟩,fun st1 h1 h2 _ a w ⟨B,T,hi⟩=>?_⟩;rw[← h2 id (mf ..)] at hres;rw[← Agree.ev ⟨h1,h2⟩ (by rw[ho];simp[Op.operands])] at hx;obtain⟨h3,h4⟩:=az hi hx;have h5:=jm (SV.cell_one h3 hs);have run:(execOp a.eval o).run C.P w=.ok (.value (hnd w.heap.size 3001000)) (w.alloc (.cells [a.eval x].toArray e)):=by
  simp[execOp,ho,Instr.buildSlice,run_underlying hu,ke hsz,a34 hz,Instr.fill,h5,newRow,Result.andThen];refine⟨rfl,?_⟩
  congr 2
  simp[show Array.range 1=#[0] from rfl]
 refine cd run (a06 (us:=[a.eval x]) hi hres hF (SV.RepL.cons h3 (by rw[SV.RepL])) (fun i hi=>?_) hd (Bl.of ht.2 (Bk.made w e _)));rw[SV.idsL,SV.idsL,List.append_nil] at hi;exact h4 i hi
theorem uj (ho:o.op=.call { callee:=.builtin .len,args:=#[x],argTypes:=#[t] }) (hu:C.P.underlying t=some (.slice e)) (hx:ev st x=some (.box id off)) (hof:(Nat.ble 2000000 off)=true) (hd:∀d,o.dst=some d→C.dk d):OpE C st.tys o st (valE (.pv (.raw (.int .i64 ((off / 1000 % 1000:Nat):Int)))) []):=by
 refine bj hd fun st1 ag a w B T hi=>?_
 rw[← ag.ev (by rw[ho];simp[Op.operands,Call.operands])] at hx;have h1:=(az hi hx).1;rw[SV.Rep,abd hof] at h1;refine⟨.int .i64 ((off / 1000 % 1000:Nat):Int),?_,by rw[SV.Rep,PV.Rep],fun i hi=>by cases (show i∈([]:List Nat) from hi)⟩;simp[execOp,ho,resolve,invoke,builtin,Builtin.len_,h1,run_underlying hu,goInt]
theorem aer {i:Nat} {kd:IntKind} {z:Int} (ho:o.op=.indexAddr t x y) (hu:C.P.underlying t=some (.slice e)) (hsz:(C.P.info? e).map (·.size)=some 1) (hx:ev st x=some (.box id off)) (hof:(Nat.ble 2000000 off)=true) (hy:ev st y=some (.pv (.raw (.int kd z)))) (hz:z=(i:Int)) (hi:Nat.blt i (off / 1000 % 1000)=true) (hd:∀d,o.dst=some d→C.dk d):OpE C st.tys o st (valE (.box id (off % 1000+i)) []):=by
 refine bj hd fun st1 ag a w B T hi'=>?_
 rw[← ag.ev (by rw[ho];simp[Op.operands])] at hx hy;obtain⟨h1,h3⟩:=az hi' hx;have h2:=(az hi' hy).1;rw[SV.Rep,abd hof] at h1;rw[SV.Rep,PV.Rep] at h2;have hi2:=zD hi;have hlt:(i:Int) < ((off / 1000 % 1000:Nat):Int):=by omega
 have hb:Nat.blt (off % 1000+i) 1000000=true:=Nat.ble_eq_true_of_le om;refine⟨.pointer (some ((⟨B id,off % 1000,none⟩:Addr).add i)),?_,by rw[SV.Rep,mw hb,ij],h3⟩;simp[execOp,ho,h1,h2,hz,Instr.indexAt,Instr.sureAddr,asIntOf,run_underlying hu,ke hsz];intro h;omega
theorem aeq {i:Nat} {kd:IntKind} {z:Int} (ho:o.op=.slice t x none (some y) none) (hu:C.P.underlying t=some (.slice e)) (hsz:(C.P.info? e).map (·.size)=some 1) (hx:ev st x=some (.box id off)) (hof:(Nat.ble 3000000 off)=true) (hy:ev st y=some (.pv (.raw (.int kd z)))) (hz:z=(i:Int)) (hi:Nat.ble i (off / 1000000 - 2)=true) (hi9:Nat.blt i 1000=true) (hd:∀d,o.dst=some d→C.dk d):OpE C st.tys o st (valE (.box id (off / 1000000*1000000+i*1000+off % 1000)) []):=by
 refine bj hd fun st1 ag a w B T hi'=>?_
 rw[← ag.ev (by rw[ho];simp[Op.operands])] at hx hy;obtain⟨h1,h3⟩:=az hi' hx;have h2:=(az hi' hy).1;have hof':=zD hof;rw[SV.Rep,abd (Nat.ble_eq_true_of_le om)] at h1;rw[SV.Rep,PV.Rep] at h2;have hi2:=zD hi;have hi3:=zD hi9;refine⟨.slice (some ⟨B id,off % 1000,none⟩) i (off / 1000000 - 2),?_,?_,h3⟩
 ·have h0:¬(off / 1000000 - 2=0):=by omega
  have h8:(i:Int)≤((off / 1000000 - 2:Nat):Int):=by omega
  simp[execOp,ho,h1,h2,hz,Instr.sliceAt,Instr.slice,Instr.sliceBounds,Instr.sliceBound,asIntOf,run_underlying hu,ke hsz,if_pos hi2,h0,Result.andThen,add_zero]
 ·rw[SV.Rep,abd (Nat.ble_eq_true_of_le om)]
  congr 1
  ·congr 2;omega
  ·omega
  ·omega
theorem aak (ho:o.op=.call { callee:=.builtin .append,args:=#[x,y],argTypes:=#[t,t] }) (hu:C.P.underlying t=some (.slice e)) (hsz:(C.P.info? e).map (·.size)=some 1) (hx:ev st x=some (.box id off)) (hof:(Nat.ble 2000000 off&&Nat.ble (off / 1000 % 1000) (off / 1000000 - 2))=true) (hy:ev st y=some (.pv (.raw (.slice none 0 0)))) (hd:∀d,o.dst=some d→C.dk d):OpE C st.tys o st (valE (.box id off) []):=by
 refine bj hd fun st1 ag a w B T hi'=>?_
 rw[← ag.ev (by rw[ho];simp[Op.operands,Call.operands])] at hx hy;obtain⟨h1,h3⟩:=az hi' hx;have h2:=(az hi' hy).1;rw[be] at hof;have h4:=h1;rw[SV.Rep,abd hof.1] at h1;rw[SV.Rep,PV.Rep] at h2;refine⟨_,?_,h4,h3⟩;have h8:=zD hof.2;simp[execOp,ho,resolve,invoke,builtin,Builtin.append_,Builtin.lenOf,Builtin.firstCells,h1,h2,run_underlying hu,ke hsz,Result.andThen,h8,storeCells]
end
section
attribute [local go_sem] Oper.semAt_some
open Lib (hid)
structure Dc.Un (d:Dc):Prop where
 kind:d.kind=1∨d.kind=2
 idx:∃j:Nat,d.index=(j:Int)∧j < 8
 at_:d.at_=⟨false,0,0⟩
def dgB (j:Nat):ByteArray:=⟨#[UInt8.ofNat (48+j)]⟩
def dtx (d:Dc):ByteArray:=(⟨#[117]⟩++dgB d.index.toNat)++(bif d.kind == 1 then ⟨#[32,111,110]⟩ else ⟨#[32,111,102,102]⟩)
def keyL (l:List Dc):List UInt8:=l.flatMap fun d=>(dtx d++⟨#[59]⟩).data.toList
def keyB (l:List Dc):ByteArray:=⟨(keyL l).toArray⟩
theorem ac8 (a b:ByteArray):(a++b).data.toList=a.data.toList++b.data.toList:=by
 rw[ByteArray.data_append,Array.toList_append]
theorem r7 (d:Dc):(dtx d++⟨#[59]⟩).data.toList=117::UInt8.ofNat (48+d.index.toNat)::32::111::(bif d.kind == 1 then [110,59] else [102,102,59]):=by
 unfold dtx dgB;simp only[ac8];cases d.kind == 1<;>rfl
theorem anm {i j:Nat} (hi:i < 8) (hj:j < 8) (h:UInt8.ofNat (48+i)=UInt8.ofNat (48+j)):i=j:=by
 have:=congrArg UInt8.toNat h;simp[UInt8.toNat_ofNat'] at this;omega
theorem abw {d e:Dc} {r s:List UInt8} (hd:d.Un) (he:e.Un) (h:(dtx d++⟨#[59]⟩).data.toList++r=(dtx e++⟨#[59]⟩).data.toList++s):d=e∧r=s:=by
 obtain⟨i,hi,hi8⟩:=hd.idx;obtain⟨j,hj,hj8⟩:=he.idx;obtain⟨k,x,q⟩:=d;obtain⟨l,y,q'⟩:=e;have h1:q=⟨false,0,0⟩:=hd.at_;have h2:q'=⟨false,0,0⟩:=he.at_;have h3:k=1∨k=2:=hd.kind;have h4:l=1∨l=2:=he.kind;have hi:x=(i:Int):=hi;have hj:y=(j:Int):=hj;subst h1 h2 hi hj;rw[r7,r7] at h;simp only[Int.toNat_natCast,zY,List.cons.injEq,true_and] at h;obtain⟨g1,g2⟩:=h;obtain rfl:=anm hi8 hj8 g1;rcases h3 with rfl | rfl<;>rcases h4 with rfl | rfl<;>simp_all
theorem a5y:∀{a b:List Dc},(∀d∈a,d.Un)→(∀d∈b,d.Un)→keyL a=keyL b→a=b
 | [],[],_,_,_=>rfl
 | [],e::b,_,hb,h=>by
  rw[keyL,keyL,List.flatMap_cons,r7] at h;simp at h
 | d::a,[],ha,_,h=>by
  rw[keyL,keyL,List.flatMap_cons,r7] at h;simp at h
 | d::a,e::b,ha,hb,h=>by
  rw[keyL,keyL,List.flatMap_cons,List.flatMap_cons] at h;obtain⟨g1,g2⟩:=abw (ha d (mf ..)) (hb e (mf ..)) h;rw[g1,a5y (fun d h=>ha d (zC _ h)) (fun d h=>hb d (zC _ h)) g2]
theorem af0 {a b:List Dc} (ha:∀d∈a,d.Un) (hb:∀d∈b,d.Un) (h:keyB a=keyB b):a=b:=
 a5y ha hb (by
  have:=congrArg (fun x:ByteArray=>x.data.toList) h;simpa [keyB] using this)
theorem uq {d e:Dc} (hd:d.Un) (he:e.Un) (h:dtx d=dtx e):d=e:=(abw (r:=[]) (s:=[]) hd he (by rw[h])).1
set_option maxRecDepth 100000 in
theorem a6q (w:World) (j:Nat) (h:j < 8):Calls Tryz.prog 387 #[.int .i64 (j:Int)] w fun e w'=>e=.returned (.string (dgB j))∧w'=w:=by
 have:j=0∨j=1∨j=2∨j=3∨j=4∨j=5∨j=6∨j=7:=by omega
 rcases this with rfl | rfl | rfl | rfl | rfl | rfl | rfl | rfl<;>(go_enter Tryz.func387,Tryz.ntmps387;go_wp2;go_ret;exact⟨rfl,rfl⟩)
set_option maxRecDepth 100000 in
theorem a0f (w:World) (j:Nat) (h:j < 8):Calls Tryz.prog 340 #[.int .i64 (j:Int),.int .i64 10] w fun e w'=>e=.returned (.string (dgB j))∧w'=w:=by
 have hs:=hid (a6q w j h);have:j=0∨j=1∨j=2∨j=3∨j=4∨j=5∨j=6∨j=7:=by omega
 rcases this with rfl | rfl | rfl | rfl | rfl | rfl | rfl | rfl<;>(go_enter Tryz.func340,Tryz.ntmps340;go_wp2_with fail;refine hs.out.mono ?_;rintro e w' ⟨rfl,rfl⟩;go_wp2;go_ret;exact⟨rfl,rfl⟩)
set_option maxRecDepth 100000 in
theorem ab8 (w:World) (j:Nat) (h:j < 8):Calls Tryz.prog 286 #[.int .i64 (j:Int)] w fun e w'=>e=.returned (.string (dgB j))∧w'=w:=by
 have hs:=hid (a0f w j h);go_enter Tryz.func286,Tryz.ntmps286;go_wp2_with fail;refine hs.out.mono ?_;rintro e w' ⟨rfl,rfl⟩;go_wp2;go_ret;exact⟨rfl,rfl⟩
set_option maxRecDepth 100000 in
theorem af4 (w:World) (j:Nat) (h:j < 8):Calls Tryz.prog 238 #[.int .i64 (j:Int)] w fun e w'=>e=.returned (.string (dgB j))∧w'=w:=by
 have hs:=hid (ab8 w j h);go_enter Tryz.func238,Tryz.ntmps238;go_wp2_with fail;refine hs.out.mono ?_;rintro e w' ⟨rfl,rfl⟩;go_wp2;go_ret;exact⟨rfl,rfl⟩
theorem agw {j:Nat} (h:j < 8):PCalls Tryz.prog [] 238 [iP (j:Int)] (.raw (.string (dgB j))):=⟨by kernel_rfl,fun w X us h1 h2 h3=>by
 rw[PV.RepL] at h3;obtain⟨u,us',rfl,g1,g2⟩:=h3;rw[PV.Rep] at g1;rw[PV.RepL] at g2;subst g1 g2;refine (af4 w j h).mono ?_;rintro e w' ⟨rfl,rfl⟩;exact⟨_,rfl,by rw[PV.Rep],Gr.refl _⟩⟩
theorem zq {C:Cx} {o:Oper} {st:St} {t t2:Nat} {x y:Operand} {a b:ByteArray} (ho:o.op=.binOp .add t x y t2) (hu:C.P.underlying t=some .string) (hx:ev st x=some (.pv (.raw (.string a)))) (hy:ev st y=some (.pv (.raw (.string b)))) (hs:a.size+b.size≤1000) (hd:∀d,o.dst=some d→C.dk d):OpE C st.tys o st (valE (.pv (.raw (.string (a++b)))) []):=
 ou ho hx hy (fun w=>by simp[eqGuard,binOp,Op.stringOp,run_underlying hu,Result.andThen];omega) hd
theorem aj8 {C:Cx} {o:Oper} {st:St} {t t2:Nat} {x y:Operand} {a b:ByteArray} (ho:o.op=.binOp .eql t x y t2) (hu:C.P.underlying t=some .string) (hx:ev st x=some (.pv (.raw (.string a)))) (hy:ev st y=some (.pv (.raw (.string b)))) (hd:∀d,o.dst=some d→C.dk d):OpE C st.tys o st (valE (.pv (.raw (.bool (decide (a=b))))) []):=
 ou ho hx hy (fun w=>by
  have:(a.toList == b.toList)=decide (a=b):=by
   rw[ByteArray.toList_eq,ByteArray.toList_eq];cases h:a.data.toList == b.data.toList with
   | true=>
    have h:=eq_of_beq h;obtain⟨⟨a⟩⟩:=a;obtain⟨⟨b⟩⟩:=b;simp only at h;subst h;simp
   | false=>
    rw[df fun e=>?_];rw[e,beq_self_eq_true] at h;cases h
  simp[eqGuard,binOp,Op.stringOp,Op.equal,Op.equalIn,run_underlying hu,Result.andThen,this]) hd
end
def unQ (d:Dc):Bool:=d.kind == 1||d.kind == 2
theorem Dc.Un.un {d:Dc} (h:d.Un):unQ d=true:=by
 unfold unQ;rcases h.kind with e | e<;>rw[e]<;>rfl
theorem Dc.Un.lim {d:Dc} (h:d.Un) (m:Int) (hm:8≤m):decide (d.index < 0)=false∧decide (d.index < m)=true∧decide (d.index≥m)=false:=by
 obtain⟨j,e,h8⟩:=h.idx;rw[e];exact⟨df om,dt om,df om⟩
theorem afn (j:Nat):(dgB j).size=1:=rfl
theorem rj (a b:ByteArray):(a++b).size=a.size+b.size:=ByteArray.size_append
theorem a6e (d:Dc):(dtx d).size≤7:=by
 unfold dtx;rw[rj,rj,afn];cases d.kind == 1<;>decide
theorem vw (d:Dc):PCalls Tryz.prog [] 234 [dcP d] (bP (unQ d)):=by
 refine pcA [42] Tryz.func234 (fun D=>?_);refine a2 (fun e6=>?_) (fun e6=>?_)
 ·exact ar (c:=by (try simp only[zB] at *);simp only[unQ,e6,sb]<;>rfl)
 ·exact ar (c:=by (try simp only[zB] at *);simp only[unQ,e6,sb]<;>rfl)
theorem aiu:PCalls Tryz.prog [] 284 [.agg [bP false,.nat 0,.nat 0]] (bP true):=by
 refine pcA [35] Tryz.func284 (fun D=>?_);refine akT (c:=by exact (by rw[al];rfl)) ?_;refine akT (c:=by exact (by rw[al];rfl)) ?_;exact ar (c:=rfl)
theorem a5d {d:Dc} (h:d.Un):PCalls Tryz.prog [200] 233 [dcP d] (bP true):=by
 have hu:=h.un;obtain⟨l1,l2,-⟩:=h.lim 1024 dx;have hz:=h.at_;refine pcA [42] Tryz.func233 (fun D=>?_);refine akF (c:=by exact l1) ?_;refine ac (c:=(show PCalls Tryz.prog [] 234 [dcP d] (bP true) from by have:=vw d;rwa [hu] at this)) ?_;refine akT (c:=by exact l2) ?_;refine ac (c:=(show PCalls Tryz.prog [] 284 [.agg [bP d.at_.neg,.nat d.at_.num,.nat d.at_.den]] (bP true) from by rw[hz];exact aiu)) ?_;exact ar (c:=rfl)
theorem aim {j:Nat} (h:j < 8):PCalls Tryz.prog [200] 199 [dcP ⟨1,(j:Int),⟨false,0,0⟩⟩] (.raw (.string (dtx ⟨1,(j:Int),⟨false,0,0⟩⟩))):=by
 have hv:=a5d (d:=⟨1,(j:Int),⟨false,0,0⟩⟩) ⟨.inl rfl,⟨j,rfl,h⟩,rfl⟩;refine pcA [42] Tryz.func199 (fun D=>?_);refine ac (c:=hv) ?_;refine ac (c:=agw h) ?_;refine akT (c:=by exact (show _=true from rfl)) ?_;refine qg 1 ?_;refine rn Y (pi Y ?_);refine pr0 (qg 1 ?_);refine ro0 Y Y Y (fun hd=>zq rfl (by kernel_rfl) Y Y (show 1+1≤1000 from by decide) hd) ?_;refine ro0 Y Y Y (fun hd=>zq rfl (by kernel_rfl) Y Y (by rw[rj];exact (show 1+1+3≤1000 from by decide)) hd) ?_;exact ar (c:=rfl)
theorem ail {j:Nat} (h:j < 8):PCalls Tryz.prog [200] 199 [dcP ⟨2,(j:Int),⟨false,0,0⟩⟩] (.raw (.string (dtx ⟨2,(j:Int),⟨false,0,0⟩⟩))):=by
 have hv:=a5d (d:=⟨2,(j:Int),⟨false,0,0⟩⟩) ⟨.inr rfl,⟨j,rfl,h⟩,rfl⟩;refine pcA [42] Tryz.func199 (fun D=>?_);refine ac (c:=hv) ?_;refine ac (c:=agw h) ?_;refine akF (c:=by exact (show _=false from rfl)) ?_;refine akT (c:=by exact (show _=true from rfl)) ?_;refine qg 1 ?_;refine rn Y (pi Y ?_);refine pr0 (qg 1 ?_);refine ro0 Y Y Y (fun hd=>zq rfl (by kernel_rfl) Y Y (show 1+1≤1000 from by decide) hd) ?_;refine ro0 Y Y Y (fun hd=>zq rfl (by kernel_rfl) Y Y (by rw[rj];exact (show 1+1+4≤1000 from by decide)) hd) ?_;exact ar (c:=rfl)
theorem a9s {d:Dc} (h:d.Un):PCalls Tryz.prog [200] 199 [dcP d] (.raw (.string (dtx d))):=by
 obtain⟨k,x,q⟩:=d;obtain⟨j,hj,h8⟩:=h.idx;have h1:q=⟨false,0,0⟩:=h.at_;have h2:k=1∨k=2:=h.kind;have hj:x=(j:Int):=hj;subst h1 hj;rcases h2 with rfl | rfl
 ·exact aim h8
 ·exact ail h8
theorem alx {d e:Dc} (h:d.Un) (k:e.Un):PCalls Tryz.prog [200] 155 [dcP d,dcP e] (bP (decide (dtx d=dtx e))):=by
 refine pcA [42] Tryz.func155 (fun D=>?_);refine ac (c:=a9s h) ?_;refine ac (c:=a9s k) ?_;refine ro0 Y Y Y (fun hd=>aj8 Y (by kernel_rfl) Y Y hd) ?_;exact ar (c:=rfl)
theorem am7 {d e:Dc} (h:d.Un) (k:e.Un):PCalls Tryz.prog [200] 154 [dcP e,.ptr 42 (dcC d)] (bP (decide (dtx d=dtx e))):=by
 refine pcA [42] Tryz.func154 (fun D=>?_);refine ac (c:=alx h k) ?_;exact ar (c:=rfl)
open Go.MapKept (IsKey)
def mkM:List (Value×SV)→List SV
 | []=>[]
 | (k,s)::l=>.pv (.raw k)::s::mkM l
theorem wm {k:Value}:∀{l:List (Value×SV)},(∀p∈l,p.1≠k)→mget (mkM l) k none
 | [],_=>rfl
 | (u,s)::l,h=>⟨u,rfl,.inr ⟨h (u,s) (mf ..),wm fun p hp=>h p (zC _ hp)⟩⟩
theorem a5s {k:Value} {s:SV}:∀{l:List (Value×SV)},(∀p∈l,p.1≠k)→mset (mkM l) k s (mkM (l++[(k,s)]))
 | [],_=>rfl
 | (u,v)::l,h=>⟨u,rfl,.inr ⟨h (u,v) (mf ..),_,rfl,a5s fun p hp=>h p (zC _ hp)⟩⟩
theorem ul {d:TypeDesc}:∀{l:List (Value×SV)},(∀p∈l,IsKey d p.1)→j4 d (mkM l)
 | [],_=>trivial
 | (u,s)::l,h=>⟨⟨u,rfl,h (u,s) (mf ..)⟩,ul fun p hp=>h p (zC _ hp)⟩
theorem a3n:∀{l:List (Value×SV)},(∀p∈l,p.2.ids=[])→SV.idsL (mkM l)=[]
 | [],_=>rfl
 | (u,s)::l,h=>by
  rw[mkM,SV.idsL,SV.idsL,a3n fun p hp=>h p (zC _ hp),show SV.ids s=[] from h (u,s) (mf ..)];rfl
theorem aap {sl:List (Nat×SV)} {id ty:Nat} {cs:List SV} {tys:List Nat} (h:SV.idsL cs=[]):ofB sl [(id,.box ty cs)] tys=ofB sl [(id,.box ty [])] tys:=by
 have e:(Res.box ty cs).ids=(Res.box ty []).ids:=h;have key:∀l:List Nat,lw [(id,Res.box ty cs)] l=lw [(id,Res.box ty [])] l:=fun l=>by
  unfold lw
  congr 1
  funext i
  show (bif Nat.beq i id then some (Res.box ty cs) else none).isSome=(bif Nat.beq i id then some (Res.box ty []) else none).isSome;cases Nat.beq i id<;>rfl
 unfold ofB;simp only[List.all_cons,List.all_nil,key,e];rfl
section
variable {T:List Nat} {Z:Nat} {D:Dom Tryz.prog T Z} {N:Nat} {st:St} {Q:Exit→St→Prop} {ops:List Oper} {draw:Bool} {acc:List Itm}
theorem rmm1 {k:Nat} {ks:List Nat} {dst:Option Nat} {t:Nat} {ty:TypeId} {ps:String} {af:Array Edge} {gd:Option (Nat×Bool)} (id:Nat) (next:Reg (D.cx N) ops draw Q (acc++[⟨k,true,⟨.box id 1000000,some (id,.box (t+1000000) []),[id],false⟩,lkOf ops k st (⟨.box id 1000000,some (id,.box (t+1000000) []),[id],false⟩:Eff)⟩]) ks ((⟨.box id 1000000,some (id,.box (t+1000000) []),[id],false⟩:Eff).app dst st)) (hid:Nat.blt id N=true:=by exact rfl) (hk:nthL ops k=some ⟨dst,.makeMap t none,ty,ps,af,gd⟩:=by exact rfl) (hw:co ops.toArray ⟨dst,.makeMap t none,ty,ps,af,gd⟩ st=some true:=by exact rfl) (hd:dstB ⟨dst,.makeMap t none,ty,ps,af,gd⟩ N Z=true:=by exact rfl) (hre:st.res id=none:=by exact rfl) (ht:st.tys.contains (t+1000000)=true:=by exact rfl):Reg (D.cx N) ops draw Q acc (k::ks) st:=
 dh hk hw hd (fun hd=>aab (C:=D.cx N) (fun h=>absurd (zD hid) (Nat.not_lt.2 h.2)) rfl hre ht hd) next
theorem rxr0 {k:Nat} {ks:List Nat} {c:Call} {f:FuncId} {ss args:List SV} {rs:List (Nat×Res)} {p:PV} {Tg:List Nat} {dst:Option Nat} {ty:TypeId} {pos:String} {af:Array Edge} {gd:Option (Nat×Bool)} (hG:LaidG D.w0∧¬D.M 0) (hp:XCalls Tryz.prog Tg f args rs rs (.pv p)) (hk:nthL ops k=some ⟨dst,.call c,ty,pos,af,gd⟩) (hw:co ops.toArray ⟨dst,.call c,ty,pos,af,gd⟩ st=some true) (hd:dstB ⟨dst,.call c,ty,pos,af,gd⟩ N Z=true) (hc:c.callee=.value (.func f)) (ha:evL st c.args.toList=some ss) (hco:ii st ss=some args) (hrs:AllL st.res rs) (hB:(boxB rs&&(lw rs (SV.idsL args)&&(Tg.all (fun t=>T.contains t)&&Tg.all (fun t=>!st.tys.contains t))))=true) (next:Reg (D.cx N) ops draw Q (acc++[⟨k,true,valE (.pv p) (rs.map (·.1)),lkOf ops k st (valE (.pv p) (rs.map (·.1)))⟩]) ks ((valE (.pv p) (rs.map (·.1))).app dst st)):Reg (D.cx N) ops draw Q acc (k::ks) st:=by
 simp only[be] at hB;exact dh hk hw hd (fun hd=>aaf (C:=D.cx N) hG.1 hG.2 hp rfl hc ha hco hrs hB.1 hB.2.1 hB.2.2.1 hB.2.2.2 hd) next
end
structure Wr (p:Prop):Prop where
 out:p
def sw (C:Cx) (c:Code) (Q:Exit→St→Prop):Nat→St→Prop
 | 0,_=>False
 | n+1,st=>PW C c st (Then (fun st'=>Wr (sw C c Q n st')) Q)
theorem a9f {C:Cx} {c:Code} {Q:Exit→St→Prop} {n:Nat} {st:St} (h:sw C c Q n st):PW C (.loop c) st Q:=fun a w ht hi=>by
 refine wp_loop_ghost (fun n a w=>∃st,sw C c Q n st∧Inv C st a w∧em st st.tys) n ⟨st,h,hi,ht⟩ fun n a w ⟨st,h,hi,ht⟩=>?_
 cases n with
 | zero=>exact h.elim
 | succ n=>
  refine wp_mono (h a w ht hi) fun e a w hq=>?_
  obtain⟨st',h1,h2,h3⟩:=hq;cases e with
  | normal=>exact⟨n,Nat.lt_succ_self n,st',h1.out,h3,h2⟩
  | _=>exact⟨st',h1,h2,h3⟩
section
variable {T:List Nat} {Z:Nat} {D:Dom Tryz.prog T Z} {N:Nat} {st:St} {Q:Exit→St→Prop} {c:Code} {k:Value} {v s:SV} {l:List SV}
theorem pul (n:Nat) (h:Wr (sw (D.cx N) c Q n st)):W D N (.loop c) st Q:=a9f h.out
theorem pur {n:Nat} (h:W D N c st (Then (fun st'=>Wr (sw (D.cx N) c Q n st')) Q)):Wr (sw (D.cx N) c Q (n+1) st):=⟨h⟩
theorem mg0 :mget [] k none:=rfl
theorem mgN {u:Value} {r:Option SV} (h:u≠k) (t:mget l k r):mget (.pv (.raw u)::v::l) k r:=⟨u,rfl,.inr ⟨h,t⟩⟩
theorem mgY :mget (.pv (.raw k)::v::l) k (some v):=⟨k,rfl,.inl ⟨rfl,rfl⟩⟩
theorem ms0 :mset [] k s [.pv (.raw k),s]:=rfl
theorem msN {u:Value} {r:List SV} (h:u≠k) (t:mset l k s r):mset (.pv (.raw u)::v::l) k s (.pv (.raw u)::v::r):=⟨u,rfl,.inr ⟨h,r,rfl,t⟩⟩
theorem msY :mset (.pv (.raw k)::v::l) k s (.pv (.raw k)::s::l):=⟨k,rfl,.inl ⟨rfl,rfl⟩⟩
theorem mk0 {d:TypeDesc}:j4 d []:=trivial
theorem mkS {a:ByteArray} (t:j4 .string l):j4 .string (.pv (.raw (.string a))::v::l):=⟨⟨_,rfl,trivial⟩,t⟩
end
def twM (l:List Dc) (i:Nat):List (Value×SV):=(l.take i).map fun d=>(.int .i64 d.index,.pv (bP true))
structure PthU (l:List Dc):Prop where
 un:∀d∈l,d.Un
 nd:(l.map (·.index)).Nodup
 len:l.length≤1000
theorem yu (l:List Dc) (i:Nat):∀p∈twM l i,Go.MapKept.IsKey (.int .i64) p.1:=fun p hp=>by
 obtain⟨d,_,rfl⟩:=List.mem_map.1 hp;rfl
theorem a7x (l:List Dc) (i:Nat):∀p∈twM l i,p.2.ids=[]:=fun p hp=>by
 obtain⟨d,_,rfl⟩:=List.mem_map.1 hp;rfl
theorem a7w {l:List Dc} {i:Nat} (h:PthU l) (hi:i < l.length):∀p∈twM l i,p.1≠.int .i64 (atZ l (i:Int)).index:=fun p hp e=>by
 obtain⟨d,hd,rfl⟩:=List.mem_map.1 hp;injection e with _ e;obtain⟨j,hj⟩:=List.getElem?_of_mem hd;rw[List.getElem?_take] at hj;split at hj
 ·rename_i hji
  have h1:(l.map (·.index))[j]?=some d.index:=by rw[List.getElem?_map,hj];rfl
  have h2:(l.map (·.index))[i]?=some (atZ l (i:Int)).index:=by rw[List.getElem?_map,ab hi];rfl
  rw[e] at h1;have:=(List.getElem?_inj (by rw[zB];omega) h.nd).1 (h1.trans h2.symm);omega
 ·cases hj
theorem ack {l:List Dc} {i:Nat} (hi:i < l.length):twM l i++[(.int .i64 (atZ l (i:Int)).index,.pv (bP true))]=twM l (i+1):=by
 unfold twM;rw[List.take_add_one,ab hi,zN];rfl
theorem a9r {l:List Dc} (h:PthU l):PCalls Tryz.prog [200] 235 [dcsP l] (bP false):=by
 refine pcA [42,368+1000000] Tryz.func235 (fun D=>?_);refine pa Y Y (pr0 (rmm1 6 ?_));refine au ?_;refine pl (ι:={i:Nat // i≤l.length}) (fun i=>[(3,.box 6 1000000),(7,.pv (dcsP l)),(8,.pv (iP (l.length:Int))),(9,.pv (iP i.1))]) (fun i=>[(6,.box (368+1000000) (mkM (twM l i.1)))]) [42,368+1000000] (fun i=>l.length - i.1) ⟨0,nq _⟩ (c2 Y Y (ai (congrArg (fun n:Nat=>some (SV.pv (iP (n:Int)))) (zB ..)) (ai Y trivial))) (ai Y trivial) (fun i=>(aap (a3n (a7x l i.1))).trans Y) ?_;intro ⟨i,hi0⟩;refine a2 (fun e10=>?_) (fun e10=>?_)
 ·have hi:i < l.length:=by have h9:(i:Int) < (l.length:Int):=zK (by simpa using e10);omega
  have h9:=h.len;have hu:=h.un _ (bg (z:=(i:Int)) om om);refine ax (c:=(ae (ab hi))) ?_;refine ac (c:=(show PCalls Tryz.prog [] 234 [dcP (atZ l (i:Int))] (bP true) from by have:=vw (atZ l (i:Int));rwa [hu.un] at this)) ?_;refine qg 4 ?_;refine rml0 (kt:=3) (et:=4) (d:=.int .i64) (.raw (.bool false)) (by kernel_rfl) (by kernel_rfl) (by kernel_rfl) (by exact Y) (ul (yu l i)) (wm (a7w h hi)) Y Y Y Y Y Y Y ?_;refine qg 1 ?_;refine rn Y (pj Y ?_);refine pk (pr0' (qg 6 ?_));refine rml0 (kt:=3) (et:=4) (d:=.int .i64) (.raw (.bool false)) (by kernel_rfl) (by kernel_rfl) (by kernel_rfl) (by exact Y) (ul (yu l i)) (wm (a7w h hi)) Y Y Y Y Y Y Y ?_;refine ac (c:=(show PCalls Tryz.prog [] 234 [dcP (atZ l (i:Int))] (bP true) from by have:=vw (atZ l (i:Int));rwa [hu.un] at this)) ?_;refine qg 1 ?_;refine rmp0 (kt:=3) (et:=4) (d:=.int .i64) (by kernel_rfl) (by kernel_rfl) (by exact Y) (ul (yu l i)) (a5s (a7w h hi)) Y Y Y Y Y Y Y Y Y ?_;refine aa (c:=a8 (by show i≤_;omega)) ?_;refine au ?_;exact pe ⟨i+1,hi⟩ (c4 Y Y Y Y trivial) (ai (congrArg (fun x=>some (Res.box _ (mkM x))) (ack hi)) trivial) ((aap (a3n (a7x l (i+1)))).trans Y) (by show l.length - (i+1) < l.length - i;omega)
 ·exact ar (c:=rfl)
theorem aoh {d:Dc} (h:d.Un):PCalls Tryz.prog [] 236 [dcP d] (.tup [.agg [iP d.index,bP (d.kind == 1)],bP true]):=by
 have hu:=h.un;refine pcA [42,322] Tryz.func236 (fun D=>?_);refine ac (c:=(show PCalls Tryz.prog [] 234 [dcP d] (bP true) from by have:=vw d;rwa [hu] at this)) ?_;exact ar (c:=rfl)
def phS (xs:List (List PV)) (d:Dc):List (List PV):=xs.set d.index.toNat [iP (bif d.kind == 1 then 1 else 2)]
def phR (l:List Dc):List (List PV):=l.foldl phS (List.replicate 1024 [iP 0])
theorem a59 {l:List Dc} {i:Nat} (hi:i < l.length):phS (phR (l.take i)) (atZ l (i:Int))=phR (l.take (i+1)):=by
 unfold phR;rw[List.take_add_one,ab hi,List.foldl_append];rfl
theorem a9n (l:List Dc):(phR l).length=1024∧∀r∈phR l,∃z,r=[iP z]:=by
 have:∀(l:List Dc) (xs:List (List PV)),(xs.length=1024∧∀r∈xs,∃z,r=[iP z])→(l.foldl phS xs).length=1024∧∀r∈l.foldl phS xs,∃z,r=[iP z]:=fun l=>by
  induction l with
  | nil=>intro xs h;exact h
  | cons d l ih=>
   intro xs h;refine ih _ ⟨by unfold phS;rw[List.length_set];exact h.1,fun r hr=>?_⟩;rcases List.mem_or_eq_of_mem_set hr with e | e
   ·exact h.2 r e
   ·exact⟨_,e⟩
 exact this l _ ⟨List.length_replicate,fun r hr=>⟨0,(List.mem_replicate.1 hr).2⟩⟩
theorem aln (l:List Dc) {j:Nat} (hj:j < 8):∃z,(phR l)[j]?=some [iP z]:=by
 obtain⟨h1,h2⟩:=a9n l;obtain⟨z,hz⟩:=h2 _ (List.getElem_mem (l:=phR l) (n:=j) om);exact⟨z,by rw[ge om,hz]⟩
theorem am0 {l:List Dc} (h:PthU l):PCalls Tryz.prog [200] 197 [dcsP l,iP 1024] (.tup [.rows 3 1 [] (phR l),iP 0]):=by
 refine pcA [42,322,3] Tryz.func197 (fun D=>?_);refine akF (c:=by exact (show _=false from rfl)) ?_;refine akF (c:=by exact (show _=false from rfl)) ?_;refine au ?_;refine pl (ι:={i:Nat // i≤l.length}) (fun i=>[(0,.pv (dcsP l)),(1,.pv (iP 1024)),(18,.pv (dcsP l)),(19,.pv (iP (l.length:Int))),(20,.pv (iP i.1))]) (fun i=>[]) [42,322,3] (fun i=>l.length - i.1) ⟨0,nq _⟩ (c3 Y Y Y (ai (congrArg (fun n:Nat=>some (SV.pv (iP (n:Int)))) (zB ..)) (ai Y trivial))) trivial (fun _=>rfl) ?_;intro ⟨i,hi0⟩;refine a2 (fun e21=>?_) (fun e21=>?_)
 ·have hi:i < l.length:=by have h9:(i:Int) < (l.length:Int):=zK (by simpa using e21);omega
  have h9:=h.len;have hu:=h.un _ (bg (z:=(i:Int)) om om);refine ax (c:=(ae (ab hi))) ?_;refine ac (c:=(a5d hu)) ?_;refine ac (c:=(show PCalls Tryz.prog [] 234 [dcP (atZ l (i:Int))] (bP true) from by have:=vw (atZ l (i:Int));rwa [hu.un] at this)) ?_;refine akF (c:=by exact (hu.lim 1024 dx).2.2) ?_;refine aa (c:=a8 (by show i≤_;omega)) ?_;refine au ?_;exact pe ⟨i+1,hi⟩ (c5 Y Y Y Y Y trivial) trivial Y (by show l.length - (i+1) < l.length - i;omega)
 ·refine ac (c:=a9r h) ?_;refine akF (c:=by exact df (by rw[zB];have:=h.len;omega)) ?_;refine qg 1 ?_;refine rn Y (pj Y ?_);refine pk (pr0 (qg 1 ?_));refine rmk0 (n:=1024) 46 dx (a3r (by kernel_rfl)) Y Y Y Y Y Y Y Y Y Y Y ?_;refine au ?_;refine pl (ι:={i:Nat // i≤l.length}) (fun i=>[(0,.pv (dcsP l)),(8,.tok 46),(47,.pv (dcsP l)),(48,.pv (iP (l.length:Int))),(49,.pv (iP i.1))]) (fun i=>[(46,.tok 3 1 [] (phR (l.take i.1)))]) [42,322,3] (fun i=>l.length - i.1) ⟨0,nq _⟩ (c3 Y Y Y (ai (congrArg (fun n:Nat=>some (SV.pv (iP (n:Int)))) (zB ..)) (ai Y trivial))) (ai Y trivial) (fun _=>rfl) ?_;intro ⟨i,hi0⟩;refine a2 (fun e50=>?_) (fun e50=>?_)
  ·have hi:i < l.length:=by have h9:(i:Int) < (l.length:Int):=zK (by simpa using e50);omega
   have h9:=h.len;have hu:=h.un _ (bg (z:=(i:Int)) om om);obtain⟨jx,hjx,hj8⟩:=hu.idx;have hidx:(atZ l (i:Int)).index=((atZ l (i:Int)).index.toNat:Int):=by rw[hjx];rfl
   have htn:(atZ l (i:Int)).index.toNat=jx:=by rw[hjx];rfl
   obtain⟨z,hz⟩:=aln (l.take i) (j:=(atZ l (i:Int)).index.toNat) om;have hlen:=(a9n (l.take i)).1;have hz2:((phR (l.take i)).set (atZ l (i:Int)).index.toNat [iP 2])[(atZ l (i:Int)).index.toNat]?=some [iP 2]:=List.getElem?_set_self om;refine ax (c:=(ae (ab hi))) ?_;refine ac (c:=aoh hu) ?_;refine qg 6 ?_;refine rn Y (pa Y Y (pi Y ?_));refine pr0 (qg 3 ?_);refine ro0 Y Y Y (fun hd=>iq (i:=(atZ l (i:Int)).index.toNat) ah Y Y Y Y Y Y dx (show (atZ l (i:Int)).index=((atZ l (i:Int)).index.toNat:Int) from hidx) hz hd) ?_;refine ro0 Y Y Y (fun hd=>ed (i:=(atZ l (i:Int)).index.toNat) (j:=0) ah Y Y Y Y Y Y Y hz Y Y Y Y Y) ?_;refine a2 (fun e66=>?_) (fun e66=>?_)
   ·refine pr0' (qg 3 ?_);refine ro0 Y Y Y (fun hd=>iq (i:=(atZ l (i:Int)).index.toNat) ah Y Y Y Y Y Y dx (show (atZ l (i:Int)).index=((atZ l (i:Int)).index.toNat:Int) from hidx) hz2 hd) ?_;refine ro0 Y Y Y (fun hd=>ed (i:=(atZ l (i:Int)).index.toNat) (j:=0) ah Y Y Y Y Y Y Y hz2 Y Y Y Y Y) ?_;refine aa (c:=a8 (by show i≤_;omega)) ?_;refine au ?_;exact pe ⟨i+1,hi⟩ (c5 Y Y Y Y Y trivial) (ai (congrArg (fun x=>some (Res.tok _ _ _ x)) ((List.set_set ..).trans ((show _=phS (phR (l.take i)) (atZ l (i:Int)) from by unfold phS;rw[e66];rfl).trans (a59 hi)))) trivial) Y (by show l.length - (i+1) < l.length - i;omega)
   ·refine aa (c:=a8 (by show i≤_;omega)) ?_;refine au ?_;exact pe ⟨i+1,hi⟩ (c5 Y Y Y Y Y trivial) (ai (congrArg (fun x=>some (Res.tok _ _ _ x)) (((show _=phS (phR (l.take i)) (atZ l (i:Int)) from by unfold phS;rw[e66];rfl).trans (a59 hi)))) trivial) Y (by show l.length - (i+1) < l.length - i;omega)
  ·have hj:i=l.length:=by have h9:¬(i:Int) < (l.length:Int):=zM (by simpa using e50);omega
   exact ar (c:=congrArg (fun x=>PV.tup [.rows 3 1 [] (phR x),iP 0]) ((congrArg (fun j=>l.take j) hj).trans List.take_length))
theorem amb {d:Dc} (h:d.Un):PCalls Tryz.prog [200] 385 [dcP d] (bP false):=by
 refine pcA [42] Tryz.func385 (fun D=>?_);refine ac (c:=(a5d h)) ?_;exact ar (c:=rfl)
section
attribute [local go_sem] Oper.semAt_some
open Lib (hid)
set_option maxRecDepth 100000 in
theorem aki (b:Nat) (w:World) (h0:w.cell? ⟨b,0,none⟩=some (.pointer (some ⟨b,0,none⟩))):
  Calls Tryz.prog 237 #[.pointer (some ⟨b,0,none⟩)] w fun e w'=>e=.returned (.tuple #[])∧w'=w:=by
 obtain⟨j,hj,_⟩:=Option.map_eq_some_iff.1 (show (Tryz.prog.info? 289).map (·.size)=some 2 from by kernel_rfl);go_enter Tryz.func237,Tryz.ntmps237;go_wp2;rw[Lib.run_neq_ptr_same w _ Tryz.underlying287 hj];go_wp2;go_end0
 exact⟨rfl,rfl⟩
set_option maxRecDepth 100000 in
theorem afp (b:Nat) (w:World) (h0:w.cell? ⟨b,0,none⟩=some (.pointer none)) (hsh:w.shape? b=some (289,2)) (hfz:w.frozen? ⟨b,0,none⟩=false):
  Calls Tryz.prog 237 #[.pointer (some ⟨b,0,none⟩)] w fun e w'=>e=.returned (.tuple #[])∧w'=w.setCell ⟨b,0,none⟩ (.pointer (some ⟨b,0,none⟩)):=by
 obtain⟨j,hj,hjs⟩:=Option.map_eq_some_iff.1 (show (Tryz.prog.info? 289).map (·.size)=some 2 from by kernel_rfl);go_enter Tryz.func237,Tryz.ntmps237;go_wp2;rw[Lib.run_to_unsafe w ⟨b,0,none⟩ Tryz.underlying287 Tryz.underlying186 hj (by rw[hjs];decide) hsh (Nat.zero_lt_succ 1)];simp only[Result.andThen];rw[Oper.upon_value];go_wp2;rw[run_callFunc_extern Tryz.func285 (by kernel_rfl) (by kernel_rfl) (by kernel_rfl) (e:=Extern.AbiNoEscape.same) (by kernel_rfl)];rw[Lib.run_noEscape];simp only[Result.andThen];rw[Oper.upon_value];go_wp2;rw[Lib.run_from_unsafe w ⟨b,0,none⟩ Tryz.underlying186 Tryz.underlying287 hj hsh (by kernel_rfl)];simp only[Result.andThen];rw[Oper.upon_value];go_wp2;go_end0
 exact⟨rfl,rfl⟩
abbrev IsB (B b:Nat) (bs:List Value) (w:World):Prop:=Lib.IsBuilder 289 5 B b bs w
theorem ans (B b:Nat) (bs:List Value) (w:World) (h:IsB B b bs w):
  Calls Tryz.prog 237 #[.pointer (some ⟨b,0,none⟩)] w fun e w'=>e=.returned (.tuple #[])∧(Lib.BuilderAt 289 5 B b (.pointer (some ⟨b,0,none⟩)) bs w'∧Below B w w'):=by
 rcases h with h | h
 ·refine (afp b w h.cell0 h.shape h.frozen0).mono ?_;rintro e w' ⟨rfl,rfl⟩;exact⟨rfl,h.used _,(Below.refl B w).setCell (p:=⟨b,0,none⟩) h.1 _⟩
 ·refine (aki b w h.cell0).mono ?_;rintro e w' ⟨rfl,rfl⟩;exact⟨rfl,h,Below.refl B _⟩
set_option maxRecDepth 100000 in
theorem ach (B b:Nat) (bs:List Value) (s:ByteArray) (w:World) (h:IsB B b bs w) (hlen:bs.length+s.size≤140737488355328) (hBw:B≤w.heap.size):
  Calls Tryz.prog 198 #[.pointer (some ⟨b,0,none⟩),.string s] w fun e w'=>e=.returned (.tuple #[.int .i64 s.size,.nilIface])∧(IsB B b (bs++Lib.strCells s) w'∧Below B w w'):=by
 obtain⟨i0,hi,hz0,hz1,hz2⟩:=info_parts (show (Tryz.prog.info? 5).map (fun i=>(i.zero,i.size,i.bytes))=some (some (.int .u8 0),1,1) from by kernel_rfl);have hcc:=hid (ans B b bs w h);go_enter Tryz.func198,Tryz.ntmps198;go_wp2_with fail;refine hcc.out.mono ?_;rintro e w1 ⟨rfl,h1,hb1⟩;obtain⟨hB,v,hbk,hown,hne⟩:=h1;have c0:w1.cell? ⟨b,0,none⟩=some (.pointer (some ⟨b,0,none⟩)):=by rw[Lib.cell_of_heap hbk];rfl
 have c1:w1.cell? ⟨b,1,none⟩=some v:=by rw[Lib.cell_of_heap hbk];rfl
 go_wp2_with (at_builtin;refine Lib.wpList_append_own_string _ rfl _ _ 22 9 rfl B 5 i0 Tryz.underlying22 Tryz.underlying9 hi hz0 hz1 hz2 _ _ _ rfl hown s rfl ?c3 ?c4 ?c5 ?_);case c3=>unfold maxLen;omega
 case c4=>omega
 case c5=>have:=hb1.size;omega
 intro v' w2 hown' hgrow _;have hlt:b < w1.heap.size:=by
  rcases zU b w1.heap.size with h' | h'
  ·exact h'
  ·simp[zR h'] at hbk
 have hb2:w2.heap[b]?=some (.cells #[.pointer (some ⟨b,0,none⟩),v] 289 (0,0)):=by
  rw[hgrow.block b hlt (fun e=>hne e.symm)];exact hbk
 have d0:w2.cell? ⟨b,0,none⟩=some (.pointer (some ⟨b,0,none⟩)):=by rw[Lib.cell_of_heap hb2];rfl
 have d1:w2.cell? ⟨b,1,none⟩=some v:=by rw[Lib.cell_of_heap hb2];rfl
 have f1:w2.frozen? ⟨b,1,none⟩=false:=Lib.frozen_of_heap hb2 1;obtain⟨ao,n',cap,rfl⟩:∃ao n' cap,v'=.slice ao n' cap:=by
  rcases hown'.2 with ⟨hv,_⟩ | ⟨g,cap,cur,hv,_⟩
  ·exact⟨_,_,_,hv⟩
  ·exact⟨_,_,_,hv⟩
 go_wp2;go_ret2;refine⟨rfl,?_,?_⟩
 ·exact .inr (Lib.BuilderAt.put (T:=289) (e:=5) hB hb2 (bs':=bs++Lib.strCells s) (by simpa [Lib.strCells_length] using hown') dx)
 ·exact (hb1.grown hgrow (by have:=hb1.size;omega) (fun k hk=>(hown.lt k hk).1)).setCell (p:=⟨b,1,none⟩) hB _
open Lib (hid)
theorem ann {w:World} {X:Nat→Prop} {x:Sv} {l:List Dc} (h:(dcsP l).Rep w X x.v) {j:Nat} {d:Dc} (hj:l[j]?=some d):∃(ad:Addr) (nm dn:Sv),x.A=some ad∧w.cell? (ad.add (j*5))=some (.int .i64 d.kind)∧w.cell? ⟨(ad.add (j*5)).block,(ad.add (j*5)).off+1,none⟩=some (.int .i64 d.index)∧w.cell? ⟨(ad.add (j*5)).block,(ad.add (j*5)).off+2,none⟩=some (.bool d.at_.neg)∧w.cell? ⟨(ad.add (j*5)).block,(ad.add (j*5)).off+3,none⟩=some (.slice nm.A nm.n nm.c)∧w.cell? ⟨(ad.add (j*5)).block,(ad.add (j*5)).off+4,none⟩=some (.slice dn.A dn.n dn.c)∧PV.RepL w X (dcC d) [.int .i64 d.kind,.int .i64 d.index,.bool d.at_.neg,.slice nm.A nm.n nm.c,.slice dn.A dn.n dn.c]:=by
 unfold dcsP at h;rw[PV.Rep] at h;obtain⟨x',us,hv,hn,his,_,_,hrep,hok⟩:=h;have hx:x=x':=by
  obtain⟨A,n,c⟩:=x;obtain⟨A',n',c'⟩:=x';simp only[Sv.v,Value.slice.injEq] at hv;obtain⟨rfl,rfl,rfl⟩:=hv;rfl
 subst hx;obtain⟨u,hu,hr⟩:=hrep.at (show (l.map dcC)[j]?=some (dcC d) by rw[List.getElem?_map,hj];rfl);have hr0:=hr;unfold dcC at hr;obtain⟨u0,us0,rfl,g0,hr⟩:=PV.RepL.inv' hr;obtain⟨u1,us1,rfl,g1,hr⟩:=PV.RepL.inv' hr;obtain⟨u2,us2,rfl,g2,hr⟩:=PV.RepL.inv' hr;obtain⟨u3,us3,rfl,g3,hr⟩:=PV.RepL.inv' hr;obtain⟨u4,us4,rfl,g4,hr⟩:=PV.RepL.inv' hr;obtain rfl:=PV.RepL.inv0 hr;obtain rfl:=rz g0;obtain rfl:=rz g1;obtain rfl:=rz g2;obtain⟨nm,rfl⟩:=aau g3;obtain⟨dn,rfl⟩:=aau g4;have hk:∀u∈us,u.length=5:=hrep.rows fun r hr=>(hok r hr).1
 have hc:∀k v,k < 5→[Value.int .i64 d.kind,.int .i64 d.index,.bool d.at_.neg,nm.v,dn.v][k]?=some v→∃ad,x.A=some ad∧w.cell? (ad.add (j*5+k))=some v:=fun k v hk5 hv=>by
  obtain⟨ad,h1,_,h3⟩:=his.see (j*5+k) v ((kz hk hu hk5).trans hv);exact⟨ad,h1,h3⟩
 obtain⟨ad,hA,c0⟩:=hc 0 _ dx rfl;obtain⟨a1,h1,c1⟩:=hc 1 _ dx rfl;obtain⟨a2,h2,c2⟩:=hc 2 _ dx rfl;obtain⟨a3,h3,c3⟩:=hc 3 _ dx rfl;obtain⟨a4,h4,c4⟩:=hc 4 _ dx rfl;rw[hA] at h1 h2 h3 h4;cases h1;cases h2;cases h3;cases h4
 rw[ao0 _ _ dx] at c1 c2 c3 c4;exact⟨ad,nm,dn,hA,c0,c1,c2,c3,c4,hr0⟩
theorem a12 (d:Dc):Lib.strCells (dtx d++⟨#[59]⟩)=Lib.byteCells ((dtx d++⟨#[59]⟩).data.toList):=rfl
theorem ab5 {l:List Dc} {i:Nat} {d:Dc} (hd:l[i]?=some d):Lib.byteCells (keyL (l.take i))++Lib.strCells (dtx d++⟨#[59]⟩)=Lib.byteCells (keyL (l.take (i+1))):=by
 rw[a12];unfold keyL Lib.byteCells;rw[List.take_add_one,hd,List.flatMap_append,zN];simp
theorem a5x:∀(l:List Dc),(keyL l).length≤8*l.length
 | []=>nr _
 | d::l=>by
  have h1:=a5x l;have h2:((dtx d++⟨#[59]⟩).data.toList).length≤8:=by
   rw[r7];cases d.kind == 1<;>exact zD rfl
  rw[keyL,List.flatMap_cons,zI,zW];unfold keyL at h1;omega
theorem an4 {l:List Dc} (h:PthU l) (t:Nat) (d:Dc):(Lib.byteCells (keyL (l.take t))).length+(dtx d++⟨#[59]⟩:ByteArray).size≤140737488355328:=by
 rw[Lib.byteCells_length,rj];have h1:=a5x (l.take t);have h2:=a6e d;have h3:=h.len;have h4:(l.take t).length≤l.length:=by rw[List.length_take];omega
 have h5:(⟨#[59]⟩:ByteArray).size=1:=rfl;omega
theorem IsB.gr {B b:Nat} {bs:List Value} {w w':World} (h:IsB B b bs w) (G:Gr w w'):IsB B b bs w':=by
 have key:∀p,Lib.BuilderAt 289 5 B b p bs w→Lib.BuilderAt 289 5 B b p bs w':=fun p ⟨h1,v,h2,h3,h4⟩=>⟨h1,v,(G.bk (show Bk w b _ _ from h2):Bk w' b _ _),ahp h3 G,h4⟩
 exact h.elim (fun h=>.inl (key _ h)) fun h=>.inr (key _ h)
set_option maxRecDepth 100000 in
theorem ajv (w:World) (X:Nat→Prop) (l:List Dc) (zA:Option Addr) (zn zc:Nat) (h:PthU l) (hX:∀b,X b→b < w.heap.size) (hT:∀b cs t fr,X b→w.heap[b]?=some (.cells cs t fr)→t ∉ [200]) (hr:(dcsP l).Rep w X (Sv.v ⟨zA,zn,zc⟩)):
  Calls Tryz.prog 153 #[.slice zA zn zc] w fun e w'=>e=.returned (.tuple #[.string (keyB l),.bool true])∧Gr w w':=by
 have hn:zn=l.length:=by
  unfold dcsP at hr;obtain⟨x,h1,h2⟩:=a4r hr;rw[zB] at h2;have:zn=x.n:=by injection h1
  rw[this,h2]
 have HR:=hid hr;have HU:=hid h;have HN:=hid hn;have HX:=hid hX;have HT:=hid hT;have HP:=hid ((am0 h).2 w X [Sv.v ⟨zA,zn,zc⟩,.int .i64 1024] hX hT (PV.RepL.cons hr (PV.RepL.cons (by unfold iP;rw[PV.Rep]) PV.RepL.nil)));clear hr h hX hT hn;go_enter Tryz.func153,Tryz.ntmps153;go_wp2_with fail;refine HP.out.mono ?_;rintro e w1 ⟨v,rfl,hv,G1⟩;obtain⟨u1,u2,rfl,-,hu2⟩:=acl hv;obtain rfl:=rz hu2;have HG:=hid G1;clear G1 hv hu2 HP;go_wp2_with fail;have hb:Hid (IsB w1.heap.size w1.heap.size [] (w1.alloc (.cells #[.pointer none,.slice none 0 0] 289))):=.inl ⟨nr _,.slice none 0 0,Bk.made _ _ _,World.ownsRow_nil _ _ _ _,by simp[Value.ownBlock]⟩;have HG2:=hid (HG.out.alloc (.cells #[.pointer none,.slice none 0 0] 289));have hs2:Hid (w1.heap.size≤(w1.alloc (.cells #[.pointer none,.slice none 0 0] 289)).heap.size):=by show _≤_;rw[World.size_alloc];omega
 have hs1:Hid (w.heap.size≤w1.heap.size):=HG.out.size;generalize w1.alloc (.cells #[.pointer none,.slice none 0 0] 289)=w2 at*;generalize w1.heap.size=bb at*;clear HG;go_loopw [18] (fun s0 wr=>∃(t:Nat),s0=.int .i64 t∧t≤zn∧Hid (IsB bb bb (Lib.byteCells (keyL (l.take t))) wr)∧Hid (Gr w wr)∧Hid (bb≤wr.heap.size)) (fun s0 _=>zn - (intOf s0).toNat)
 case atStart=>exact⟨0,rfl,nq _,hb,HG2,hs2⟩
 case round=>
  clear hb HG2 hs2;obtain⟨t,rfl,ht,HB,HG,HS⟩:=hrel;by_cases htn:t < zn
  ·obtain⟨d,hd⟩:∃d,l[t]?=some d:=⟨_,ge (by rw[← HN.out];exact htn)⟩;obtain⟨ad,nm,dn,hA,c0,c1,c2,c3,c4,hrd⟩:=ann (HR.out.gr HG.out) hd;have hA:zA=some ad:=hA;subst hA;have HD:=hid hd;have hu:=HU.out.un d (mg hd);have ht9:t < 9223372036854775807:=by have:=HU.out.len;have:=HN.out;omega
   have HL:Hid ((Lib.byteCells (keyL (l.take t))).length+(dtx d++⟨#[59]⟩:ByteArray).size≤140737488355328):=an4 HU.out t d;have HKS:=hid (ab5 hd);obtain⟨B1,GB⟩:=aoo wr 42 #[.int .i64 d.kind,.int .i64 d.index,.bool d.at_.neg,.slice nm.A nm.n nm.c,.slice dn.A dn.n dn.c];have DX:=hid B1;have HTX:=hid fun (W:World) (G:Gr (wr.alloc (.cells #[.int .i64 d.kind,.int .i64 d.index,.bool d.at_.neg,.slice nm.A nm.n nm.c,.slice dn.A dn.n dn.c] 42)) W)=>(a9s hu).2 W X [.agg #[.int .i64 d.kind,.int .i64 d.index,.bool d.at_.neg,.slice nm.A nm.n nm.c,.slice dn.A dn.n dn.c]] (fun b hb=>nk (HX.out b hb) ((HG.out.trans GB).trans G).size) (fun b cs t fr hb hh=>HT.out b cs t fr hb (by rw[← ((HG.out.trans GB).trans G).below.block b (HX.out b hb)];exact hh)) (PV.RepL.cons (aht (hrd.gr (GB.trans G))) PV.RepL.nil)
   have HB1:=hid (IsB.gr HB.out GB);have HG1:=hid (HG.out.trans GB);have GBS:=hid GB;have HS1:=hs1;have e0:=B1.c5;obtain⟨e0,e1,e2,e3,e4⟩:=e0;clear hd hrd hu GB B1 HB;go_wp2_with fail;refine (HTX.out _ (Gr.refl _)).mono ?_;rintro e w3 ⟨v,rfl,hv,G3⟩;obtain rfl:=rz hv;have hsz:(dtx d).size+1≤9223372036854775807:=by have:=a6e d;omega
   have hsz1:(⟨#[59]⟩:ByteArray).size=1:=rfl;have HB3:=hid (IsB.gr HB1.out G3);have HG3:=hid (HG1.out.trans G3);have HS3:Hid (bb≤w3.heap.size):=nt HS.out (GBS.out.trans G3).size;clear hv G3 HB1 HG1 HTX DX e0 e1 e2 e3 e4;go_wp2_with fail;generalize hsx:(dtx d++⟨#[59]⟩:ByteArray)=sx at*;refine (ach bb bb _ sx w3 HB3.out HL.out HS3.out).mono ?_;rintro e w4 ⟨rfl,hb4,hbl⟩;have HB4:=hid hb4;have HG4:Hid (Gr w w4):=Gr.of (HG3.out.below.trans (hbl.mono HS1.out));have HS4:Hid (bb≤w4.heap.size):=nt HS3.out hbl.size;clear hb4 hbl HB3 HG3 HS3 HL hsx;go_wp2_with fail;go_roundw
   case rel=>exact⟨t+1,by go_num,by omega,by rw[← HKS.out];exact HB4,HG4,HS4⟩
   case measure=>simp[intOf];omega
  ·obtain rfl:t=zn:=by omega
   have hk:l.take t=l:=List.take_of_length_le (by rw[HN.out];exact nr _);rw[hk] at HB;clear hk;go_wp2_with fail;refine (Tryz.Builder_String_any bb bb (keyL l) _ HB.out HS.out).mono ?_;rintro e w4 ⟨rfl,hbl⟩;have HG4:Hid (Gr w w4):=Gr.of (HG.out.below.trans (hbl.mono hs1.out));clear hbl HB HG HS;go_wp2;refine bodyPost_ret (by simp[results,Tryz.results153,go_sem];try rfl) rfl ?_;exact⟨rfl,HG4.out⟩
end
def PCallsW (H:World→Prop) (P:Program) (T:List Nat) (f:FuncId) (args:List PV) (res:PV):Prop:=fv P f=true∧
 ∀(w:World) (X:Nat→Prop) (us:List Value),H w→(∀b,X b→b < w.heap.size)→(∀b cs t fr,X b→w.heap[b]?=some (.cells cs t fr)→t ∉ T)→PV.RepL w X args us→
  Calls P f us.toArray w fun e w'=>∃v,e=.returned v∧res.Rep w' X v∧Gr w w'
theorem PCallsW.of {H:World→Prop} {P:Program} {tab:Tab} {T:List Nat} {f:FuncId} {args:List PV} {res:PV} {fn:Func} {c:Code} (tys:List Nat) (hT:ie P tab) (hm:P.follows .mixedOrders=true) (hcall:fv P f=true) (hf:P.funcs[f]?=some fn) (hb:fn.body=some c) (hn:Nat.ble args.length fn.ntmps=true) (h:∀D:Dom P T 0,(∀i,¬D.F i)→(∀b,¬D.M b)→H D.w0→PW (D.cx fn.ntmps) c (St.init args tys) (RetQ P tab fn res)):PCallsW H P T f args res:=by
 refine⟨hcall,fun w X us hG hX hXT hr=>?_⟩;have hn:=zD hn
 let D:Dom P T 0:=⟨w,X,hX,hm,hXT,fun _=>False,(fun _ _ h=>h),fun _=>False,fun _=>0,fun _=>undef⟩
 refine calls_of_wp hf hb ?_;have hlen:=hr.len;have hinv:Inv (D.cx fn.ntmps) (St.init args tys) { tmps:=us.toArray++Array.replicate (fn.ntmps - us.toArray.size) undef,defers:=[] } w:=by
  refine⟨fun _=>0,fun _=>Sv.none,⟨⟨by simp;omega,fun t h=>absurd h (Nat.not_lt_zero t)⟩,rfl,⟨Fr.refl _ w,fun i h=>h.1.elim⟩,fun t s e=>?_,fun t s e i hi=>?_,(fun i r e=>by cases e),(fun i r e=>by cases e),fun i r j q b e=>by cases e⟩⟩
  ·simp only[St.init] at e;obtain⟨p,hp,rfl⟩:=Option.map_eq_some_iff.1 e;obtain⟨u,hu,hpr⟩:=hr.at hp;rw[SV.Rep];have hut:(us.toArray++Array.replicate (fn.ntmps - us.toArray.size) undef).getD t undef=u:=by
    have hlt:=(gs hu).1;rw[Array.getD_eq_getD_getElem?,Array.getElem?_append_left (by simpa using hlt)];simp[hu]
   rw[hut];exact hpr.still ⟨nr _,fun b cs t fr hx hh ht=>⟨rfl,fun hb=>by
    rcases hb with hb | ⟨i,r,hr,_⟩
    ·exact hx hb
    ·cases hr⟩⟩
  ·simp only[St.init] at e;obtain⟨p,hp,rfl⟩:=Option.map_eq_some_iff.1 e;cases (show i∈([]:List Nat) from hi)
 refine Code.wp_mono (fun e a w' hq=>?_) (h D (fun _ h=>h) (fun _ h=>h) hG _ w (fun i r e=>by cases e) hinv);obtain⟨st,h1,_,h3⟩:=hq;cases e with
 | ret=>
  obtain⟨v,g1,g2⟩:=og (C:=D.cx fn.ntmps) hT h3 h1;obtain⟨B,T',h4⟩:=h3;exact bodyPost_ret g1 h4.dfr ⟨v,rfl,g2,Gr.of_fr h4.gr.fr⟩
 | normal=>
  obtain⟨v,g1,g2⟩:=og (C:=D.cx fn.ntmps) hT h3 h1;obtain⟨B,T',h4⟩:=h3;exact bodyPost_end g1 h4.dfr ⟨v,rfl,g2,Gr.of_fr h4.gr.fr⟩
 | _=>exact h1.elim
theorem pcW {H:World→Prop} {T:List Nat} {f:FuncId} {args:List PV} {res:PV} {fn:Func} {c:Code} (tys:List Nat) (hcall:fv Tryz.prog f=true) (hf:(Tryz.prog).funcs[f]?=some fn) (hb:fn.body=some c) (hn:Nat.ble args.length fn.ntmps=true) (h:∀D:Dom Tryz.prog T 0,(∀i,¬D.F i)→(∀b,¬D.M b)→H D.w0→W D fn.ntmps c (St.init args tys) (RetQ Tryz.prog tab fn res)):PCallsW H Tryz.prog T f args res:=PCallsW.of tys ah a1z hcall hf hb hn h
theorem GrC.gr {C:Cx} {B:Nat→Nat} {w:World} (h:GrC C B w) (hM:∀b,¬C.M b):Gr C.w0 w:=Gr.of_fr h.fr hM
section
variable {T:List Nat} {Z:Nat} {D:Dom Tryz.prog T Z} {N:Nat} {st:St} {Q:Exit→St→Prop} {ops:List Oper} {draw:Bool} {acc:List Itm}
theorem rcw {k:Nat} {ks:List Nat} {c:Call} {f:FuncId} {ss:List SV} {ps:List PV} {res:PV} {Tg:List Nat} {dst:Option Nat} {ty:TypeId} {pos:String} {af:Array Edge} {gd:Option (Nat×Bool)} {H:World→Prop} (hM:∀b,¬D.M b) (hH:∀w,Gr D.w0 w→H w) (hp:PCallsW H Tryz.prog Tg f ps res) (hk:nthL ops k=some ⟨dst,.call c,ty,pos,af,gd⟩) (hw:co ops.toArray ⟨dst,.call c,ty,pos,af,gd⟩ st=some true) (hd:dstB ⟨dst,.call c,ty,pos,af,gd⟩ N Z=true) (hc:c.callee=.value (.func f)) (ha:evL st c.args.toList=some ss) (hco:lz st ss=some ps) (hT:(Tg.all (fun t=>T.contains t)&&(Tg.all (fun t=>!st.tys.contains t)&&ta st (SV.idsL ss) res.ty))=true) (next:Reg (D.cx N) ops draw Q (acc++[⟨k,true,valE (.pv res) (SV.idsL ss),lkOf ops k st (valE (.pv res) (SV.idsL ss))⟩]) ks ((valE (.pv res) (SV.idsL ss)).app dst st)):Reg (D.cx N) ops draw Q acc (k::ks) st:=by
 simp only[be] at hT;exact dh hk hw hd (fun hd=>vz (C:=D.cx N) rfl hc ha (i8 hco) ⟨hp.1,fun w B g X us=>hp.2 w X us (hH w (GrC.gr (C:=D.cx N) g hM))⟩ hT.1 hT.2.1 hT.2.2 hd) next
end
section
variable {C:Cx} {o:Oper} {st:St} {x:Operand}
theorem ui {A:Option Addr} {n k:Nat} (hP:C.P=Tryz.prog) (ho:o.op=.call { callee:=.builtin .len,args:=#[x],argTypes:=#[22] }) (hx:ev st x=some (.pv (.raw (.slice A n k)))) (hd:∀d,o.dst=some d→C.dk d):OpE C st.tys o st (valE (.pv (.raw (.int .i64 (n:Int)))) []):=by
 refine bj hd fun st1 ag a w B T hi=>?_
 rw[← ag.ev (by rw[ho];simp[Op.operands,Call.operands])] at hx;have h1:=(az hi hx).1;rw[SV.Rep,PV.Rep] at h1;have hu:C.P.underlying 22=some (.slice 5):=by rw[hP];kernel_rfl
 refine⟨.int .i64 (n:Int),?_,by rw[SV.Rep,PV.Rep],fun i hi=>by cases (show i∈([]:List Nat) from hi)⟩;simp[execOp,ho,resolve,invoke,builtin,Builtin.len_,h1,run_underlying hu,goInt]
theorem aen {y:Operand} {ad:Addr} {n k i:Nat} {kd:IntKind} {z:Int} (hP:C.P=Tryz.prog) (ho:o.op=.indexAddr 22 x y) (hx:ev st x=some (.pv (.raw (.slice (some ad) n k)))) (hy:ev st y=some (.pv (.raw (.int kd z)))) (hz:z=(i:Int)) (hi:i < n) (hd:∀d,o.dst=some d→C.dk d):OpE C st.tys o st (valE (.pv (.raw (.pointer (some (ad.add i))))) []):=by
 refine bj hd fun st1 ag a w B T hin=>?_
 rw[← ag.ev (by rw[ho];simp[Op.operands])] at hx hy;have h1:=(az hin hx).1;have h2:=(az hin hy).1;rw[SV.Rep,PV.Rep] at h1 h2;have hu:C.P.underlying 22=some (.slice 5):=by rw[hP];kernel_rfl
 have hsz:(C.P.info? 5).map (·.size)=some 1:=by rw[hP];kernel_rfl
 refine⟨.pointer (some (ad.add i)),?_,by rw[SV.Rep,PV.Rep],fun i hi=>by cases (show i∈([]:List Nat) from hi)⟩;have hlt:(i:Int) < (n:Int):=by omega
 simp[execOp,ho,h1,h2,hz,Instr.indexAt,asIntOf,run_underlying hu,hlt,ke hsz];intro h;omega
theorem aac {ad:Addr} {u:Value} (hP:C.P=Tryz.prog) (hM:∀b,¬C.M b) (hc:∀w,Gr C.w0 w→w.cell? ad=some u) (ho:o.op=.load 5 x) (hx:ev st x=some (.pv (.raw (.pointer (some ad))))) (hd:∀d,o.dst=some d→C.dk d):OpE C st.tys o st (valE (.pv (.raw u)) []):=by
 refine bj hd fun st1 ag a w B T hin=>?_
 rw[← ag.ev (by rw[ho];simp[Op.operands])] at hx;have h1:=(az hin hx).1;rw[SV.Rep,PV.Rep] at h1;have hu:C.P.underlying 5=some (.int .u8):=by rw[hP];kernel_rfl
 refine⟨u,?_,by rw[SV.Rep,PV.Rep],fun i hi=>by cases (show i∈([]:List Nat) from hi)⟩;simp only[execOp,ho,h1,Instr.loadAt,Instr.sureAddr,Sem.run_bind,Sem.run_pure,Result.andThen_ok];have:=iw (P:=C.P) (w:=w) hu rfl (hc w (hin.gr.gr hM));simp only[this,Result.andThen_ok]
end
section
variable {C:Cx} {tys:List Nat} {o:Oper} {st:St} {t t2:Nat} {x y:Operand} {k:IntKind} {m n z:Int}
theorem aja (ho:o.op=.binOp .quo t x y t2) (hx:ev st x=some (.pv (.raw (.int k m)))) (hy:ev st y=some (.pv (.raw (.int k n)))) (hn:n≠0) (hd:∀d,o.dst=some d→C.dk d):OpE C st.tys o st (valE (.pv (.raw (.int k (k.wrap (m.tdiv n))))) []):=by
 refine ou ho hx hy (fun w=>?_) hd;simp[binOp,Op.intDiv,eqGuard,hn]
theorem ll (ho:o.op=.binOp .rem t x y t2) (hx:ev st x=some (.pv (.raw (.int k m)))) (hy:ev st y=some (.pv (.raw (.int k n)))) (hn:n≠0) (hz:m.tmod n=z) (hd:∀d,o.dst=some d→C.dk d):OpE C st.tys o st (valE (.pv (.raw (.int k z))) []):=hz▸aaa ho hx hy hn hd
theorem qo (ho:o.op=.binOp .quo t x y t2) (hx:ev st x=some (.pv (.raw (.int k m)))) (hy:ev st y=some (.pv (.raw (.int k n)))) (hn:n≠0) (hz:k.wrap (m.tdiv n)=z) (hd:∀d,o.dst=some d→C.dk d):OpE C st.tys o st (valE (.pv (.raw (.int k z))) []):=hz▸aja ho hx hy hn hd
theorem a1p {s d:Nat} {j:IntKind} {ds:TypeDesc} (ho:o.op=.convert s d x) (hx:ev st x=some (.pv (.raw (.int k m)))) (hs:C.P.underlying s=some ds) (hu:C.P.underlying d=some (.int j)) (hz:j.wrap m=z) (hd:∀d,o.dst=some d→C.dk d):OpE C st.tys o st (valE (.pv (.raw (.int j z))) []):=hz▸a5m ho hx hs hu hd
end
theorem a36 (a n:Nat):((a:Int).tmod (n:Int))=((a % n:Nat):Int):=rfl
theorem ah9 (a:Nat) (h:a < 1000000):IntKind.wrap .i64 (a:Int)=(a:Int):=fd om om
section
variable {P:Program} {tab:Tab}
end
section
variable {C:Cx} {o:Oper} {st:St}
end
section
variable {T:List Nat} {Z:Nat} {D:Dom Tryz.prog T Z} {N:Nat} {st:St} {Q:Exit→St→Prop} {ops:List Oper} {draw:Bool} {acc:List Itm}
end
def SV.fz (id:Nat) (p:PV):SV→SV
 | .tok i=>bif Nat.beq i id then .pv p else .tok i
 | s=>bif s.ids.contains id then .any else s
def Res.fz (id:Nat) (p:PV):Res→Res
 | .box ty cs=>.box ty (cs.map (SV.fz id p))
 | r=>r
def aj7 (id:Nat) (p:PV):Option SV→Option SV
 | some s=>some (s.fz id p)
 | none=>none
def a5j (id:Nat) (p:PV):Option Res→Option Res
 | some r=>some (r.fz id p)
 | none=>none
def St.fz (st:St) (id:Nat) (p:PV):St:=⟨fun t=>aj7 id p (st.slot t),fun i=>bif Nat.beq i id then none else a5j id p (st.res i),st.tys⟩
theorem SV.fz_or (id:Nat) (p:PV) (s:SV):(s=.tok id∧s.fz id p=.pv p)∨s.fz id p=.any∨(id ∉ s.ids∧s.fz id p=s):=by
 have key:(bif s.ids.contains id then SV.any else s)=.any∨(id ∉ s.ids∧(bif s.ids.contains id then SV.any else s)=s):=by
  cases h:s.ids.contains id with
  | true=>exact .inl rfl
  | false=>exact .inr ⟨fun hm=>(by rw[zE.2 hm] at h;cases h),rfl⟩
 cases s with
 | tok i=>
  cases h:Nat.beq i id with
  | true=>exact .inl ⟨(by rw[zF h]),by show (bif Nat.beq i id then SV.pv p else SV.tok i)=_;rw[h];rfl⟩
  | false=>exact .inr (.inr ⟨(by rw[SV.ids,zH];intro e;rw[e,Nat.beq_refl] at h;cases h),by show (bif Nat.beq i id then SV.pv p else SV.tok i)=_;rw[h];rfl⟩)
 | _=>exact .inr key
theorem SV.fz_ids {id:Nat} {p:PV} {s:SV} {j:Nat} (h:j∈(s.fz id p).ids):j∈s.ids∧j≠id:=by
 rcases SV.fz_or id p s with ⟨_,e⟩ | e | ⟨hn,e⟩
 ·rw[e] at h;cases h
 ·rw[e] at h;cases h
 ·rw[e] at h;exact⟨h,fun e=>hn (e▸h)⟩
theorem SV.fzL_ids {id:Nat} {p:PV} {j:Nat}:∀{cs:List SV},j∈SV.idsL (cs.map (SV.fz id p))→j∈SV.idsL cs∧j≠id
 | [],h=>by cases h
 | c::cs,h=>by
  rw[List.map_cons,SV.idsL] at h;rw[SV.idsL];rcases zJ.1 h with h | h
  ·have:=SV.fz_ids h;exact⟨zL _ this.1,this.2⟩
  ·have:=SV.fzL_ids h;exact⟨zV _ this.1,this.2⟩
section
variable {C:Cx} {st:St} {a:Act} {w:World} {Q:Exit→St→Prop} {c:Code}
theorem ah4 {id e k:Nat} {ts:List Nat} {xs:List (List PV)} (hr:st.res id=some (.tok e k ts xs)) (h:Inv C st a w):Inv C (st.fz id (.rows e k ts xs)) a w:=by
 obtain⟨B,T,h⟩:=h;have hs:∀t s,(st.fz id (.rows e k ts xs)).slot t=some s→∃s0,st.slot t=some s0∧s=s0.fz id (.rows e k ts xs):=fun t s e=>by
  simp only[St.fz] at e;cases h0:st.slot t with
  | none=>rw[h0] at e;cases e
  | some s0=>rw[h0] at e;injection e with e;exact⟨s0,rfl,e.symm⟩
 have hre:∀i r,(st.fz id (.rows e k ts xs)).res i=some r→i≠id∧∃r0,st.res i=some r0∧r=r0.fz id (.rows e k ts xs):=fun i r e=>by
  simp only[St.fz] at e;cases hb:Nat.beq i id with
  | true=>rw[hb] at e;cases e
  | false=>
   rw[hb] at e;refine⟨fun e2=>(by rw[e2,Nat.beq_refl] at hb;cases hb),?_⟩;cases h0:st.res i with
   | none=>rw[h0] at e;cases e
   | some s0=>rw[h0] at e;injection e with e;exact⟨s0,rfl,e.symm⟩
 have dom:∀i,i≠id→(st.res i).isSome=true→((st.fz id (.rows e k ts xs)).res i).isSome=true:=fun i hn hi=>by
  simp only[St.fz];have hb:Nat.beq i id=false:=by
   cases hb:Nat.beq i id with
   | true=>exact (hn (zF hb)).elim
   | false=>rfl
  rw[hb];cases h0:st.res i with
  | none=>rw[h0] at hi;cases hi
  | some r=>rfl
 have blk:∀(r:Res) b x,(r.fz id (.rows e k ts xs)).blk b x=r.blk b x:=fun r b x=>by cases r<;>rfl
 have X0:∀b,Own0 C (st.fz id (.rows e k ts xs)) B T b→Own0 C st B T b∧(T id).v.ownBlock≠some b:=fun b hb=>by
  rcases hb with hb | ⟨i,r,h1,h2⟩
  ·refine⟨.inl hb,fun e=>?_⟩;have hlo:=((h.inn id _ hr).lo (show (Res.tok _ k ts xs).blk (B id) (T id)=some b from e)).1;rcases hlo with g | g
   ·exact absurd (C.old b hb) (Nat.not_lt.2 g)
   ·exact C.hM b hb g
  ·obtain⟨hn,r0,h3,rfl⟩:=hre i r h1;rw[blk] at h2;exact⟨.inr ⟨i,r0,h3,h2⟩,fun e=>hn (h.apart i r0 id _ b h3 hr h2 e)⟩
 have S:∀ts',Still w w (Own0 C st B T) (Own0 C (st.fz id (.rows e k ts xs)) B T) ts':=fun ts'=>⟨nr _,fun b cs t fr hx hh ht=>⟨rfl,fun hb=>hx (X0 b hb).1⟩⟩
 have rep:∀s v,SV.Rep w (Own0 C st B T) B T s v→SV.Rep w (Own0 C (st.fz id (.rows e k ts xs)) B T) B T (s.fz id (.rows e k ts xs)) v:=fun s v hv=>by
  rcases SV.fz_or id (.rows e k ts xs) s with ⟨rfl,e⟩ | e | ⟨hn,e⟩
  ·rw[e,SV.Rep];rw[SV.Rep] at hv;subst hv;exact a4f h hr X0
  ·rw[e,SV.Rep];trivial
  ·rw[e];exact hv.still (S _) fun _ _=>⟨rfl,rfl⟩
 have repL:∀(cs:List SV) (us:List Value),SV.RepL w (Own0 C st B T) B T cs us→SV.RepL w (Own0 C (st.fz id (.rows e k ts xs)) B T) B T (cs.map (SV.fz id (.rows e k ts xs))) us:=fun cs=>by
  induction cs with
  | nil=>intro us h;exact h
  | cons c cs ih=>
   intro us h;rw[SV.RepL] at h;obtain⟨u,us',rfl,h1,h2⟩:=h;exact SV.RepL.cons (rep c u h1) (ih us' h2)
 refine⟨B,T,h.size,h.dfr,h.gr,fun t s e=>?_,fun t s e i hi=>?_,fun i r e=>?_,fun i r e j hj=>?_,fun i r j q b e1 e2 h1 h2=>?_⟩
 ·obtain⟨s0,h1,rfl⟩:=hs t s e;exact rep s0 _ (h.slot t s0 h1)
 ·obtain⟨s0,h1,rfl⟩:=hs t s e;have:=SV.fz_ids hi;exact dom i this.2 (h.live t s0 h1 i this.1)
 ·obtain⟨hn,r0,h1,rfl⟩:=hre i r e;have hin:=h.inn i r0 h1;cases r0 with
  | box ty cells=>
   obtain⟨g1,us,g2,g3⟩:=hin;exact⟨g1,us,g2,repL _ _ g3⟩
  | tok e k ts xs=>
   obtain⟨us,g1,g2,g3,g4⟩:=hin;exact⟨us,g1,PV.RepLL.still (ts:=ts) g2 (S _) fun r hr c hc=>((g3 r hr).2 c hc).2,g3,g4⟩
 ·obtain⟨hn,r0,h1,rfl⟩:=hre i r e;cases r0 with
  | box ty cells=>
   have:=SV.fzL_ids hj;exact dom j this.2 (h.alive i _ h1 j this.1)
  | tok e k ts xs=>cases hj
 ·obtain⟨_,r0,k1,rfl⟩:=hre i r e1;obtain⟨_,q0,k2,rfl⟩:=hre j q e2;rw[blk] at h1 h2;exact h.apart i r0 j q0 b k1 k2 h1 h2
theorem pfz {e k:Nat} {ts:List Nat} {xs:List (List PV)} (id:Nat) (hr:st.res id=some (.tok e k ts xs)) (h:PW C c (st.fz id (.rows e k ts xs)) Q):PW C c st Q:=fun a w ht hi=>h a w (fun i r e=>by
 simp only[St.fz] at e;cases hb:Nat.beq i id with
 | true=>rw[hb] at e;cases e
 | false=>
  rw[hb] at e;cases h0:st.res i with
  | none=>rw[h0] at e;cases e
  | some r0=>
   rw[h0] at e;injection e with e;subst e;have:=ht i r0 h0;cases r0<;>exact this) (ah4 hr hi)
end
end Go.Proofs.YtbhbainhmfjpdaaGreatDoor
