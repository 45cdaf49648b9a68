/- Walks of the search and of what it calls, part 6. -/
import Derived.Test.YtbhbainhmfjpdaaGreatDoorMe
import Derived.Test.YtbhbainhmfjpdaaGreatDoorLaid
import Derived.Lib.SliceRun
import Derived.WalkSpells
import Derived.WalkLawsBesides
import Derived.Outline
import Derived.Deep.QuietTactic
import Derived.BigQuiet
import Derived.LaidEql
import Derived.Handy
import Derived.IntWalk
import Derived.BigRegion
import Derived.Laws.BitsAllLaws
import Derived.Lib.ItoaNum
set_option linter.unusedVariables false
set_option linter.unusedSimpArgs false
set_option maxRecDepth 100000
set_option maxHeartbeats 8000000
namespace Go.Proofs.YtbhbainhmfjpdaaGreatDoor
open Go.RowKit
theorem pd {P:Program} {o:Oper} {a:Act} {W:World} {K K':Value→World→Prop} (h:∀v w,K v w→K' v w) (hd:dj P o a W K):dj P o a W K':=by
 unfold dj at hd ⊢;split at hd<;>first
  | exact h _ _ hd
  | exact hd
  | exact hd.mono fun e w' ⟨v,e1,e2⟩=>⟨v,e1,h _ _ e2⟩
def ac1 (st:St) (s:SV):Option SV:=match s.ids with
 | []=>(match coSV st s with
  | some p=>some (.pv p)
  | none=>none)
 | _=>some s
def ii (st:St):List SV→Option (List SV)
 | []=>some []
 | s::ss=>match ac1 st s,ii st ss with
  | some a,some qs=>some (a::qs)
  | _,_=>none
section
variable {C:Cx} {st:St} {a:Act} {w:World} {B:Nat→Nat} {T:Nat→Sv}
theorem ac0 (h:InvB C st a w B T) {s p:SV} {v:Value} (hc:ac1 st s=some p) (hr:s.Rep w (Own0 C st B T) B T v) (hl:∀i∈s.ids,(st.res i).isSome=true):p.Rep w (Own0 C st B T) B T v∧∀i∈p.ids,i∈s.ids:=by
 unfold ac1 at hc;split at hc
 ·rename_i hids
  split at hc
  ·rename_i q hq
   injection hc with hc;subst hc;refine⟨?_,fun i hi=>by cases (show i∈([]:List Nat) from hi)⟩;rw[SV.Rep];exact Co.rep h (io hq) hr fun b hb=>⟨hb,fun ⟨i,hi,_⟩=>by rw[hids] at hi;cases hi⟩
  ·cases hc
 ·injection hc with hc;subst hc;exact⟨hr,fun i hi=>hi⟩
theorem nv (h:InvB C st a w B T):∀{ss ps:List SV} {us:List Value},ii st ss=some ps→SV.RepL w (Own0 C st B T) B T ss us→(∀i∈SV.idsL ss,(st.res i).isSome=true)→SV.RepL w (Own0 C st B T) B T ps us
 | [],ps,us,hc,hr,_=>by rw[ii] at hc;injection hc with hc;subst hc;exact hr
 | s::ss,ps,us,hc,hr,hl=>by
  rw[ii] at hc;split at hc
  ·rename_i p ps' h1 h2
   injection hc with hc;subst hc;rw[SV.RepL] at hr;obtain⟨u,us',rfl,h3,h4⟩:=hr;rw[SV.idsL] at hl;exact SV.RepL.cons (ac0 h h1 h3 fun i hi=>hl i (zL _ hi)).1 (nv h h2 h4 fun i hi=>hl i (zV _ hi))
  ·cases hc
end
def mB (st:St) (dst:Option Nat) (args:List SV) (sl:List (Nat×SV)) (keep rs rs':List (Nat×Res)) (Tg T:List Nat):Bool:=
 (rs.all fun p=>lw rs p.2.ids)&&lw rs (SV.idsL args)&&ac4 dst sl keep rs rs' st.tys&&(Tg.all (fun t=>T.contains t)&&Tg.all (fun t=>!st.tys.contains t))
section
variable {T:List Nat} {Z:Nat} {D:Dom Tryz.prog T Z} {N:Nat} {st:St} {Q:Exit→St→Prop} {ops:List Oper} {draw:Bool} {acc:List Itm}
theorem rm0 {k:Nat} {c:Call} {f:FuncId} {ss args:List SV} {rs rs':List (Nat×Res)} {res:PV} {Tg:List Nat} {dst:Option Nat} {ty:TypeId} {pos:String} {af:Array Edge} {gd:Option (Nat×Bool)} (sl:List (Nat×SV)) (keep:List (Nat×Res)) (hG:LaidG D.w0∧¬D.M 0) (hp:MCalls Tryz.prog Tg f args rs rs' res) (hk:nthL ops k=some ⟨dst,.call c,ty,pos,af,gd⟩) (hw:co ops.toArray ⟨dst,.call c,ty,pos,af,gd⟩ st=some true) (hd:dstB ⟨dst,.call c,ty,pos,af,gd⟩ N Z=true) (hc:c.callee=.value (.func f)) (ha:evL st c.args.toList=some ss) (hco:ii st ss=some args) (hrs:AllL st.res rs) (hsl:AllL st.slot sl) (hkeep:AllL st.res keep) (hB:mB st dst args sl keep rs rs' Tg T=true) (hch:(!draw||(js ops.toArray (bq ops.toArray)&&jt (bq ops.toArray) acc))=true) (hl:(!draw||a7i (bq ops.toArray) k acc)=true) (q:Q .normal (St.of sl (keep++rs') st.tys)):Reg (D.cx N) ops draw Q acc [k] st:=by
 simp only[mB,be] at hB;obtain⟨⟨⟨h1,h2⟩,h3⟩,h4,h5⟩:=hB;refine zd hch hl ⟨_,nf hk,hw,fun a w ht hi=>?_⟩;have:=ah8 (C:=D.cx N) (o:=⟨dst,.call c,ty,pos,af,gd⟩) (sl:=sl) (keep:=keep) (a:=a) (w:=w) hG.1 hG.2 hp rfl (fun us hus=>⟨[],?_,fun B T hi=>?_⟩) hrs hsl hkeep h1 h3 h4 h5 (mx hd) ht hi
 ·exact pd (fun v w' ⟨h6,h7⟩=>⟨_,q,h6,h7⟩) this
 ·subst hus;rw[List.append_nil];simp only[execOp,resolve,hc,Sem.run_bind];have hf:a.eval (.func f)=.func (.func f) #[] #[]:=rfl;rw[hf];simp only[Deferred.ofValue];simp[invoke,j6 hp.1];rw[← Array.toList_map,Array.toArray_toList]
 ·subst hus;obtain⟨g1,g2⟩:=kj hi ha;rw[List.append_nil];exact⟨nv hi hco g1 g2,fun i hi=>zG.1 h2 i hi⟩
theorem rmv0 {k:Nat} {c:Call} {f:FuncId} {x:Operand} {ss args caps:List SV} {rs rs':List (Nat×Res)} {res:PV} {Tg:List Nat} {dst:Option Nat} {ty:TypeId} {pos:String} {af:Array Edge} {gd:Option (Nat×Bool)} (sl:List (Nat×SV)) (keep:List (Nat×Res)) (hG:LaidG D.w0∧¬D.M 0) (hp:MCalls Tryz.prog Tg f (args++caps) rs rs' res) (hk:nthL ops k=some ⟨dst,.call c,ty,pos,af,gd⟩) (hw:co ops.toArray ⟨dst,.call c,ty,pos,af,gd⟩ st=some true) (hd:dstB ⟨dst,.call c,ty,pos,af,gd⟩ N Z=true) (hc:c.callee=.value x) (hx:ev st x=some (.fn f caps)) (ha:evL st c.args.toList=some ss) (hco:ii st ss=some args) (hrs:AllL st.res rs) (hsl:AllL st.slot sl) (hkeep:AllL st.res keep) (hB:mB st dst (args++caps) sl keep rs rs' Tg T=true) (hch:(!draw||(js ops.toArray (bq ops.toArray)&&jt (bq ops.toArray) acc))=true) (hl:(!draw||a7i (bq ops.toArray) k acc)=true) (q:Q .normal (St.of sl (keep++rs') st.tys)):Reg (D.cx N) ops draw Q acc [k] st:=by
 simp only[mB,be] at hB;obtain⟨⟨⟨h1,h2⟩,h3⟩,h4,h5⟩:=hB;refine zd hch hl ⟨_,nf hk,hw,fun a w ht hi=>?_⟩;obtain⟨us2,hf⟩:∃us2:List Value,a.eval x=.func (.func f) #[] us2.toArray:=by
  obtain⟨B,T,hi⟩:=hi;have:=(az hi hx).1;rw[SV.Rep] at this;obtain⟨us2,h6,_⟩:=this;exact⟨us2,h6⟩
 have:=ah8 (C:=D.cx N) (o:=⟨dst,.call c,ty,pos,af,gd⟩) (sl:=sl) (keep:=keep) (a:=a) (w:=w) hG.1 hG.2 hp rfl (fun us hus=>⟨us2,?_,fun B T hi=>?_⟩) hrs hsl hkeep h1 h3 h4 h5 (mx hd) ht hi
 ·exact pd (fun v w' ⟨h6,h7⟩=>⟨_,q,h6,h7⟩) this
 ·subst hus;simp only[execOp,resolve,hc,Sem.run_bind];rw[hf];simp only[Deferred.ofValue];simp[invoke,j6 hp.1]
 ·subst hus;obtain⟨g1,g2⟩:=kj hi ha;have g3:=(az hi hx).1;rw[SV.Rep,hf] at g3;obtain⟨us3,g4,g5⟩:=g3;have:us2=us3:=by injection g4 with _ _ g4;simpa using g4
  subst this;exact⟨(nv hi hco g1 g2).append g5,fun i hi=>zG.1 h2 i hi⟩
theorem rcn0 {k:Nat} {ks:List Nat} {c:Call} {f:FuncId} {ss:List SV} {ps:List PV} {e kk:Nat} {ts:List Nat} {xs:List (List PV)} {Tg:List Nat} {dst:Option Nat} {ty:TypeId} {pos:String} {af:Array Edge} {gd:Option (Nat×Bool)} (id:Nat) (hp:NCalls Tryz.prog Tg f ps e kk ts xs) (hk:nthL ops k=some ⟨dst,.call c,ty,pos,af,gd⟩) (hw:co ops.toArray ⟨dst,.call c,ty,pos,af,gd⟩ st=some true) (hd:dstB ⟨dst,.call c,ty,pos,af,gd⟩ N Z=true) (hc:c.callee=.value (.func f)) (ha:evL st c.args.toList=some ss) (hco:lz st ss=some ps) (hr:st.res id=none) (hT:((SV.idsL ss).isEmpty&&st.tys.contains e&&(Tg.all (fun t=>T.contains t)&&Tg.all (fun t=>!st.tys.contains t)))=true) (next:Reg (D.cx N) ops draw Q (acc++[⟨k,true,⟨.tok id,some (id,.tok e kk ts xs),[id],true⟩,lkOf ops k st (⟨.tok id,some (id,.tok e kk ts xs),[id],true⟩:Eff)⟩]) ks ((⟨.tok id,some (id,.tok e kk ts xs),[id],true⟩:Eff).app dst st)):Reg (D.cx N) ops draw Q acc (k::ks) st:=by
 simp only[be] at hT;exact dh hk hw hd (fun hd=>aah (C:=D.cx N) hp rfl hc ha hco hT.1.1 hr hT.1.2 hT.2.1 hT.2.2 hd) next
theorem rmk0 {k:Nat} {ks:List Nat} {dst:Option Nat} {t n:Nat} {x y:Operand} {ty:TypeId} {ps:String} {af:Array Edge} {gd:Option (Nat×Bool)} {l le:Lay} {kd kc:IntKind} {zm zc:Int} (id:Nat) (hn:n*l.esz≤1000000) (hi:∃i z,(Tryz.prog).info? l.elem=some i∧i.zero=some z∧i.size=l.esz∧i.bytes≤1000) (hk:nthL ops k=some ⟨dst,.makeSlice t x y,ty,ps,af,gd⟩) (hw:co ops.toArray ⟨dst,.makeSlice t x y,ty,ps,af,gd⟩ st=some true) (hd:dstB ⟨dst,.makeSlice t x y,ty,ps,af,gd⟩ N Z=true) (hl:tab.get t=some l) (hle:tab.get l.elem=some le) (hx:ev st x=some (.pv (.raw (.int kd zm)))) (hy:ev st y=some (.pv (.raw (.int kc zc)))) (hzm:zm=(n:Int)) (hzc:zc=(n:Int)) (hre:st.res id=none) (hc:(Nat.blt 0 l.esz&&Nat.beq le.zero.length l.esz&&a8k l.esz l.ets [le.zero.map Zk.pv]&&st.tys.contains l.elem)=true)
  (next:Reg (D.cx N) ops draw Q (acc++[⟨k,true,⟨.tok id,some (id,.tok l.elem l.esz l.ets (List.replicate n (le.zero.map Zk.pv))),[id],true⟩,lkOf ops k st (⟨.tok id,some (id,.tok l.elem l.esz l.ets (List.replicate n (le.zero.map Zk.pv))),[id],true⟩:Eff)⟩]) ks ((⟨.tok id,some (id,.tok l.elem l.esz l.ets (List.replicate n (le.zero.map Zk.pv))),[id],true⟩:Eff).app dst st)):Reg (D.cx N) ops draw Q acc (k::ks) st:=by
 simp only[be] at hc;exact dh hk hw hd (fun hd=>aek (C:=D.cx N) ah rfl hl hc.1.1.1 hle hc.1.1.2 hi hx hy hzm hzc hn hre (qe hc.1.2) hc.2 hd) next
theorem a5n {C:Cx} {o:Oper} {st:St} {t id:Nat} {x:Operand} {s:SV} {cs:List SV} (hF:¬C.F id) (ho:o.op=.box t x) (hx:ev st x=some s) (hcl:s.cl=some cs) (hres:st.res id=none) (ht:(st.tys.contains t&&Nat.blt t 1000000)=true) (hd:∀d,o.dst=some d→C.dk d):OpE C st.tys o st ⟨.box id 0,some (id,.box t cs),id::SV.idsL cs,false⟩:=by
 refine⟨fun i r e=>by injection e with e;injection e with e1 e2;subst e1 e2;exact⟨mf ..,zE.1 ((be _ _).mp ht).1⟩,fun st1 h1 h2 _ a w ⟨B,T,hi⟩=>?_⟩;rw[← h2 id (mf ..)] at hres;rw[← Agree.ev ⟨h1,h2⟩ (by rw[ho];simp[Op.operands])] at hx;obtain⟨h3,h4⟩:=az hi hx;obtain⟨us,h5,h6,h7,_⟩:=a2k h3 hcl;have run:(execOp a.eval o).run C.P w=.ok (.value (.pointer (some ⟨w.heap.size,0,none⟩))) (w.alloc (.cells us.toArray t)):=by
  simp[execOp,ho,Instr.box,newVar,newRow,h5]
 exact cd run (a07 hi hres hF ((be _ _).mp ht).2 h6 (fun i hi2=>h4 i (h7 i hi2)) hd)
theorem a7b {C:Cx} {o:Oper} {st:St} {tab:Tab} (hT:ie C.P tab) {t id:Nat} {l:Lay} (hF:¬C.F id) (ho:o.op=.alloc t) (hl:tab.get t=some l) (hres:st.res id=none) (ht:(st.tys.contains t&&Nat.blt t 1000000)=true) (hd:∀d,o.dst=some d→C.dk d):OpE C st.tys o st ⟨.box id 0,some (id,.box t (l.zero.map Zk.sv)),[id],false⟩:=by
 have lk:=Tab.get_ok hT hl;refine⟨fun i r e=>by injection e with e;injection e with e1 e2;subst e1 e2;exact⟨mf ..,zE.1 ((be _ _).mp ht).1⟩,fun st1 h1 h2 _ a w ⟨B,T,hi⟩=>?_⟩;rw[← h2 id (mf ..)] at hres;have hz:∃z:Value,(C.P.info? t).bind (·.zero)=some z∧z.cells=(l.zero.map Zk.val).toArray:=by
  refine⟨_,lk.zero,?_⟩;cases hag:l.agg with
  | true=>rfl
  | false=>
   have:=lk.one hag;obtain⟨z,hz⟩:=List.length_eq_one_iff.1 this;rw[hz];exact jm (lk.cel z (by rw[hz];exact zH.2 rfl))
 obtain⟨z,hz1,hz2⟩:=hz;have run:(execOp a.eval o).run C.P w=.ok (.value (.pointer (some ⟨w.heap.size,0,none⟩))) (w.alloc (.cells (l.zero.map Zk.val).toArray t)):=by
  simp[execOp,ho,Instr.alloc,a34 hz1,newVar,newRow,hz2]
 exact cd run (a07 (id:=id) (ty:=t) (rb:=[id]) hi hres hF ((be _ _).mp ht).2 a0v (fun i hi=>(a48 hi).elim) hd)
theorem rbx0 {k:Nat} {ks:List Nat} {dst:Option Nat} {t:Nat} {x:Operand} {ty:TypeId} {ps:String} {af:Array Edge} {gd:Option (Nat×Bool)} {s:SV} {cs:List SV} (id:Nat) (hF:∀i,¬D.F i) (hk:nthL ops k=some ⟨dst,.box t x,ty,ps,af,gd⟩) (hw:co ops.toArray ⟨dst,.box t x,ty,ps,af,gd⟩ st=some true) (hd:dstB ⟨dst,.box t x,ty,ps,af,gd⟩ N Z=true) (hx:ev st x=some s) (hcl:s.cl=some cs) (hre:st.res id=none) (ht:(st.tys.contains t&&Nat.blt t 1000000)=true)
  (next:Reg (D.cx N) ops draw Q (acc++[⟨k,true,⟨.box id 0,some (id,.box t cs),id::SV.idsL cs,false⟩,lkOf ops k st (⟨.box id 0,some (id,.box t cs),id::SV.idsL cs,false⟩:Eff)⟩]) ks ((⟨.box id 0,some (id,.box t cs),id::SV.idsL cs,false⟩:Eff).app dst st)):Reg (D.cx N) ops draw Q acc (k::ks) st:=
 dh hk hw hd (fun hd=>a5n (C:=D.cx N) (fun h=>hF id h.1) rfl hx hcl hre ht hd) next
theorem ral0 {k:Nat} {ks:List Nat} {dst:Option Nat} {t:Nat} {ty:TypeId} {ps:String} {af:Array Edge} {gd:Option (Nat×Bool)} {l:Lay} (id:Nat) (hF:∀i,¬D.F i) (hk:nthL ops k=some ⟨dst,.alloc t,ty,ps,af,gd⟩) (hw:co ops.toArray ⟨dst,.alloc t,ty,ps,af,gd⟩ st=some true) (hd:dstB ⟨dst,.alloc t,ty,ps,af,gd⟩ N Z=true) (hl:tab.get t=some l) (hre:st.res id=none) (ht:(st.tys.contains t&&Nat.blt t 1000000)=true)
  (next:Reg (D.cx N) ops draw Q (acc++[⟨k,true,⟨.box id 0,some (id,.box t (l.zero.map Zk.sv)),[id],false⟩,lkOf ops k st (⟨.box id 0,some (id,.box t (l.zero.map Zk.sv)),[id],false⟩:Eff)⟩]) ks ((⟨.box id 0,some (id,.box t (l.zero.map Zk.sv)),[id],false⟩:Eff).app dst st)):Reg (D.cx N) ops draw Q acc (k::ks) st:=
 dh hk hw hd (fun hd=>a7b (C:=D.cx N) ah (fun h=>hF id h.1) rfl hl hre ht hd) next
theorem rcg0 {k:Nat} {ks:List Nat} {c:Call} {f:FuncId} {ss:List SV} {ps:List PV} {res:PV} {Tg:List Nat} {dst:Option Nat} {ty:TypeId} {pos:String} {af:Array Edge} {gd:Option (Nat×Bool)} (hG:LaidG D.w0∧¬D.M 0) (hp:f6 Tryz.prog Tg f ps res) (hk:nthL ops k=some ⟨dst,.call c,ty,pos,af,gd⟩) (hw:co ops.toArray ⟨dst,.call c,ty,pos,af,gd⟩ st=some true) (hd:dstB ⟨dst,.call c,ty,pos,af,gd⟩ N Z=true) (hc:c.callee=.value (.func f)) (ha:evL st c.args.toList=some ss) (hco:lz st ss=some ps) (hT:(Tg.all (fun t=>T.contains t)&&(Tg.all (fun t=>!st.tys.contains t)&&ta st (SV.idsL ss) res.ty))=true) (next:Reg (D.cx N) ops draw Q (acc++[⟨k,true,valE (.pv res) (SV.idsL ss),lkOf ops k st (valE (.pv res) (SV.idsL ss))⟩]) ks ((valE (.pv res) (SV.idsL ss)).app dst st)):Reg (D.cx N) ops draw Q acc (k::ks) st:=by
 simp only[be] at hT;exact dh hk hw hd (fun hd=>vz (C:=D.cx N) rfl hc ha (i8 hco) ⟨hp.1,fun w B g X us=>hp.2 w X us (LaidG.cx (C:=D.cx N) hG.1 hG.2 g)⟩ hT.1 hT.2.1 hT.2.2 hd) next
theorem rz0 {k:Nat} {dst:Option Nat} {t t2:Nat} {x:Operand} {d:Nat} {ty:TypeId} {pos:String} {af:Array Edge} {gd:Option (Nat×Bool)} {e kk:Nat} {ts:List Nat} {xs:List (List PV)} (hdst:dst=some d) (hk:nthL ops k=some ⟨dst,.binOp .eql t x (.const (.slice none 0 0)) t2,ty,pos,af,gd⟩) (hw:co ops.toArray ⟨dst,.binOp .eql t x (.const (.slice none 0 0)) t2,ty,pos,af,gd⟩ st=some true) (hd:dstB ⟨dst,.binOp .eql t x (.const (.slice none 0 0)) t2,ty,pos,af,gd⟩ N Z=true) (hx:ev st x=some (.pv (.rows e kk ts xs))) (hu:∃e,(Tryz.prog).underlying t=some (.slice e)) (hch:(!draw||(js ops.toArray (bq ops.toArray)&&jt (bq ops.toArray) acc))=true) (hl:(!draw||a7i (bq ops.toArray) k acc)=true) (q1:xs=[]→Q .normal ((valE (.pv (.raw (.bool true))) []).app dst st)) (q2:Q .normal ((valE (.pv (.raw (.bool false))) []).app dst st)):Reg (D.cx N) ops draw Q acc [k] st:=by
 refine zd hch hl ⟨_,nf hk,hw,fun a w ht hi=>?_⟩;obtain⟨B,T,hi⟩:=hi;have x1:=(az hi hx).1;rw[SV.Rep,PV.Rep] at x1;obtain⟨v,us,hv,hn,his,hty,hav,hrep,hok⟩:=x1;obtain⟨el,hu⟩:=hu;have hev:a.eval (.const (.slice none 0 0))=.slice none 0 0:=rfl;have app:∀b:Bool,em ((valE (.pv (.raw (.bool b))) []).app dst st) ((valE (.pv (.raw (.bool b))) []).app dst st).tys∧Inv (D.cx N) ((valE (.pv (.raw (.bool b))) []).app dst st) (a.put dst (.bool b)) w:=fun b=>⟨jq ht fun i r e=>(by cases e),ow hi (Gr.refl w) (by rw[SV.Rep,PV.Rep]) (fun i hi=>by cases (show i∈([]:List Nat) from hi)) (mx hd)⟩
 cases hA:v.A with
 | none=>
  have run:(execOp a.eval ⟨dst,.binOp .eql t x (.const (.slice none 0 0)) t2,ty,pos,af,gd⟩).run (D.cx N).P w=.ok (.value (.bool true)) w:=by
   simp only[execOp,hv,hev,Sem.run_bind,Lib.run_eql_slice_nil (P:=(D.cx N).P) w t el v.A v.n v.c 0 0 hu,hA];simp[eqGuard];rw[show (v.v:Value)=.slice v.A v.n v.c from rfl,Lib.run_eql_slice_nil (P:=Tryz.prog) w t el v.A v.n v.c 0 0 hu,hA];rfl
  refine cd run ⟨_,q1 ?_,app true⟩;have h1:=(his.mk0 hA).1;rw[h1] at hn;exact List.length_eq_zero_iff.1 hn.symm
 | some ad=>
  have run:(execOp a.eval ⟨dst,.binOp .eql t x (.const (.slice none 0 0)) t2,ty,pos,af,gd⟩).run (D.cx N).P w=.ok (.value (.bool false)) w:=by
   simp only[execOp,hv,hev,Sem.run_bind,Lib.run_eql_slice_nil (P:=(D.cx N).P) w t el v.A v.n v.c 0 0 hu,hA];simp[eqGuard];rw[show (v.v:Value)=.slice v.A v.n v.c from rfl,Lib.run_eql_slice_nil (P:=Tryz.prog) w t el v.A v.n v.c 0 0 hu,hA];rfl
  exact cd run ⟨_,q2,app false⟩
theorem pcm {f:FuncId} {args:List SV} {rs rs':List (Nat×Res)} {res:PV} {fn:Func} {c:Code} (tys:List Nat) (hcall:fv Tryz.prog f=true) (hf:(Tryz.prog).funcs[f]?=some fn) (hb:fn.body=some c) (hn:(Nat.ble args.length fn.ntmps&&mcB rs rs' tys fn.ntmps)=true) (h:∀D:Dom Tryz.prog T 0,LaidG D.w0∧¬D.M 0→W D fn.ntmps c (St.initM args rs tys) (RetM Tryz.prog tab fn res rs')):MCalls Tryz.prog T f args rs rs' res:=by
 rw[be] at hn;exact MCalls.of tys ah a1z hcall hf hb hn.1 hn.2 fun D h1 h2=>h D ⟨h1,h2⟩
theorem pcn {f:FuncId} {args:List PV} {e k:Nat} {ts:List Nat} {xs:List (List PV)} {fn:Func} {c:Code} (tys:List Nat) (hcall:fv Tryz.prog f=true) (hf:(Tryz.prog).funcs[f]?=some fn) (hb:fn.body=some c) (hn:Nat.ble args.length fn.ntmps=true) (h:∀D:Dom Tryz.prog T 0,W D fn.ntmps c (St.init args tys) (RetN fn e k ts xs)):NCalls Tryz.prog T f args e k ts xs:=NCalls.of tys a1z hcall hf hb hn fun D _=>h D
theorem retm {P:Program} {tab:Tab} {fn:Func} {p res:PV} {rs':List (Nat×Res)} (h:retE tab st fn.results.toList=some p) (e:p=res) (h2:AllL st.res rs'):RetM P tab fn res rs' .ret st:=⟨a8n h e,h2⟩
theorem a6z {P:Program} {tab:Tab} {fn:Func} {p res:PV} {rs':List (Nat×Res)} (h:retE tab st fn.results.toList=some p) (e:p=res) (h2:AllL st.res rs'):RetM P tab fn res rs' .normal st:=⟨a8n h e,h2⟩
theorem retn {fn:Func} {t i e k:Nat} {ts:List Nat} {xs ys:List (List PV)} (h:fn.results.toList=[.tmp t]) (hk:Nat.blt 0 k=true) (h1:st.slot t=some (.tok i)) (h2:st.res i=some (.tok e k ts ys)) (e0:ys=xs):RetN fn e k ts xs .ret st:=⟨t,h,zD hk,.inl ⟨i,h1,by rw[h2,e0]⟩⟩
theorem ahs {fn:Func} {t e k:Nat} {ts:List Nat} {xs:List (List PV)} {s:SV} (h:fn.results.toList=[.tmp t]) (hk:Nat.blt 0 k=true) (h1:st.slot t=some s) (h2:s.nul=true) (e0:xs=[]):RetN fn e k ts xs .ret st:=⟨t,h,zD hk,.inr ⟨s,h1,h2,e0⟩⟩
end
theorem PCalls.ofF {P:Program} {tab:Tab} {T:List Nat} {f:FuncId} {args:List PV} {res:PV} {fn:Func} {c:Code} (tys:List Nat) (hT:ie P tab) (hm:P.follows .mixedOrders=true) (hcall:fv P f=true) (hf:P.funcs[f]?=some fn) (hb:fn.body=some c) (hn:Nat.ble args.length fn.ntmps=true) (h:∀D:Dom P T 0,(∀i,¬D.F i)→LaidG D.w0∧¬D.M 0→PW (D.cx fn.ntmps) c (St.init args tys) (RetQ P tab fn res)):f6 P T f args res:=by
 refine⟨hcall,fun w X us hG hX hXT hr=>?_⟩;have hn:=zD hn
 let D:Dom P T 0:=⟨w,X,hX,hm,hXT,fun _=>False,(fun _ _ h=>h),fun _=>False,fun _=>0,fun _=>undef⟩
 refine calls_of_wp hf hb ?_;have hlen:=hr.len;have hinv:Inv (D.cx fn.ntmps) (St.init args tys) { tmps:=us.toArray++Array.replicate (fn.ntmps - us.toArray.size) undef,defers:=[] } w:=by
  refine⟨fun _=>0,fun _=>Sv.none,⟨⟨by simp;omega,fun t h=>absurd h (Nat.not_lt_zero t)⟩,rfl,⟨Fr.refl _ w,fun i h=>h.1.elim⟩,fun t s e=>?_,fun t s e i hi=>?_,(fun i r e=>by cases e),(fun i r e=>by cases e),fun i r j q b e=>by cases e⟩⟩
  ·simp only[St.init] at e;obtain⟨p,hp,rfl⟩:=Option.map_eq_some_iff.1 e;obtain⟨u,hu,hpr⟩:=hr.at hp;rw[SV.Rep];have hut:(us.toArray++Array.replicate (fn.ntmps - us.toArray.size) undef).getD t undef=u:=by
    have hlt:=(gs hu).1;rw[Array.getD_eq_getD_getElem?,Array.getElem?_append_left (by simpa using hlt)];simp[hu]
   rw[hut];exact hpr.still ⟨nr _,fun b cs t fr hx hh ht=>⟨rfl,fun hb=>by
    rcases hb with hb | ⟨i,r,hr,_⟩
    ·exact hx hb
    ·cases hr⟩⟩
  ·simp only[St.init] at e;obtain⟨p,hp,rfl⟩:=Option.map_eq_some_iff.1 e;cases (show i∈([]:List Nat) from hi)
 refine Code.wp_mono (fun e a w' hq=>?_) (h D (fun _ h=>h) ⟨hG,fun h=>h⟩ _ w (fun i r e=>by cases e) hinv);obtain⟨st,h1,_,h3⟩:=hq;cases e with
 | ret=>
  obtain⟨v,g1,g2⟩:=og (C:=D.cx fn.ntmps) hT h3 h1;obtain⟨B,T',h4⟩:=h3;exact bodyPost_ret g1 h4.dfr ⟨v,rfl,g2,Gr.of_fr h4.gr.fr⟩
 | normal=>
  obtain⟨v,g1,g2⟩:=og (C:=D.cx fn.ntmps) hT h3 h1;obtain⟨B,T',h4⟩:=h3;exact bodyPost_end g1 h4.dfr ⟨v,rfl,g2,Gr.of_fr h4.gr.fr⟩
 | _=>exact h1.elim
theorem pcF {T:List Nat} {f:FuncId} {args:List PV} {res:PV} {fn:Func} {c:Code} (tys:List Nat) (hcall:fv Tryz.prog f=true) (hf:(Tryz.prog).funcs[f]?=some fn) (hb:fn.body=some c) (hn:Nat.ble args.length fn.ntmps=true) (h:∀D:Dom Tryz.prog T 0,(∀i,¬D.F i)→LaidG D.w0∧¬D.M 0→W D fn.ntmps c (St.init args tys) (RetQ Tryz.prog tab fn res)):f6 Tryz.prog T f args res:=PCalls.ofF tys ah a1z hcall hf hb hn h
def SV.wk:SV→SV
 | .nil e k ts=>.pv (.rows e k ts [])
 | s=>s
def Res.wk:Res→Res
 | .box t cs=>.box t (cs.map SV.wk)
 | r=>r
def aom:Option SV→Option SV
 | some s=>some s.wk
 | none=>none
def amk:Option Res→Option Res
 | some s=>some s.wk
 | none=>none
def St.wk (st:St):St:=⟨fun t=>aom (st.slot t),fun i=>amk (st.res i),st.tys⟩
theorem ag9 (s:SV):s.wk.ids=s.ids:=by cases s<;>rfl
theorem a7p:∀(cs:List SV),SV.idsL (cs.map SV.wk)=SV.idsL cs
 | []=>rfl
 | c::cs=>by rw[List.map_cons,SV.idsL,SV.idsL,ag9,a7p cs]
theorem ag8 {w:World} {X:Nat→Prop} {B:Nat→Nat} {T:Nat→Sv} {s:SV} {v:Value} (h:s.Rep w X B T v):s.wk.Rep w X B T v:=by
 cases s with
 | nil e k ts=>
  rw[SV.Rep] at h;subst h;rw[SV.wk,SV.Rep,PV.Rep];exact⟨Sv.none,[],rfl,rfl,Sv.Is.none w k,(fun ad h=>by cases h),(fun ad h=>by cases h),by rw[PV.RepLL],fun r hr=>by cases hr⟩
 | _=>exact h
theorem a7o {w:World} {X:Nat→Prop} {B:Nat→Nat} {T:Nat→Sv}:∀{cs:List SV} {us:List Value},SV.RepL w X B T cs us→SV.RepL w X B T (cs.map SV.wk) us
 | [],us,h=>h
 | c::cs,us,h=>by
  rw[SV.RepL] at h;obtain⟨u,us',rfl,h1,h2⟩:=h;exact SV.RepL.cons (ag8 h1) (a7o h2)
theorem akx {C:Cx} {st:St} {a:Act} {w:World} (h:Inv C st a w):Inv C st.wk a w:=by
 obtain⟨B,T,h⟩:=h;have hs:∀t s,st.wk.slot t=some s→∃s0,st.slot t=some s0∧s=s0.wk:=fun t s e=>by
  simp only[St.wk] at e;cases h0:st.slot t with
  | none=>rw[h0] at e;cases e
  | some s0=>rw[h0] at e;injection e with e;exact⟨s0,rfl,e.symm⟩
 have hr:∀i r,st.wk.res i=some r→∃r0,st.res i=some r0∧r=r0.wk:=fun t s e=>by
  simp only[St.wk] at e;cases h0:st.res t with
  | none=>rw[h0] at e;cases e
  | some s0=>rw[h0] at e;injection e with e;exact⟨s0,rfl,e.symm⟩
 have dom:∀i,(st.res i).isSome=true→(st.wk.res i).isSome=true:=fun i hi=>by
  simp only[St.wk];cases h0:st.res i with
  | none=>rw[h0] at hi;cases hi
  | some r=>rfl
 have blk:∀(r:Res) b x,r.wk.blk b x=r.blk b x:=fun r b x=>by cases r<;>rfl
 have X0:∀b,Own0 C st.wk B T b→Own0 C st B T b:=fun b hb=>by
  rcases hb with hb | ⟨i,r,h1,h2⟩
  ·exact .inl hb
  ·obtain⟨r0,h3,rfl⟩:=hr i r h1;rw[blk] at h2;exact .inr ⟨i,r0,h3,h2⟩
 have S:∀ts,Still w w (Own0 C st B T) (Own0 C st.wk B T) ts:=fun ts=>⟨nr _,fun b cs t fr hx hh ht=>⟨rfl,fun hb=>hx (X0 b hb)⟩⟩
 refine⟨B,T,h.size,h.dfr,h.gr,fun t s e=>?_,fun t s e i hi=>?_,fun i r e=>?_,fun i r e j hj=>?_,fun i r j q b e1 e2 h1 h2=>?_⟩
 ·obtain⟨s0,h1,rfl⟩:=hs t s e;exact ag8 ((h.slot t s0 h1).still (S _) fun _ _=>⟨rfl,rfl⟩)
 ·obtain⟨s0,h1,rfl⟩:=hs t s e;rw[ag9] at hi;exact dom i (h.live t s0 h1 i hi)
 ·obtain⟨r0,h1,rfl⟩:=hr i r e;have hin:=h.inn i r0 h1;cases r0 with
  | box ty cells=>
   obtain⟨g1,us,g2,g3⟩:=hin;exact⟨g1,us,g2,a7o (g3.still (S _) fun _ _=>⟨rfl,rfl⟩)⟩
  | tok e k ts xs=>
   obtain⟨us,g1,g2,g3,g4⟩:=hin;exact⟨us,g1,PV.RepLL.still (ts:=ts) g2 (S _) fun r hr c hc=>((g3 r hr).2 c hc).2,g3,g4⟩
 ·obtain⟨r0,h1,rfl⟩:=hr i r e;cases r0 with
  | box ty cells=>exact dom j (h.alive i _ h1 j (by rw[Res.wk,Res.ids,a7p] at hj;exact hj))
  | tok e k ts xs=>cases hj
 ·obtain⟨r0,h3,rfl⟩:=hr i r e1;obtain⟨q0,h4,rfl⟩:=hr j q e2;rw[blk] at h1 h2;exact h.apart i r0 j q0 b h3 h4 h1 h2
theorem akw {st:St} (h:em st st.tys):em st.wk st.wk.tys:=fun i r e=>by
 simp only[St.wk] at e;cases h0:st.res i with
 | none=>rw[h0] at e;cases e
 | some r0=>
  rw[h0] at e;injection e with e;subst e;have:=h i r0 h0;cases r0<;>exact this
theorem pwk {C:Cx} {st:St} {Q:Exit→St→Prop} {c:Code} (h:PW C c st.wk Q):PW C c st Q:=fun a w ht hi=>h a w (akw ht) (akx hi)
section
variable {T:List Nat} {Z:Nat} {D:Dom Tryz.prog T Z} {N:Nat} {st:St} {Q:Exit→St→Prop}
theorem a9o {x y:Code} {sl:List (Nat×SV)} {rs:List (Nat×Res)} (tys:List Nat) (p:Prop) (h1:W D N x st (Then (fun st'=>Sub (St.of sl rs tys) st'∧p) Q)) (h2:p→W D N y (St.of sl rs tys) Q):W D N (.seq x y) st Q:=
 ps (fun a w ht hi=>Code.wp_mono (fun e a w hq=>by
  obtain⟨st',g1,g2,g3⟩:=hq;cases e with
  | normal=>exact⟨st',ez g1.1 (h2 g1.2),g2,g3⟩
  | _=>exact⟨st',g1,g2,g3⟩) (h1 a w ht hi))
end
theorem dw {α β:Type} {f:α→β} {l:List α} {i:Nat} (h:decide ((i:Int) < ((l.map f).length:Int))=true):i < l.length:=by
 have:=zK h;rw[zB] at this;omega
theorem fx {α β:Type} {f:α→β} {l:List α} {i:Nat} (h:decide ((i:Int) < ((l.map f).length:Int))=false):l.length≤i:=by
 have:=zM h;rw[zB] at this;omega
theorem fd {z:Int} (h1:-4611686018427387904≤z) (h2:z≤4611686018427387904):IntKind.wrap .i64 z=z:=by
 rw[IntKind.wrap_i64];omega
theorem a8 {n:Nat} (h:n≤1000000000):ariO .add .i64 (n:Int) 1=some (((n+1:Nat)):Int):=by
 show some (IntKind.wrap .i64 ((n:Int)+1))=_;rw[fd om om];rfl
theorem j9 {x y:Int} (h1:-1000000000≤x) (h2:x≤1000000000) (h3:-1000000000≤y) (h4:y≤1000000000):ariO .add .i64 x y=some (x+y):=by
 show some (IntKind.wrap .i64 (x+y))=_;rw[fd om om]
theorem da {x y:Int} (h1:-1000000000≤x) (h2:x≤1000000000) (h3:-1000000000≤y) (h4:y≤1000000000):ariO .sub .i64 x y=some (x - y):=by
 show some (IntKind.wrap .i64 (x - y))=_;rw[fd om om]
def atZ {α:Type} [Inhabited α] (l:List α) (z:Int):α:=(l[z.toNat]?).getD default
theorem dp {α:Type} [Inhabited α] {l:List α} {z:Int} (h0:0≤z) (h1:z < l.length):l[z.toNat]?=some (atZ l z):=by
 unfold atZ;rw[ge om];rfl
theorem bm {α:Type} [Inhabited α] {l:List α} {i:Nat} {a:α} (h:l[i]?=some a):atZ l (i:Int)=a:=by
 unfold atZ;rw[Int.toNat_natCast,h];rfl
theorem bg {α:Type} [Inhabited α] {l:List α} {z:Int} (h0:0≤z) (h1:z < l.length):atZ l z∈l:=mg (dp h0 h1)
theorem toN {z:Int} (h0:0≤z):z=((z.toNat:Nat):Int):=by omega
theorem wv {α β:Type} {f:α→β} {l:List α} {z:Int} (h:decide (z < ((l.map f).length:Int))=true):z < l.length:=by
 have:=zK h;rwa [zB] at this
theorem wu {α β:Type} {f:α→β} {l:List α} {z:Int} (h:decide (((l.map f).length:Int)≤z)=false):z < l.length:=by
 have:=zM h;rw[zB] at this;omega
theorem t5 {z:Int} (h:decide (z < 0)=false):0≤z:=by
 have:=zM h;omega
theorem il {b:Bool} (h:(!b)=true):b=false:=by cases b<;>simp_all
theorem j0 {b:Bool} (h:(!b)=false):b=true:=by cases b<;>simp_all
theorem i_lt {i n:Nat} (h:decide ((i:Int) < (n:Int))=true):i < n:=by have:=zK h;omega
theorem ab {α:Type} [Inhabited α] {l:List α} {i:Nat} (h:i < l.length):l[i]?=some (atZ l i):=by
 rw[bm (ge h)];exact ge h
section
attribute [local go_sem] Oper.semAt_some
theorem uw {l:List Nat} {k:Nat} (h:∀i x,k+1≤i→l[i]?=some x→x=0) (hk:l[k]?=some 0):∀i x,k≤i→l[i]?=some x→x=0:=fun i x hi hx=>by
 rcases Nat.eq_or_lt_of_le hi with rfl | h1
 ·rw[hk] at hx;injection hx with hx;exact hx.symm
 ·exact h i x h1 hx
theorem v8 {l:List Nat} {k:Nat} (hL:Lim l) (hk:k≤l.length) (hz:∀i x,k≤i→l[i]?=some x→x=0) (hl:∀x,0 < k→l[k - 1]?=some x→x≠0):l.take k=a7 (val l):=(a7h hL hk hz hl).symm
theorem bx (w:World) (x:Sv) (l:List Nat) (h:x.Num w l):
  Calls Tryz.prog 218 #[x.v] w fun e w'=>∃y:Sv,e=.returned y.v∧y.Num w' (a7 (val l))∧Gr w w':=by
 obtain⟨A,n,c⟩:=x;have HI:=I h;have hn:=h.is.cap;have hc:=h.is.max;have HL:=I h.len;simp only at hn hc HL ⊢;clear h;go_enter Tryz.func218,Tryz.ntmps218;go_wp2;go_loopw [3] (fun s wr=>∃k:Nat,s=.int .i64 k∧k≤n∧Hid (∀i x,k≤i→l[i]?=some x→x=0)∧Hid (Gr w wr)) (fun s _=>(intOf s).toNat)
 case atStart=>exact⟨n,rfl,nr _,(fun i x hi hx=>by rw[List.getElem?_eq_none (by rw[HL.out];exact hi)] at hx;cases hx),Gr.refl w⟩
 case round=>
  obtain⟨k,rfl,hk,hZ,hG⟩:=hrel;cases k with
  | zero=>
   go_wp2;go_ret;refine⟨⟨none,0,0⟩,rfl,?_,hG.out⟩;rw[← v8 (k:=0) HI.lim (nq _) hZ.out (fun x hx=>absurd hx om)];exact Sv.Num.none _
  | succ j=>
   obtain⟨y,ad,hy,hy9,hA,hb,d⟩:=(HI.gr hG).at (i:=j) hk;simp only at hA;subst hA;have hw1:IntKind.i64.wrap ((j:Int)+1 - 1)=(j:Int):=by rw[wi _ om];omega
   have hw2:IntKind.i64.wrap (((j+1:Nat):Int) - 1)=(j:Int):=by rw[wi _ om];omega
   by_cases hy0:y=0
   ·subst hy0;have HZ:=I (uw hZ hy);clear hy hy9 hb hZ;go_wp2;go_roundw
    case rel=>exact⟨j,by go_num,by omega,HZ,hG⟩
    case measure=>first | (simp[intOf];done) | (simp[intOf];omega)
   ·have HT:=I (v8 (k:=j+1) HI.lim (by rw[HL.out];exact hk) hZ (fun x _ hx=>by
     rw[Nat.add_sub_cancel,hy] at hx;injection hx with hx;omega))
    have HY:=I ((HI.gr hG).take (k:=j+1) hk);rw[HT.out] at HY;clear hy hy9 hb hZ;go_wp2;go_ret;exact⟨_,rfl,HY.out,hG.out⟩
theorem anq (w:World) (x:Sv) (ds:List Value) (h:x.Is w 1 ds) (h1:∀u∈ds,u.oneCell'=true) (hn:x.n≤1000000):
  Calls Tryz.prog 328 #[x.v] w fun e w'=>∃y:Sv,e=.returned y.v∧y.Is w' 1 ds∧y.Ty w' 200∧Gr w w':=by
 obtain⟨A,n,c⟩:=x;simp only at hn;have heq:=fun (W:World) (A:Option Addr) (n c:Nat)=>Lib.run_eql_slice_nil (P:=Tryz.prog) W 33 200 A n c 0 0 elemN.ht
 rcases A with _ | ad
 ·obtain⟨h9,rfl⟩:=h.mk0 rfl;injection h9 with _ h8 h7;subst h8 h7;go_enter Tryz.func328,Tryz.ntmps328;go_wp2;go_ret;exact⟨Sv.none,rfl,Sv.Is.none _ _,(fun ad h=>by cases h),Gr.refl w⟩
 ·have HO:Hid ((w.alloc (.cells #[] 200)).ownsRow w.heap.size 200 1 (.slice (some ⟨w.heap.size,0,none⟩) 0 0) 0 []):=⟨rfl,.inr ⟨w.heap.size,0,#[],rfl,nr _,Bk.made _ _ _,nr _,nq _,rfl,rfl⟩⟩;have HC:Hid (∀j u,ds[j]?=some u→(w.alloc (.cells #[] 200)).cell? (ad.add j)=some u):=(h.gr ((Gr.refl w).alloc _)).cells rfl;have HU:=I h1;have H1:=I h.len;simp only at H1;clear h h1;go_enter Tryz.func328,Tryz.ntmps328;go_wp2_with (at_builtin;refine ux elemN rfl _ _ rfl w.heap.size (.slice (some ⟨w.heap.size,0,none⟩) 0 0) 0 [] rfl HO.out ad n c ds rfl H1.out HC.out HU.out (by unfold maxLen;omega) om (by simp) ?_;intro v' w' h2 h3 h5);go_wp2;go_ret;rw[Nat.zero_add,zX] at h2;obtain⟨y,rfl,_,hy,hty⟩:=Sv.of_row h2 dx;exact⟨y,rfl,hy,hty,Gr.of_own h3⟩
theorem aam (l:List Nat):∀u∈l.map lv,u.oneCell'=true:=by
 intro u hu;obtain⟨y,_,rfl⟩:=List.mem_map.1 hu;rfl
theorem ng (w:World) (x:Sv) (l:List Nat) (h:x.Num w l) (hn:l.length≤1000000):
  Calls Tryz.prog 265 #[x.v] w fun e w'=>∃y:Sv,e=.returned y.v∧y.Num w' (a7 (val l))∧Gr w w':=by
 have H1:=I (bx w x l h);have HB:Hid ((a7 (val l)).length≤1000000):=by
  have h1:(a7 (val l)).length≤l.length:=b8 (en h.lim);exact (nt h1 hn)
 clear h hn;go_enter Tryz.func265,Tryz.ntmps265;go_wp2_with fail;refine cm2 H1 fun u w1 hu G1=>?_
 have HG:=I G1;have H2:=I (anq w1 u _ hu.is (aam _) (by rw[← hu.len];exact HB.out));clear hu H1;go_wp2_with fail;refine H2.mono ?_;rintro e w2 ⟨y,rfl,hy,hty,G2⟩;have HY:=I hy;have HT:=I hty;have HG2:=I (HG.trans G2);clear hy hty G2 HG H2;go_wp2;go_ret;exact⟨y,rfl,⟨HY.out,f8 _,HT.out⟩,HG2.out⟩
end
theorem ep:∀{o:List Nat} {j x:Nat} (v:Nat),o[j]?=some x→val (o.set j v)+B32 ^ j*x=val o+B32 ^ j*v
 | [],j,x,v,h=>by simp at h
 | y::o,0,x,v,h=>by
  simp at h;subst h;simp[val];omega
 | y::o,j+1,x,v,h=>by
  have ih:=ep (o:=o) (j:=j) v (by simpa using h);rw[List.set_cons_succ,val,val,Nat.pow_succ,Nat.mul_comm (B32 ^ j) B32,Nat.mul_assoc,Nat.mul_assoc];have:B32*(val (o.set j v)+B32 ^ j*x)=B32*(val o+B32 ^ j*v):=by rw[ih]
  rw[Nat.mul_add,Nat.mul_add] at this;omega
theorem iu (n:Nat):val (List.replicate n 0)=0:=te fun x hx=>(List.mem_replicate.1 hx).2
theorem Lim.set {l:List Nat} (h:Lim l) (j:Nat) {v:Nat} (hv:v < B32):Lim (l.set j v):=fun y hy=>by
 rcases List.mem_or_eq_of_mem_set hy with h1 | h1
 ·exact h y h1
 ·rw[h1];exact hv
theorem Lim.zeros (n:Nat):Lim (List.replicate n 0):=fun y hy=>by rw[(List.mem_replicate.1 hy).2];decide
theorem gj {l:List Nat} {n:Nat} (h:l.length≤n):val (l.take n)=val l:=by rw[List.take_of_length_le h]
theorem ck {o:List Nat} {i j v:Nat} (h:i≠j):(o.set i v)[j]?=o[j]?:=by rw[List.getElem?_set_ne h]
theorem i6 {n j:Nat} (h:j < n):(List.replicate n 0)[j]?=some 0:=by rw[List.getElem?_replicate,if_pos h]
def lim0 (l:List Nat) (i:Nat):Nat:=l.getD i 0
theorem jn {l:List Nat} {i x:Nat} (h:l[i]?=some x):lim0 l i=x:=by rw[lim0,List.getD_eq_getElem?_getD,h];rfl
theorem gw {l:List Nat} {i:Nat} (h:l.length≤i):lim0 l i=0:=by rw[lim0,List.getD_eq_getElem?_getD,List.getElem?_eq_none h];rfl
theorem lq {l:List Nat} (h:Lim l) (i:Nat):lim0 l i < B32:=by
 rcases Nat.lt_or_ge i l.length with hi | hi
 ·rw[jn (List.getElem?_eq_getElem hi)];exact h _ (List.getElem_mem hi)
 ·rw[gw hi];decide
theorem ca (l:List Nat) (i:Nat):val (l.take (i+1))=val (l.take i)+B32 ^ i*lim0 l i:=by
 rcases Nat.lt_or_ge i l.length with hi | hi
 ·rw[bn (List.getElem?_eq_getElem hi),jn (List.getElem?_eq_getElem hi)]
 ·rw[gw hi,List.take_of_length_le hi,List.take_of_length_le (by omega)];rfl
structure AddSt (a b o:List Nat) (i c m:Nat):Prop where
 len:o.length=m
 lim:Lim o
 car:c≤1
 sum:val o+B32 ^ i*c=val (a.take i)+val (b.take i)
 zer:∀j,i≤j→j < m→o[j]?=some 0
theorem AddSt.start (a b:List Nat) (m:Nat):AddSt a b (List.replicate m 0) 0 0 m:=
 ⟨by simp,Lim.zeros m,by omega,by rw[iu];simp[val],fun j _ hj=>i6 hj⟩
theorem AddSt.step {a b o:List Nat} {i c m:Nat} (h:AddSt a b o i c m) (ha:Lim a) (hb:Lim b) (hi:i < m) {s:Nat} (hs:s=c+lim0 a i+lim0 b i):
  AddSt a b (o.set i (s % B32)) (i+1) (s / B32) m:=by
 have h1:=lq ha i;have h2:=lq hb i;have h3:=h.car;have h0:=h.zer i (Nat.le_refl _) hi;refine⟨by rw[List.length_set];exact h.len,h.lim.set i (Nat.mod_lt _ (by decide)),?_,?_,fun j hj hm=>by rw[ck (by omega)];exact h.zer j (by omega) hm⟩
 ·have:s < 2*B32:=by omega
  have:=Nat.div_lt_of_lt_mul (show s < B32*2 by omega);omega
 ·have e1:=ep (s % B32) h0;have e2:=h.sum;have e3:=ca a i;have e4:=ca b i;have e5:B32 ^ i*(s % B32)+B32 ^ (i+1)*(s / B32)=B32 ^ i*s:=by
   rw[Nat.pow_succ,Nat.mul_assoc,← Nat.mul_add,Nat.mod_add_div]
  have e6:B32 ^ i*s=B32 ^ i*c+B32 ^ i*lim0 a i+B32 ^ i*lim0 b i:=by rw[hs,Nat.mul_add,Nat.mul_add]
  rw[Nat.mul_zero] at e1;omega
theorem AddSt.done {a b o:List Nat} {n c:Nat} (h:AddSt a b o n c (n+1)) (ha:a.length≤n) (hb:b.length≤n):
  val (o.set n c)=val a+val b∧Lim (o.set n c):=by
 have e1:=ep c (h.zer n (Nat.le_refl _) (by omega));have e2:=h.sum;rw[gj ha,gj hb] at e2;rw[Nat.mul_zero] at e1;exact⟨by omega,h.lim.set n (by have:=h.car;have:=ba;omega)⟩
structure SubSt (a b o:List Nat) (i c m:Nat):Prop where
 len:o.length=m
 lim:Lim o
 car:c≤1
 sum:val o+val (b.take i)=val (a.take i)+B32 ^ i*c
 zer:∀j,i≤j→j < m→o[j]?=some 0
theorem SubSt.start (a b:List Nat) (m:Nat):SubSt a b (List.replicate m 0) 0 0 m:=
 ⟨by simp,Lim.zeros m,by omega,by rw[iu];simp[val],fun j _ hj=>i6 hj⟩
theorem SubSt.step {a b o:List Nat} {i c m:Nat} (h:SubSt a b o i c m) (ha:Lim a) (hb:Lim b) (hi:i < m) {x c':Nat} (hx:x < B32) (hc:c'≤1) (hs:x+c+lim0 b i=lim0 a i+B32*c'):
  SubSt a b (o.set i x) (i+1) c' m:=by
 have h0:=h.zer i (Nat.le_refl _) hi;refine⟨by rw[List.length_set];exact h.len,h.lim.set i hx,hc,?_,fun j hj hm=>by rw[ck (by omega)];exact h.zer j (by omega) hm⟩;have e1:=ep x h0;have e2:=h.sum;have e3:=ca a i;have e4:=ca b i;have e5:B32 ^ i*(x+c+lim0 b i)=B32 ^ i*(lim0 a i+B32*c'):=by rw[hs]
 rw[Nat.mul_add,Nat.mul_add,Nat.mul_add] at e5;have e6:B32 ^ (i+1)*c'=B32 ^ i*(B32*c'):=by rw[Nat.pow_succ,Nat.mul_assoc]
 rw[Nat.mul_zero] at e1;omega
theorem SubSt.done {a b o:List Nat} {n c m:Nat} (h:SubSt a b o n c m) (ha:a.length≤n) (hb:b.length≤n) (hm:m≤n) (hv:val b≤val a):val o=val a - val b:=by
 have e2:=h.sum;rw[gj ha,gj hb] at e2;have h3:=en h.lim;rw[h.len] at h3;have h4:B32 ^ m≤B32 ^ n:=Nat.pow_le_pow_right (by decide) hm;have h5:=h.car;rcases Nat.eq_zero_or_pos c with rfl | hc
 ·omega
 ·have:c=1:=by omega
  subst this;omega
structure MulSt (a b o:List Nat) (i:Nat):Prop where
 len:o.length=a.length+b.length
 lim:Lim o
 sum:val o=val (a.take i)*val b
 zer:∀j,i+b.length≤j→j < a.length+b.length→o[j]?=some 0
theorem MulSt.start (a b:List Nat):MulSt a b (List.replicate (a.length+b.length) 0) 0:=
 ⟨by simp,Lim.zeros _,by rw[iu];simp[val],fun j _ hj=>i6 hj⟩
structure MulIn (a b o:List Nat) (i x k c:Nat):Prop where
 len:o.length=a.length+b.length
 lim:Lim o
 car:c < B32
 sum:val o+B32 ^ (i+k)*c=val (a.take i)*val b+B32 ^ i*(x*val (b.take k))
 zer:∀j,i+b.length≤j→j < a.length+b.length→o[j]?=some 0
theorem MulSt.into {a b o:List Nat} {i:Nat} (h:MulSt a b o i) (x:Nat):MulIn a b o i x 0 0:=
 ⟨h.len,h.lim,by decide,by rw[h.sum];simp[val],h.zer⟩
theorem MulIn.step {a b o:List Nat} {i x k c y z s:Nat} (h:MulIn a b o i x k c) (hi:i < a.length) (hx:x < B32) (hb:Lim b) (hy:b[k]?=some y) (hz:o[i+k]?=some z) (hs:s=c+(x*y+z)):
  MulIn a b (o.set (i+k) (s % B32)) i x (k+1) (s / B32):=by
 have hk:=(List.getElem?_eq_some_iff.1 hy).1;have h1:y < B32:=hb.at hy;have h2:z < B32:=h.lim.at hz;have h3:=h.car;have h4:x*y≤(B32 - 1)*(B32 - 1):=Nat.mul_le_mul (by omega) (by omega);have h5:s < B32*B32:=by
  have:(B32 - 1)*(B32 - 1)=18446744065119617025:=by decide
  have:B32*B32=18446744073709551616:=by decide
  have:=ba;omega
 refine⟨by rw[List.length_set];exact h.len,h.lim.set _ (Nat.mod_lt _ (by decide)),Nat.div_lt_of_lt_mul h5,?_,fun j hj hm=>by rw[ck (by omega)];exact h.zer j hj hm⟩;have e1:=ep (s % B32) hz;have e2:=h.sum;have e3:=bn hy;have e5:B32 ^ (i+k)*(s % B32)+B32 ^ (i+(k+1))*(s / B32)=B32 ^ (i+k)*s:=by
  rw[show i+(k+1)=(i+k)+1 by omega,Nat.pow_succ,Nat.mul_assoc,← Nat.mul_add,Nat.mod_add_div]
 have e6:B32 ^ (i+k)*s=B32 ^ (i+k)*c+B32 ^ (i+k)*(x*y)+B32 ^ (i+k)*z:=by rw[hs,Nat.mul_add,Nat.mul_add,Nat.add_assoc]
 have e7:B32 ^ i*(x*val (b.take (k+1)))=B32 ^ i*(x*val (b.take k))+B32 ^ (i+k)*(x*y):=by
  rw[e3,Nat.mul_add,Nat.mul_add,Nat.pow_add]
  congr 1
  simp only[Nat.mul_assoc,Nat.mul_left_comm,Nat.mul_comm]
 omega
theorem MulIn.done {a b o:List Nat} {i x c:Nat} (h:MulIn a b o i x b.length c) (ha:a[i]?=some x):MulSt a b (o.set (i+b.length) c) (i+1):=by
 have hi:=(List.getElem?_eq_some_iff.1 ha).1;have e1:=ep c (h.zer (i+b.length) (Nat.le_refl _) (by omega));have e2:=h.sum;rw[List.take_length] at e2;refine⟨by rw[List.length_set];exact h.len,h.lim.set _ h.car,?_,fun j hj hm=>by rw[ck (by omega)];exact h.zer j (by omega) hm⟩;rw[bn ha,Nat.add_mul,Nat.mul_assoc];rw[Nat.mul_zero] at e1;omega
theorem MulSt.done {a b o:List Nat} (h:MulSt a b o a.length):val o=val a*val b:=by
 rw[h.sum,List.take_length]
structure DivSt (a o:List Nat) (d i r:Nat):Prop where
 len:o.length=a.length
 lim:Lim o
 rem:r < d
 sum:val o*d+B32 ^ i*r=B32 ^ i*val (a.drop i)
 zer:∀j,j < i→j < a.length→o[j]?=some 0
theorem DivSt.start (a:List Nat) {d:Nat} (hd:0 < d):DivSt a (List.replicate a.length 0) d a.length 0:=
 ⟨by simp,Lim.zeros _,hd,by rw[iu,List.drop_length];simp[val],fun j _ hj=>i6 hj⟩
theorem DivSt.step {a o:List Nat} {d i r x s:Nat} (h:DivSt a o d (i+1) r) (ha:Lim a) (hx:a[i]?=some x) (hd:d < B32) (hs:s=r*B32+x):
  DivSt a (o.set i (s / d)) d i (s % d)∧s / d < B32:=by
 have hi:=(List.getElem?_eq_some_iff.1 hx).1;have h1:x < B32:=ha.at hx;have h2:=h.rem;have hq:s / d < B32:=by
  refine Nat.div_lt_of_lt_mul ?_;have:(r+1)*B32≤d*B32:=Nat.mul_le_mul_right _ h2;rw[Nat.add_mul] at this;omega
 refine⟨⟨by rw[List.length_set];exact h.len,h.lim.set _ hq,Nat.mod_lt _ (by omega),?_,fun j hj hm=>by rw[ck (by omega)];exact h.zer j (by omega) hm⟩,hq⟩;have e1:=ep (s / d) (h.zer i (by omega) hi);have e2:=h.sum;have e3:val (a.drop i)=x+B32*val (a.drop (i+1)):=by
  obtain⟨h9,h8⟩:=List.getElem?_eq_some_iff.1 hx;rw[List.drop_eq_getElem_cons h9,h8,val]
 have e4:B32 ^ i*(s / d*d)+B32 ^ i*(s % d)=B32 ^ i*s:=by rw[← Nat.mul_add,Nat.div_add_mod' s d]
 have e5:B32 ^ i*s=B32 ^ (i+1)*r+B32 ^ i*x:=by
  rw[hs,Nat.mul_add,Nat.pow_succ,Nat.mul_comm r B32,Nat.mul_assoc]
 have e6:B32 ^ i*val (a.drop i)=B32 ^ i*x+B32 ^ (i+1)*val (a.drop (i+1)):=by
  rw[e3,Nat.mul_add,Nat.pow_succ,Nat.mul_assoc]
 rw[Nat.mul_zero,Nat.add_zero] at e1;rw[e1,Nat.add_mul,Nat.mul_assoc];omega
theorem DivSt.done {a o:List Nat} {d r:Nat} (h:DivSt a o d 0 r):val o=val a / d∧r=val a % d:=by
 have e:=h.sum;rw[Nat.pow_zero,Nat.one_mul,Nat.one_mul,List.drop_zero] at e;have h2:=h.rem
 constructor
 ·rw[← e,Nat.mul_comm,Nat.mul_add_div (by omega),Nat.div_eq_of_lt h2,Nat.add_zero]
 ·rw[← e,Nat.mul_comm,Nat.mul_add_mod,Nat.mod_eq_of_lt h2]
def Lb (w:World) (g:Nat) (o:List Nat):Prop:=Bk w g 200 (o.map lv).toArray
section
variable {w w':World} {g:Nat} {o:List Nat}
theorem Lb.put (h:Lb w g o) (i v:Nat):Lb (w.setCell ⟨g,i,none⟩ (lv v)) g (o.set i v):=by
 have:=Bk.put h i (lv v);unfold Lb;rw[List.map_set];simpa using this
theorem Lb.cell (h:Lb w g o) {i x:Nat} (hx:o[i]?=some x):w.cell? ⟨g,i,none⟩=some (.int .u32 (x:Int)):=by
 rw[Bk.cell h i];simp[hx]
theorem Lb.fz (h:Lb w g o) (i:Nat):w.frozen? ⟨g,i,none⟩=false:=Bk.frozen h i
theorem Lb.num (h:Lb w g o) (hl:Lim o) (hn:o.length≤9223372036854775807):Sv.Num w ⟨some ⟨g,0,none⟩,o.length,o.length⟩ o:=
 ⟨⟨by simp,nr _,hn,fun e=>(by cases e),Bk.sees h (by simp)⟩,hl,fun ad ha _=>by injection ha with ha;subst ha;exact⟨_,_,h⟩⟩
theorem aey (n:Nat):((List.replicate n 0).map lv).toArray=Array.replicate n (Value.int .u32 0):=by simp[lv]
theorem Lb.made (w:World) (n:Nat):Lb (w.alloc (.cells (Array.replicate n (.int .u32 0)) 200)) w.heap.size (List.replicate n 0):=by
 unfold Lb;rw[aey];exact Bk.made _ _ _
end
theorem a5u (n:Nat):madeCells #[Value.int .u32 0] n=Array.replicate n (Value.int .u32 0):=by
 apply Array.toList_inj.mp
 rw[toList_madeCells_one,Array.toList_replicate]
theorem a63:(Tryz.prog.info? 200).map (fun i=>(i.zero,i.size,i.bytes))=some (some (.int .u32 0),1,4):=by kernel_rfl
theorem a21 (n:Nat) (hn:n≤100000000) (w:World):(Instr.makeSlice 33 (.int .i64 n) (.int .i64 n)).run Tryz.prog w=.ok (.slice (some ⟨w.heap.size,0,none⟩) n n) (w.alloc (.cells (Array.replicate n (.int .u32 0)) 200)):=by
 obtain⟨i0,hi,hz0,hz1,hz2⟩:=info_parts a63;have:=run_make (P:=Tryz.prog) w 33 200 i0 _ elemN.ht hi hz0 .i64 .i64 n n om (Int.le_refl _) (by rw[hz2];omega) om;rw[hz1,Nat.mul_one,Int.toNat_natCast] at this;rw[← a5u];exact this
theorem ajo (n:Nat) (hn:n≤100000000) (w:World):(Instr.makeSlice 32 (.int .i64 n) (.int .i64 n)).run Tryz.prog w=.ok (.slice (some ⟨w.heap.size,0,none⟩) n n) (w.alloc (.cells (Array.replicate n (.int .u32 0)) 200)):=by
 obtain⟨i0,hi,hz0,hz1,hz2⟩:=info_parts a63;have:=run_make (P:=Tryz.prog) w 32 200 i0 _ (by kernel_rfl) hi hz0 .i64 .i64 n n om (Int.le_refl _) (by rw[hz2];omega) om;rw[hz1,Nat.mul_one,Int.toNat_natCast] at this;rw[← a5u];exact this
section
attribute [local go_sem] Oper.semAt_some
def cmpN (a b:Nat):Int:=if a < b then -1 else if b < a then 1 else 0
theorem pf {a b:Nat} (h:a < b):cmpN a b=-1:=by rw[cmpN,if_pos h]
theorem a40 {a b:Nat} (h:b < a):cmpN a b=1:=by rw[cmpN,if_neg om,if_pos h]
theorem a0o (a:Nat):cmpN a a=0:=by rw[cmpN,if_neg om,if_neg om]
theorem abx {a b:List Nat} {i y:Nat} (hd:a.drop (i+1)=b.drop (i+1)) (ha:a[i]?=some y) (hb:b[i]?=some y):a.drop i=b.drop i:=by
 obtain⟨h9,h8⟩:=gs ha;obtain⟨k9,k8⟩:=gs hb;rw[zQ h9,zQ k9,h8,k8,hd]
theorem m5 (w:World) (x y:Sv) (a b:List Nat) (hx:x.Num w a) (hy:y.Num w b):
  Calls Tryz.prog 178 #[x.v,y.v] w fun e w'=>e=.returned (.int .i64 (cmpN (val a) (val b)))∧Gr w w':=by
 have H1:=I (bx w x a hx);have HY:=I hy;clear hx hy;go_enter Tryz.func178,Tryz.ntmps178;go_wp2_with fail;refine cm1 H1 fun u w1 HU G1=>?_
 have HG1:=I G1;have H2:=I (bx w1 y b (HY.gr G1));clear H1 HY;go_wp2_with fail;refine cm1 H2 fun v w2 HV G2=>?_
 have HG2:=I (HG1.trans G2);have HU2:=I (HU.gr G2);clear HG1 HU H2;obtain⟨A,n,c⟩:=u;obtain⟨B,m,d⟩:=v;have hn:(a7 (val a)).length=n:=HU2.len;have hm:(a7 (val b)).length=m:=HV.len;have hnc:n≤c:=HU2.is.cap;have hc9:c≤9223372036854775807:=HU2.is.max;have hmd:m≤d:=HV.is.cap;have hd9:d≤9223372036854775807:=HV.is.max;have HN:=I hn;have HM:=I hm;clear hn hm;simp only[Sv.v] at*;by_cases hnm:n=m
 ·subst hnm;have hnn:((n:Int) != n)=false:=by simp
  go_wp2;go_loopw [5] (fun s wr=>∃k:Nat,s=.int .i64 ((k:Int) - 1)∧k≤n∧Hid ((a7 (val a)).drop k=(a7 (val b)).drop k)∧Hid (Gr w wr)∧Hid (Gr w2 wr)) (fun s _=>(intOf s+1).toNat)
  case atStart=>
   refine⟨n,?_,nr _,?_,HG2,Gr.refl _⟩
   ·rfl
   ·exact (show (a7 (val a)).drop n=(a7 (val b)).drop n by
     rw[List.drop_of_length_le (by rw[HN.out];exact nr _),List.drop_of_length_le (by rw[HM.out];exact nr _)])
  case round=>
   obtain⟨k,rfl,hk,hD,hG,hG2⟩:=hrel;cases k with
   | zero=>
    have hE:Hid (cmpN (val a) (val b)=0):=by
     have h:=hD.out;rw[List.drop_zero,List.drop_zero] at h;rw[qx h];exact a0o _
    have h0:((0:Nat):Int) - 1=-1:=rfl;rw[h0];clear hD;go_wp2;go_ret;exact⟨by rw[hE.out];rfl,hG.out⟩
   | succ j=>
    have hj:(((j+1:Nat):Int) - 1)=(j:Int):=by omega
    rw[hj];obtain⟨p,ad,hp,hp9,hA,hb,d1⟩:=(HU2.gr hG2).at (i:=j) hk;obtain⟨q,ad2,hq,hq9,hB,hb2,d2⟩:=(HV.gr hG2).at (i:=j) hk;simp only at hA hB;subst hA hB;have e1:wr.drew.cell? (ad.add j)=some (.int .u32 p):=d1;have e2:wr.drew.cell? (ad2.add j)=some (.int .u32 q):=d2;have HL:Hid (p < q→val a < val b):=fun h=>by
     have:=uz (f8 _) (f8 _) hp hq hD h;rwa [vl,vl] at this
    have HR:Hid (q < p→val b < val a):=fun h=>by
     have:=uz (f8 _) (f8 _) hq hp hD.symm h;rwa [vl,vl] at this
    have HS:Hid (p=q→(a7 (val a)).drop j=(a7 (val b)).drop j):=fun h=>abx hD hp (h▸hq)
    have hG3:Hid (Gr w wr.drew):=hG.drew;have hG4:Hid (Gr w wr.drew.drew):=hG3.drew;have hG5:Hid (Gr w2 wr.drew):=hG2.drew;clear hp hq hb hb2 hp9 hq9 hD;by_cases hpq:p=q
    ·subst hpq;have HSS:=I (HS.out rfl);clear HL HR HS;go_wp2;go_region
     all_goals go_wp2
     all_goals go_roundw
     all_goals first
      | (refine⟨j,?_,by omega,HSS,hG3,hG5⟩;first | rfl | (go_num;done) | (rw[wi _ om];done))
      | (simp[intOf];done)
      | (simp[intOf];omega)
    ·rcases zU p q with hlt | hge
     ·have hC:=I (pf (HL.out hlt));have hpd:((p:Int) != q)=true:=by simp;omega
      have hpl:decide ((p:Int) < q)=true:=by simp;omega
      clear HL HR HS;go_wp2;go_region
      all_goals go_wp2
      all_goals go_region
      all_goals go_wp2
      all_goals go_ret
      all_goals exact⟨by rw[hC.out];rfl,hG4.out⟩
     ·have hC:=I (a40 (HR.out om));have hpd:((p:Int) != q)=true:=by simp;omega
      have hpl:decide ((p:Int) < q)=false:=by simp;omega
      clear HL HR HS;go_wp2;go_region
      all_goals go_wp2
      all_goals go_region
      all_goals go_wp2
      all_goals go_ret
      all_goals exact⟨by rw[hC.out];rfl,hG4.out⟩
 ·have HC:Hid (cmpN (val a) (val b)=if n < m then -1 else 1):=by
   by_cases h:n < m
   ·rw[if_pos h];exact pf (a22 (by rw[HN.out,HM.out];exact h))
   ·rw[if_neg h];exact a40 (a22 (by rw[HN.out,HM.out];omega))
  have hnn:((n:Int) != m)=true:=by simp;omega
  by_cases h:n < m
  ·rw[if_pos h] at HC;have hd:decide ((n:Int) < m)=true:=by simp;omega
   go_wp2;go_ret;exact⟨by rw[HC.out];rfl,HG2.out⟩
  ·rw[if_neg h] at HC;have hd:decide ((n:Int) < m)=false:=by simp;omega
   go_wp2;go_ret;exact⟨by rw[HC.out];rfl,HG2.out⟩
theorem aks (w:World) (x y:Sv) (a b:List Nat) (hx:x.Num w a) (hy:y.Num w b) (ha:a.length≤1000000) (hb:b.length≤1000000):
  Calls Tryz.prog 338 #[x.v,y.v] w fun e w'=>∃z:Sv,e=.returned z.v∧z.Num w' (a7 (val a+val b))∧Gr w w':=by
 have H1:=I (bx w x a hx);have HY:=I hy;have HA:Hid ((a7 (val a)).length≤1000000):=nt (b8 (en hx.lim)) ha;have HB:Hid ((a7 (val b)).length≤1000000):=nt (b8 (en hy.lim)) hb;clear hx hy ha hb;go_enter Tryz.func338,Tryz.ntmps338;go_wp2_with fail;refine cm1 H1 fun u w1 HU G1=>?_
 have HG1:=I G1;have H2:=I (bx w1 y b (HY.gr G1));clear H1 HY;go_wp2_with fail;refine cm1 H2 fun v w2 HV G2=>?_
 have HG2:=I (HG1.trans G2);have HU2:=I (HU.gr G2);clear HG1 HU H2;obtain⟨A,n,c⟩:=u;obtain⟨B,m,d⟩:=v;have HN:=I HU2.len;have HM:=I HV.len;have VA:=I (vl (val a));have VB:=I (vl (val b));simp only[Sv.v] at*;have hn9:n≤1000000:=by rw[← HN.out];exact HA.out
 have hm9:m≤1000000:=by rw[← HM.out];exact HB.out
 generalize a7 (val a)=la at*;generalize a7 (val b)=lb at*;by_cases hnm:n < m
 ·have hd:decide ((n:Int) < m)=true:=by simp;omega
  have hw0:IntKind.i64.wrap ((m:Int)+1)=(m:Int)+1:=wi _ om;have hmk:=a21 (m+1) om w2;rw[show (((m+1:Nat)):Int)=(m:Int)+1 by omega] at hmk;have HR0:=I (Lb.made w2 (m+1));have HG3:Hid (Gr w (w2.alloc (.cells (Array.replicate (m+1) (.int .u32 0)) 200))):=HG2.alloc _;have HGs:Hid (Gr w2 (w2.alloc (.cells (Array.replicate (m+1) (.int .u32 0)) 200))):=(Gr.refl w2).alloc _;have HS0:=I (AddSt.start lb la (m+1));have hg0:Hid (w.heap.size≤w2.heap.size):=HG2.size;go_wp2;clear hmk hw0;generalize hge:w2.heap.size=g at*;have HGE:=I hge;clear hge;go_loopw [6,26] (fun s6 i wr=>∃(t cr:Nat) (o:List Nat),i=.int .i64 t∧s6=.int .u64 cr∧t≤m∧cr≤1∧Hid (AddSt lb la o t cr (m+1))∧Hid (Lb wr g o)∧Hid (Gr w wr)∧Hid (Gr w2 wr)) (fun _ i _=>m - (intOf i).toNat)
  case atStart=>exact⟨0,0,_,rfl,rfl,nq _,by omega,HS0,HR0,HG3,HGs⟩
  case round=>
   obtain⟨t,cr,o,rfl,rfl,ht,hcr,hS,hR,hG,hGG⟩:=hrel;have fz:=hR.fz;by_cases htn:t < m
   ·obtain⟨p,ad,hp,hp9,hAe,hbl,d1⟩:=(HV.gr hGG).at (i:=t) htn;simp only at hAe;subst hAe;have HP:=I (jn hp);have q0:=hR.cell (hS.zer t (nr _) om);have hB:=ba;rw[hB] at hp9;by_cases htm:t < n
    ·obtain⟨q,ad2,hq,hq9,hBe,hbl2,d2⟩:=(HU2.gr hGG).at (i:=t) htm;simp only at hBe;subst hBe;rw[hB] at hq9;obtain⟨s,hs⟩:∃s,s=cr+p+q:=⟨_,rfl⟩;have HST:=I (hS.step HV.lim HU2.lim om (s:=s) (by rw[HP.out,jn hq,hs]));obtain⟨lo,hlo⟩:∃lo,lo=s % B32:=⟨_,rfl⟩;obtain⟨hi,hhi⟩:∃hi,hi=s / B32:=⟨_,rfl⟩;rw[← hlo,← hhi] at HST;have hhi1:hi≤1:=HST.car;have E1:Hid (((cr:Int)+p+q) % 4294967296=lo):=by rw[hB] at hlo;exact (by omega:((cr:Int)+p+q) % 4294967296=lo)
     have E2:Hid (((cr:Int)+p+q) / 4294967296=hi):=by rw[hB] at hhi;exact (by omega:((cr:Int)+p+q) / 4294967296=hi)
     have HL2:=I (hR.put t lo);have HG4:=I (hG.set (p:=⟨g,t,none⟩) hg0 (lv lo));have HG5:=I (hGG.set (p:=⟨g,t,none⟩) (by rw[HGE.out];exact nr _) (lv lo));clear hp hq hbl hbl2 hlo hhi hs;go_wp2;go_roundw
     case rel=>
      rw[E1.out,E2.out];exact⟨t+1,hi,_,by go_num,rfl,by omega,hhi1,HST,HL2,HG4,HG5⟩
     case measure=>simp[intOf];omega
    ·obtain⟨s,hs⟩:∃s,s=cr+p:=⟨_,rfl⟩;have HST:=I (hS.step HV.lim HU2.lim om (s:=s) (by rw[HP.out,gw (by rw[HU2.len];simp only;omega),hs];rfl));obtain⟨lo,hlo⟩:∃lo,lo=s % B32:=⟨_,rfl⟩;obtain⟨hi,hhi⟩:∃hi,hi=s / B32:=⟨_,rfl⟩;rw[← hlo,← hhi] at HST;have hhi1:hi≤1:=HST.car;have E1:Hid (((cr:Int)+p) % 4294967296=lo):=by rw[hB] at hlo;exact (by omega:((cr:Int)+p) % 4294967296=lo)
     have E2:Hid (((cr:Int)+p) / 4294967296=hi):=by rw[hB] at hhi;exact (by omega:((cr:Int)+p) / 4294967296=hi)
     have HL2:=I (hR.put t lo);have HG4:=I (hG.set (p:=⟨g,t,none⟩) hg0 (lv lo));have HG5:=I (hGG.set (p:=⟨g,t,none⟩) (by rw[HGE.out];exact nr _) (lv lo));clear hp hbl hlo hhi hs;go_wp2;go_roundw
     case rel=>
      rw[E1.out,E2.out];exact⟨t+1,hi,_,by go_num,rfl,by omega,hhi1,HST,HL2,HG4,HG5⟩
     case measure=>simp[intOf];omega
   ·obtain rfl:t=m:=by omega
    have q0:=hR.cell (hS.zer t (nr _) om);obtain⟨e1,e2⟩:=hS.done (by rw[HV.len];exact nr _) (by rw[HU2.len];simp only;omega);have HL2:=I (hR.put t cr);have HG4:=I (hG.set (p:=⟨g,t,none⟩) hg0 (lv cr));have hlen:(o.set t cr).length=t+1:=by rw[List.length_set];exact hS.len
    have HT:=I (bx (wr.setCell ⟨g,t,none⟩ (lv cr)) ⟨some ⟨g,0,none⟩,t+1,t+1⟩ (o.set t cr) (by rw[← hlen];exact HL2.num e2 om));rw[e1,VB.out,VA.out] at HT;clear e1 e2 hlen;go_wp2_with fail;refine cm1 HT fun z w5 HZ G5=>?_
    have HG6:=I (HG4.trans G5);clear HT;go_wp2;go_ret;exact⟨z,rfl,by rw[Nat.add_comm];exact HZ.out,HG6.out⟩
 ·have hd:decide ((n:Int) < m)=false:=by simp;omega
  have hw0:IntKind.i64.wrap ((n:Int)+1)=(n:Int)+1:=wi _ om;have hmk:=a21 (n+1) om w2;rw[show (((n+1:Nat)):Int)=(n:Int)+1 by omega] at hmk;have HR0:=I (Lb.made w2 (n+1));have HG3:Hid (Gr w (w2.alloc (.cells (Array.replicate (n+1) (.int .u32 0)) 200))):=HG2.alloc _;have HGs:Hid (Gr w2 (w2.alloc (.cells (Array.replicate (n+1) (.int .u32 0)) 200))):=(Gr.refl w2).alloc _;have HS0:=I (AddSt.start la lb (n+1));have hg0:Hid (w.heap.size≤w2.heap.size):=HG2.size;go_wp2;clear hmk hw0;generalize hge:w2.heap.size=g at*;have HGE:=I hge;clear hge;go_loopw [6,26] (fun s6 i wr=>∃(t cr:Nat) (o:List Nat),i=.int .i64 t∧s6=.int .u64 cr∧t≤n∧cr≤1∧Hid (AddSt la lb o t cr (n+1))∧Hid (Lb wr g o)∧Hid (Gr w wr)∧Hid (Gr w2 wr)) (fun _ i _=>n - (intOf i).toNat)
  case atStart=>exact⟨0,0,_,rfl,rfl,nq _,by omega,HS0,HR0,HG3,HGs⟩
  case round=>
   obtain⟨t,cr,o,rfl,rfl,ht,hcr,hS,hR,hG,hGG⟩:=hrel;have fz:=hR.fz;by_cases htn:t < n
   ·obtain⟨p,ad,hp,hp9,hAe,hbl,d1⟩:=(HU2.gr hGG).at (i:=t) htn;simp only at hAe;subst hAe;have HP:=I (jn hp);have q0:=hR.cell (hS.zer t (nr _) om);have hB:=ba;rw[hB] at hp9;by_cases htm:t < m
    ·obtain⟨q,ad2,hq,hq9,hBe,hbl2,d2⟩:=(HV.gr hGG).at (i:=t) htm;simp only at hBe;subst hBe;rw[hB] at hq9;obtain⟨s,hs⟩:∃s,s=cr+p+q:=⟨_,rfl⟩;have HST:=I (hS.step HU2.lim HV.lim om (s:=s) (by rw[HP.out,jn hq,hs]));obtain⟨lo,hlo⟩:∃lo,lo=s % B32:=⟨_,rfl⟩;obtain⟨hi,hhi⟩:∃hi,hi=s / B32:=⟨_,rfl⟩;rw[← hlo,← hhi] at HST;have hhi1:hi≤1:=HST.car;have E1:Hid (((cr:Int)+p+q) % 4294967296=lo):=by rw[hB] at hlo;exact (by omega:((cr:Int)+p+q) % 4294967296=lo)
     have E2:Hid (((cr:Int)+p+q) / 4294967296=hi):=by rw[hB] at hhi;exact (by omega:((cr:Int)+p+q) / 4294967296=hi)
     have HL2:=I (hR.put t lo);have HG4:=I (hG.set (p:=⟨g,t,none⟩) hg0 (lv lo));have HG5:=I (hGG.set (p:=⟨g,t,none⟩) (by rw[HGE.out];exact nr _) (lv lo));clear hp hq hbl hbl2 hlo hhi hs;go_wp2;go_roundw
     case rel=>
      rw[E1.out,E2.out];exact⟨t+1,hi,_,by go_num,rfl,by omega,hhi1,HST,HL2,HG4,HG5⟩
     case measure=>simp[intOf];omega
    ·obtain⟨s,hs⟩:∃s,s=cr+p:=⟨_,rfl⟩;have HST:=I (hS.step HU2.lim HV.lim om (s:=s) (by rw[HP.out,gw (by rw[HV.len];simp only;omega),hs];rfl));obtain⟨lo,hlo⟩:∃lo,lo=s % B32:=⟨_,rfl⟩;obtain⟨hi,hhi⟩:∃hi,hi=s / B32:=⟨_,rfl⟩;rw[← hlo,← hhi] at HST;have hhi1:hi≤1:=HST.car;have E1:Hid (((cr:Int)+p) % 4294967296=lo):=by rw[hB] at hlo;exact (by omega:((cr:Int)+p) % 4294967296=lo)
     have E2:Hid (((cr:Int)+p) / 4294967296=hi):=by rw[hB] at hhi;exact (by omega:((cr:Int)+p) / 4294967296=hi)
     have HL2:=I (hR.put t lo);have HG4:=I (hG.set (p:=⟨g,t,none⟩) hg0 (lv lo));have HG5:=I (hGG.set (p:=⟨g,t,none⟩) (by rw[HGE.out];exact nr _) (lv lo));clear hp hbl hlo hhi hs;go_wp2;go_roundw
     case rel=>
      rw[E1.out,E2.out];exact⟨t+1,hi,_,by go_num,rfl,by omega,hhi1,HST,HL2,HG4,HG5⟩
     case measure=>simp[intOf];omega
   ·obtain rfl:t=n:=by omega
    have q0:=hR.cell (hS.zer t (nr _) om);obtain⟨e1,e2⟩:=hS.done (by rw[HU2.len];exact nr _) (by rw[HV.len];simp only;omega);have HL2:=I (hR.put t cr);have HG4:=I (hG.set (p:=⟨g,t,none⟩) hg0 (lv cr));have hlen:(o.set t cr).length=t+1:=by rw[List.length_set];exact hS.len
    have HT:=I (bx (wr.setCell ⟨g,t,none⟩ (lv cr)) ⟨some ⟨g,0,none⟩,t+1,t+1⟩ (o.set t cr) (by rw[← hlen];exact HL2.num e2 om));rw[e1,VA.out,VB.out] at HT;clear e1 e2 hlen;go_wp2_with fail;refine cm1 HT fun z w5 HZ G5=>?_
    have HG6:=I (HG4.trans G5);clear HT;go_wp2;go_ret;exact⟨z,rfl,HZ.out,HG6.out⟩
theorem fo {w:World} {g:Nat} {o:List Nat} {n:Nat} (h:Lb w g o) (hl:Lim o) (hn:o.length=n) (hm:n≤9223372036854775807):Sv.Num w ⟨some ⟨g,0,none⟩,n,n⟩ o:=by
 have:=h.num hl om;rw[hn] at this;exact this
theorem aan (w:World):Calls Tryz.prog 269 #[] w fun e w'=>∃z:Sv,e=.returned z.v∧z.Num w' (a7 1)∧Gr w w':=by
 have HR:Hid (Lb (w.alloc (.cells #[.int .u32 1] 200)) w.heap.size [1]):=Bk.made w 200 #[.int .u32 1];have HG:=I ((Gr.refl w).alloc (.cells #[.int .u32 1] 200));go_enter Tryz.func269,Tryz.ntmps269;go_wp2;go_ret;exact⟨⟨some ⟨w.heap.size,0,none⟩,1,1⟩,rfl,by rw[fi dx dx];exact fo HR (Lim.one dx) rfl dx,HG.out⟩
theorem th (w:World) (x:Sv) (m:Nat) (hx:x.Num w (a7 m)):Calls Tryz.prog 266 #[x.v] w fun e w'=>e=.returned (.bool (decide (m=1)))∧Gr w w':=by
 obtain⟨A,n,c⟩:=x;have hn:(a7 m).length=n:=hx.len;by_cases h1:n=1
 ·subst h1;obtain⟨y,ad,hy,hy9,hA,hb,d⟩:=hx.at (i:=0) Nat.one_pos;simp only at hA;subst hA;have hl:a7 m=[y]:=by
   match hh:a7 m,hn with
   | [z],_=>rw[hh] at hy;simpa using hy
  have hv:m=y:=by rw[← vl m,hl];simp[val]
  have HD:Hid (((y:Int) == 1)=decide (m=1)):=by
   rw[hv];exact (by by_cases h:y=1<;>simp[h];omega:((y:Int) == 1)=decide (y=1))
  rw[add_zero] at d;clear hx hn hy hl hv hy9 hb;go_enter Tryz.func266,Tryz.ntmps266;go_wp2;go_ret;exact⟨by rw[← HD.out];rfl,Gr.refl w⟩
 ·have hd:((n:Int) == 1)=false:=by simp;omega
  have HD:Hid (decide (m=1)=false):=by
   have:decide (m=1)=false:=by
    rw[decide_eq_false_iff_not];rintro rfl;rw[fi dx dx] at hn;exact h1 hn.symm
   exact this
  clear hx hn;go_enter Tryz.func266,Tryz.ntmps266;go_wp2;go_ret;exact⟨by rw[HD.out];rfl,Gr.refl w⟩
theorem aao (w:World) (x:Nat) (hx:x < 18446744073709551616):Calls Tryz.prog 272 #[.int .u64 x] w fun e w'=>∃z:Sv,e=.returned z.v∧z.Num w' (a7 x)∧Gr w w':=by
 obtain⟨lo,hi,hlo,hhi,e⟩:∃lo hi,lo < B32∧hi < B32∧x=lo+B32*hi:=⟨x % B32,x / B32,Nat.mod_lt _ dx,Nat.div_lt_of_lt_mul (by rw[ba];omega),(Nat.mod_add_div x B32).symm⟩;have E1:(x:Int) % 4294967296=lo:=by rw[ba] at e hlo;omega
 have E2:(x:Int) / 4294967296=hi:=by rw[ba] at e hlo hhi;omega
 have HR:Hid (Lb (w.alloc (.cells #[.int .u32 lo,.int .u32 hi] 200)) w.heap.size [lo,hi]):=Bk.made w 200 #[.int .u32 lo,.int .u32 hi];have HG:=I ((Gr.refl w).alloc (.cells #[.int .u32 lo,.int .u32 hi] 200));have HT:=I (bx _ ⟨some ⟨w.heap.size,0,none⟩,2,2⟩ [lo,hi] (fo HR (fun y hy=>by simp at hy;rcases hy with rfl | rfl<;>assumption) rfl dx));rw[show val [lo,hi]=x by rw[e];simp[val]] at HT;clear e;go_enter Tryz.func272,Tryz.ntmps272;go_wp2_with fail;refine cm1 HT fun z w1 HZ G1=>?_
 have HG1:=I (HG.trans G1);clear HT;go_wp2;go_ret;exact⟨z,rfl,HZ.out,HG1.out⟩
theorem aj4 {r p:Nat} (hr:r < B32) (hp:p < B32):bits .or .u64 ((r:Int)*4294967296) (p:Int)=((r*B32+p:Nat):Int):=by
 rw[ba] at*;rw[show (r:Int)*4294967296=((r*4294967296:Nat):Int) by omega,u64_or_nat _ _ om om];have:=Nat.shiftLeft_add_eq_or_of_lt (i:=32) hp r;rw[Nat.shiftLeft_eq] at this;exact congrArg _ this.symm
theorem ajp {q:Nat} (h:q < 4294967296):IntKind.u64.wrap (q:Int) % 4294967296=(q:Int):=by rw[IntWalk.u64_in _ om];omega
theorem tl (a b:Nat):(a:Int).tmod b=((a % b:Nat):Int):=(Int.ofNat_tmod a b).symm
theorem tm (a b:Nat):(a:Int).tdiv b=((a / b:Nat):Int):=(Int.ofNat_tdiv a b).symm
theorem a8c (w:World) (x:Sv) (a:List Nat) (d:Nat) (hx:x.Num w a) (ha:a.length≤1000000) (hd0:0 < d) (hd:d < B32):
  Calls Tryz.prog 330 #[x.v,.int .u32 d] w fun e w'=>∃y z:Sv,e=.returned (.tuple #[y.v,z.v])∧y.Num w' (a7 (val a / d))∧z.Num w' (a7 (val a % d))∧Gr w w':=by
 obtain⟨A,n,c⟩:=x;have hn:a.length=n:=hx.len;have HN:=I hn;have HX:=I hx;have hn9:n≤1000000:=by rw[← hn];exact ha
 have hmk:=a21 n om w;have HR0:=I (Lb.made w n);have HG0:Hid (Gr w (w.alloc (.cells (Array.replicate n (.int .u32 0)) 200))):=(Gr.refl w).alloc _;have HS0:=I (DivSt.start a hd0);rw[HN.out] at HS0;have hg0:Hid (w.heap.size≤w.heap.size):=nr _;have hd9:d < 4294967296:=hd;clear hx ha hn hd;(try simp only)
 go_enter Tryz.func330,Tryz.ntmps330;go_wp2;clear hmk;generalize hge:w.heap.size=g at*;have HGE:=I hge;clear hge;go_loopw [7,8] (fun s7 i wr=>∃(k r:Nat) (o:List Nat),i=.int .i64 ((k:Int) - 1)∧s7=.int .u64 r∧k≤n∧Hid (DivSt a o d k r)∧Hid (Lb wr g o)∧Hid (Gr w wr)) (fun _ i _=>(intOf i+1).toNat)
 case atStart=>exact⟨n,0,_,rfl,rfl,nr _,HS0,HR0,HG0⟩
 case round=>
  obtain⟨k,r,o,rfl,rfl,hk,hS,hR,hG⟩:=hrel;have fz:=hR.fz;have hr9:r < d:=hS.rem;cases k with
  | zero=>
   obtain⟨e1,e2⟩:=hS.done;have hlen:o.length=n:=by rw[hS.len,HN.out]
   have HT:=I (bx wr ⟨some ⟨g,0,none⟩,n,n⟩ o (fo hR hS.lim hlen om));have HO:=I (fun W=>aao W r (by have:=hd9;omega));rw[e1] at HT;rw[e2] at HO;have HE2:=I e2;clear e1 e2 hlen;have h0:((0:Nat):Int) - 1=-1:=rfl;rw[h0];go_wp2_with fail;refine cm1 HT fun y w5 HY G5=>?_
   have HG5:=I (hG.trans G5);clear HT;rw[HE2.out];go_wp2_with fail;refine cm1 (HO.out w5) fun z w6 HZ G6=>?_
   have HY6:=I (HY.gr G6);have HG6:=I (HG5.trans G6);clear HO;go_wp2;go_returns;exact⟨y,z,rfl,HY6.out,HZ.out,HG6.out⟩
  | succ j=>
   have hj:(((j+1:Nat):Int) - 1)=(j:Int):=by omega
   rw[hj];obtain⟨p,ad,hp,hp9,hAe,hbl,d1⟩:=(HX.gr hG).at (i:=j) hk;(try simp only at hAe)
   subst hAe;have hB:=ba;rw[hB] at hp9;have q0:=hR.cell (hS.zer j om (by rw[HN.out];omega));have hrB:r < B32:=by rw[hB];omega
   obtain⟨s,hs⟩:∃s,s=r*B32+p:=⟨_,rfl⟩;obtain⟨hST,hq9⟩:=hS.step HX.lim hp (by rw[hB];exact hd9) hs;have HST:=I hST;have E0:=I (aj4 hrB (by rw[hB];exact hp9));rw[← hs] at E0;have E1:=I (tl s d);have E2:Hid (IntKind.u64.wrap ((s:Int).tdiv d) % 4294967296=((s / d:Nat):Int)):=by
    rw[tm];exact ajp (by rw[hB] at hq9;exact hq9)
   have HL2:=I (hR.put j (s / d));have HG5:=I (hG.set (p:=⟨g,j,none⟩) (by rw[HGE.out];exact nr _) (lv (s / d)));clear hp hbl hs hST hq9 hrB hS;generalize s / d=qu at*;generalize s % d=re at*;go_wp2;go_roundw
   case rel=>
    rw[E0.out,E1.out,E2.out];exact⟨j,re,_,rfl,rfl,by omega,HST,HL2,HG5⟩
   case measure=>first | (simp[intOf];done) | (simp[intOf];omega)
theorem aj3 {p:Nat} (hp:p < 4294967296):bits .or .u64 0 (p:Int)=(p:Int):=by
 have:=u64_or_nat 0 p om om;rw[Nat.zero_or] at this;exact this
theorem ah0 {v p:Nat} (hv:v < 4294967296) (hp:p < 4294967296):bits .or .u64 (v:Int) ((p:Int)*4294967296)=((v+B32*p:Nat):Int):=by
 rw[ba,show (p:Int)*4294967296=((p*4294967296:Nat):Int) by omega,u64_or_nat _ _ om om];have:=Nat.shiftLeft_add_eq_or_of_lt (i:=32) hv p;rw[Nat.shiftLeft_eq,Nat.or_comm] at this;rw[← this,Nat.mul_comm,Nat.add_comm]
theorem a4c (w:World) (x:Sv) (m:Nat) (hx:x.Num w (a7 m)) (hm:m < 18446744073709551616):
  Calls Tryz.prog 329 #[x.v] w fun e w'=>e=.returned (.tuple #[.int .u64 m,.bool true])∧Gr w w':=by
 have H1:=I (bx w x _ hx);rw[vl] at H1;have hl2:(a7 m).length≤2:=b8 (by rw[ba];exact hm);clear hx;go_enter Tryz.func329,Tryz.ntmps329;go_wp2_with fail;refine cm1 H1 fun u w1 HU G1=>?_
 have HG1:=I G1;clear H1;obtain⟨A,n,c⟩:=u;have HN:=I HU.len;simp only[Sv.v] at*;have hn2:n≤2:=by rw[← HN.out];exact hl2
 have V0:Hid (val ((a7 m).take 0)=0):=by rw[List.take_zero];exact rfl
 have VN:Hid (val ((a7 m).take n)=m):=by
  rw[List.take_of_length_le (by rw[HN.out];exact nr _)];exact vl m
 clear hl2;go_wp2;go_loopw [4,14] (fun s4 i wr=>∃t v:Nat,i=.int .i64 t∧s4=.int .u64 v∧t≤n∧Hid (val ((a7 m).take t)=v)∧Hid (Gr w wr)∧Hid (Gr w1 wr)) (fun _ i _=>n - (intOf i).toNat)
 case atStart=>exact⟨0,0,rfl,rfl,nq _,V0,HG1,Gr.refl _⟩
 case round=>
  obtain⟨t,v,rfl,rfl,ht,hV,hG,hGG⟩:=hrel;by_cases htn:t < n
  ·obtain⟨p,ad,hp,hp9,hAe,hbl,d1⟩:=(HU.gr hGG).at (i:=t) htn;simp only at hAe;subst hAe;have hVS:=bn hp;have hvl:v < B32 ^ t:=by
    rw[← hV.out];have:=en ((f8 m).take t);rw[List.length_take,HN.out,Nat.min_eq_left ht] at this;exact this
   rw[hV.out] at hVS;rw[ba] at hp9;rcases (show t=0∨t=1 by omega) with rfl | rfl
   ·have hv0:v=0:=by simpa using hvl
    subst hv0;rw[add_zero] at d1;have E0:=I (aj3 hp9);have HV2:Hid (val ((a7 m).take 1)=p):=by
     rw[hVS,Nat.pow_zero,Nat.one_mul,Nat.zero_add];exact rfl
    clear hVS hvl hp hbl;go_wp2;go_roundw
    case rel=>
     rw[E0.out];exact⟨1,p,rfl,rfl,by omega,HV2,hG,hGG⟩
    case measure=>simp[intOf];omega
   ·have d2:wr.cell? ⟨ad.block,ad.off+1,none⟩=some (.int .u32 (p:Int)):=d1;clear d1;obtain rfl:n=2:=by omega
    rw[Nat.pow_one] at hVS hvl;have E0:=I (ah0 (by rw[ba] at hvl;exact hvl) hp9);have HV2:=I hVS;generalize v+B32*p=v2 at*;clear hVS hvl hp hbl;go_wp2;go_roundw
    case rel=>
     rw[E0.out];exact⟨2,v2,rfl,rfl,by omega,HV2,hG,hGG⟩
    case measure=>simp[intOf]
  ·obtain rfl:t=n:=by omega
   have HE:=I (hV.symm.trans VN);go_wp2;go_returns;exact⟨by rw[HE.out];rfl,hG.out⟩
theorem rf {x:Nat} (h:0 < x) (hx:x < B32):0 < Lib.bitLen x∧Lib.bitLen x≤32:=by
 obtain⟨h1,h2,_⟩:=Lib.bitLenAux_bounds 64 x (nm hx dx) om;refine⟨h1,Nat.le_of_not_lt fun h3=>?_⟩;have h4:2 ^ 32≤2 ^ (Lib.bitLenAux 64 x - 1):=zS dx (by unfold Lib.bitLen at h3;omega);rw[ba] at hx;omega
theorem a6h (w:World) (x:Sv) (l:List Nat) (hx:x.Num w l) (hl:l.length≤1000000):
  Calls Tryz.prog 220 #[x.v] w fun e w'=>(∃r:Nat,e=.returned (.int .i64 r)∧r≤100000000∧((r:Int) == 0)=decide (val l=0))∧Gr w w':=by
 have H1:=I (bx w x l hx);have HA:Hid ((a7 (val l)).length≤1000000):=nt (b8 (en hx.lim)) hl;clear hx hl;go_enter Tryz.func220,Tryz.ntmps220;go_wp2_with fail;refine cm2 H1 fun u w1 hu G1=>?_
 obtain⟨A,n,c⟩:=u;have HN:=I hu.len;have hn9:n≤1000000:=nt (Nat.le_of_eq HN.symm) HA;have HU:=I hu;have HG1:=I G1;clear hu H1;simp only[Sv.v] at*;by_cases h0:n=0
 ·have HZ:Hid (val l=0):=bw.1 (HN.trans h0);have hd:((n:Int) == 0)=true:=by simp[h0]
  go_wp2;go_ret;exact⟨⟨0,rfl,by omega,by rw[HZ.out];rfl⟩,HG1.out⟩
 ·have HZ:Hid (decide (val l=0)=false):=by
   have h:¬val l=0:=fun h=>h0 (HN.symm.trans (bw.2 h))
   exact df h
  have hd:((n:Int) == 0)=false:=by simp;omega
  obtain⟨j,rfl⟩:∃j,n=j+1:=⟨n - 1,by omega⟩;obtain⟨p,ad,hp,hp9,hAe,hbl,d1⟩:=HU.at (i:=j) (Nat.lt_succ_self j);simp only at hAe;subst hAe;have hp0:p≠0:=by
   have:=si (val l) p;rw[List.getLast?_eq_getElem?,HN.out] at this;exact this hp
  obtain⟨hpos,hpos2⟩:=rf (x:=p) om hp9;have HL:=I (fun W=>Tryz.bits_Len32 (p:Int) W om (by rw[ba] at hp9;omega));clear hp hbl hp0;have hj:((j+1:Nat):Int) - 1=j:=by omega
  rw[Int.toNat_natCast] at HL;generalize Lib.bitLen p=q at*;go_wp2_with fail;refine (HL.out w1).mono ?_;rintro e w2 ⟨rfl,rfl⟩;clear HL;have hw:IntKind.i64.wrap (32*(j:Int)+q)=32*(j:Int)+q:=wi _ om;go_wp2;go_ret;exact⟨⟨32*j+q,by go_num,by omega,by rw[HZ.out];simp;omega⟩,HG1.out⟩
theorem jj (w:World) (x:Rv) (q:Q) (hx:x.Is w q) (hl:(a7 q.den).length≤1000000):
  Calls Tryz.prog 217 #[x.v] w fun e w'=>∃y:Sv,e=.returned y.v∧y.Num w' (a7 q.un)∧Gr w w':=by
 obtain⟨s,num,den⟩:=x;have b1:=Bk.made w 35 #[.bool s,num.v,den.v];have HG1:=I ((Gr.refl w).alloc (.cells #[.bool s,num.v,den.v] 35));have HB:=I b1;have HD:=I (hx.den.gr HG1);have H1:=I (a6h _ den _ HD hl);have HO:=I aan;rw[vl] at H1;have c2:=b1.cell 2;clear hx hl b1;simp only[Rv.v] at*;go_enter Tryz.func217,Tryz.ntmps217;go_wp2_with fail;refine H1.mono ?_;rintro e w1 ⟨⟨r,rfl,hr,hr0⟩,G1⟩;have HG2:=I (HG1.trans G1);have HD2:=I (HD.gr G1);have c3:=(G1.bk HB).cell 2;clear G1 H1 HB c2;by_cases h0:q.den=0
 ·have HU:Hid (q.un=1):=by unfold Q.un;exact if_pos h0
  rw[dt h0] at hr0;go_wp2_with fail;refine cm1 (HO.out w1) fun y w2 HY G2=>?_
  have HG3:=I (HG2.trans G2)

  go_wp2;go_ret;exact⟨y,rfl,by rw[HU.out];exact HY.out,HG3.out⟩
 ·have HU:Hid (q.un=q.den):=by unfold Q.un;exact if_neg h0
  rw[df h0] at hr0;go_wp2;go_ret;exact⟨den,rfl,by rw[HU.out];exact HD2.out,HG2.out⟩
theorem aex {x:Nat} (h:0 < x) (hx:x < B32):2147483648≤x*2 ^ (32 - Lib.bitLen x)∧x*2 ^ (32 - Lib.bitLen x) < B32:=by
 obtain⟨h1,h2,h3⟩:=Lib.bitLenAux_bounds 64 x (nm hx dx) om;obtain⟨p1,p2⟩:=rf h hx;unfold Lib.bitLen at*;generalize Lib.bitLenAux 64 x=q at*;have e1:(2:Nat) ^ (q - 1)*2 ^ (32 - q)=2 ^ 31:=by rw[← Nat.pow_add];congr 1;omega
 have e2:(2:Nat) ^ q*2 ^ (32 - q)=2 ^ 32:=by rw[← Nat.pow_add];congr 1;omega
 have m1:2 ^ (q - 1)*2 ^ (32 - q)≤x*2 ^ (32 - q):=zT _ (by assumption);have m2:x*2 ^ (32 - q) < 2 ^ q*2 ^ (32 - q):=Nat.mul_lt_mul_of_pos_right (by assumption) (Nat.two_pow_pos _);rw[ba];omega
theorem amz (w:World) (x:Nat) (h:0 < x) (hx:x < B32):
  Calls Tryz.prog 331 #[.int .u32 (x:Int)] w fun e w'=>e=.returned (.int .i64 ((32 - Lib.bitLen x:Nat):Int))∧Gr w w':=by
 obtain⟨hpos,hpos2⟩:=rf h hx;have HL:=I (fun W=>Tryz.bits_Len32 (x:Int) W om (by rw[ba] at hx;omega));rw[Int.toNat_natCast] at HL;generalize Lib.bitLen x=q at*;clear h hx;have hc:(32:Int) - (q:Int)=((32 - q:Nat):Int):=by omega
 have HC:=I hc;clear hc;go_enter Tryz.func331,Tryz.ntmps331;go_wp2_with fail;refine (HL.out w).mono ?_;rintro e w2 ⟨rfl,rfl⟩;clear HL;go_wp2;rw[HC.out];go_ret;exact⟨rfl,Gr.refl _⟩
theorem a7y (w:World) (x:Sv) (l:List Nat) (h:x.Num w l) (h0:val l≠0):
  Calls Tryz.prog 218 #[x.v] w fun e w'=>e=.returned (.slice x.A (a7 (val l)).length x.c)∧Gr w w':=by
 obtain⟨A,n,c⟩:=x;have HI:=I h;have hn:=h.is.cap;have hc:=h.is.max;have HL:=I h.len;have H0:=I h0;simp only at hn hc HL ⊢;clear h h0;go_enter Tryz.func218,Tryz.ntmps218;go_wp2;go_loopw [3] (fun s wr=>∃k:Nat,s=.int .i64 k∧k≤n∧Hid (∀i x,k≤i→l[i]?=some x→x=0)∧Hid (Gr w wr)) (fun s _=>(intOf s).toNat)
 case atStart=>exact⟨n,rfl,nr _,(fun i x hi hx=>by rw[List.getElem?_eq_none (by rw[HL.out];exact hi)] at hx;cases hx),Gr.refl w⟩
 case round=>
  obtain⟨k,rfl,hk,hZ,hG⟩:=hrel;cases k with
  | zero=>exact absurd (by have e:=n5 (l:=l) (k:=0) hZ;rw[← e];rfl) H0
  | succ j=>
   obtain⟨y,ad,hy,hy9,hA,hb,d⟩:=(HI.gr hG).at (i:=j) hk;simp only at hA;subst hA;have hw1:IntKind.i64.wrap ((j:Int)+1 - 1)=(j:Int):=by rw[wi _ om];omega
   have hw2:IntKind.i64.wrap (((j+1:Nat):Int) - 1)=(j:Int):=by rw[wi _ om];omega
   by_cases hy0:y=0
   ·subst hy0;have HZ:=I (uw hZ hy);clear hy hy9 hb hZ;go_wp2;go_roundw
    case rel=>exact⟨j,by go_num,by omega,HZ,hG⟩
    case measure=>first | (simp[intOf];done) | (simp[intOf];omega)
   ·have HT:=I (v8 (k:=j+1) HI.lim (by rw[HL.out];exact hk) hZ (fun x _ hx=>by
     rw[Nat.add_sub_cancel,hy] at hx;injection hx with hx;omega))
    have HK:Hid ((a7 (val l)).length=j+1):=by
     have h:(a7 (val l)).length=j+1:=by rw[← HT.out,List.length_take,HL.out];exact Nat.min_eq_left hk
     exact h
    clear hy hy9 hb hZ;go_wp2;go_ret;exact⟨by rw[HK.out];rfl,hG.out⟩
end
structure Half (K M:Nat):Prop where
 prod:M*K=B32
 k0:0 < K
 m0:0 < M
theorem sj {k:Nat} (h:k≤32):Half (2 ^ k) (2 ^ (32 - k)):=
 ⟨by rw[← Nat.pow_add,show 32 - k+k=32 by omega],Nat.two_pow_pos _,Nat.two_pow_pos _⟩
section
variable {K M p z:Nat}
theorem Half.low (h:Half K M):p*K % B32=p % M*K:=by rw[← h.prod];exact Nat.mul_mod_mul_right K p M
theorem Half.high (h:Half K M):p*K / B32=p / M:=by rw[← h.prod];exact Nat.mul_div_mul_right p M h.k0
theorem Half.lt (h:Half K M) (hp:p < B32):p / M < K:=Nat.div_lt_of_lt_mul (by rw[h.prod];exact hp)
theorem Half.fits (h:Half K M) (hz:z < K):z+p % M*K < B32:=by
 have h1:p % M+1≤M:=Nat.mod_lt _ h.m0;have h2:=Nat.mul_le_mul_right K h1;rw[h.prod,Nat.add_mul,Nat.one_mul] at h2;omega
end
theorem amh {k p z:Nat} (hk:k≤32) (hz:z < 2 ^ k):bits .or .u32 (z:Int) ((p*2 ^ k % B32:Nat):Int)=((z+p*2 ^ k % B32:Nat):Int):=by
 have H:=sj hk;have h1:z+p*2 ^ k % B32 < B32:=by rw[H.low];exact H.fits hz
 have hB:=ba;rw[u32_or_nat _ _ (by omega) (by omega),Nat.or_comm,nat_join k _ _ (by rw[H.low];exact Nat.mul_mod_left _ _) hz,Nat.add_comm]
structure LefSt (a o:List Nat) (i k:Nat):Prop where
 len:o.length=a.length+1
 lim:Lim o
 sum:val o=val (a.take i)*2 ^ k
 low:∀z,o[i]?=some z→z < 2 ^ k
 zer:∀j,i < j→j < a.length+1→o[j]?=some 0
theorem LefSt.start (a:List Nat) (k:Nat):LefSt a (List.replicate (a.length+1) 0) 0 k:=
 ⟨by simp,Lim.zeros _,by rw[iu];simp[val],fun z hz=>by rw[i6 (Nat.succ_pos _)] at hz;cases hz;exact Nat.two_pow_pos k,fun j _ hj=>i6 hj⟩
theorem LefSt.step {a o:List Nat} {i k p z:Nat} (h:LefSt a o i k) (ha:Lim a) (hk:k≤32) (hp:a[i]?=some p) (hz:o[i]?=some z):
  LefSt a ((o.set i (z+p*2 ^ k % B32)).set (i+1) (p*2 ^ k / B32)) (i+1) k:=by
 have H:=sj hk;have hi:i < a.length:=(List.getElem?_eq_some_iff.1 hp).1;have hp9:=ha.at hp;have hz9:=h.low z hz;have h1:o[i+1]?=some 0:=h.zer (i+1) (by omega) (by omega);have h2:(o.set i (z+p*2 ^ k % B32))[i+1]?=some 0:=by rw[ck (by omega)];exact h1
 have hlo:z+p*2 ^ k % B32 < B32:=by rw[H.low];exact H.fits hz9
 have hhi:p*2 ^ k / B32 < 2 ^ k:=by rw[H.high];exact H.lt hp9
 have hKB:2 ^ k≤B32:=by rw[← H.prod];exact Nat.le_mul_of_pos_left _ H.m0
 refine⟨by rw[List.length_set,List.length_set];exact h.len,(h.lim.set i hlo).set (i+1) (Nat.lt_of_lt_of_le hhi hKB),?_,fun y hy=>?_,fun j hj hm=>?_⟩
 ·have e1:=ep (z+p*2 ^ k % B32) hz;have e2:=ep (p*2 ^ k / B32) h2;have e3:=bn hp;rw[e3,Nat.add_mul];have e4:B32 ^ i*p*2 ^ k=B32 ^ i*(p*2 ^ k % B32)+B32 ^ (i+1)*(p*2 ^ k / B32):=by
   rw[Nat.pow_succ,Nat.mul_assoc (B32 ^ i) B32,← Nat.mul_add,Nat.mod_add_div,Nat.mul_assoc]
  have e5:=h.sum;rw[Nat.mul_add] at e1;rw[Nat.mul_zero] at e2;omega
 ·rw[List.getElem?_set_self (by rw[List.length_set,h.len];omega)] at hy;cases hy;exact hhi
 ·rw[ck (by omega),ck (by omega)];exact h.zer j (by omega) hm
theorem LefSt.done {a o:List Nat} {k:Nat} (h:LefSt a o a.length k):val o=val a*2 ^ k:=by
 rw[h.sum,List.take_length]
section
attribute [local go_sem] Oper.semAt_some
theorem act {p k:Nat} (hp:p < B32) (hk:k≤32):IntKind.u64.wrap (IntKind.u64.wrap (p:Int)*2 ^ k)=((p*2 ^ k:Nat):Int):=by
 have hB:=ba;rw[hB] at hp;have h1:(2:Nat) ^ k≤4294967296:=zS (n:=2) dx hk;have h2:p*2 ^ k≤4294967295*4294967296:=Nat.mul_le_mul om h1;rw[IntWalk.u64_in (p:Int) om,show (p:Int)*2 ^ k=((p*2 ^ k:Nat):Int) by push_cast;rfl,IntWalk.u64_in _ om]
theorem a5v (w:World) (x:Sv) (a:List Nat) (k:Nat) (hx:x.Num w a) (ha:a.length≤1000000) (hk:k≤31):
  Calls Tryz.prog 332 #[x.v,.int .i64 (k:Int)] w fun e w'=>∃(g:Nat) (o:List Nat),e=.returned (.slice (some ⟨g,0,none⟩) o.length o.length)∧o.length=a.length+1∧Lim o∧val o=val a*2 ^ k∧(∀z,o[a.length]?=some z→z < 2 ^ k)∧Lb w' g o∧w.heap.size≤g∧Gr w w':=by
 obtain⟨A,n,c⟩:=x;have hn:a.length=n:=hx.len;have HN:=I hn;have HX:=I hx;have hn9:n≤1000000:=by rw[← hn];exact ha
 have hmk:=a21 (n+1) om w;rw[show (((n+1:Nat)):Int)=(n:Int)+1 by omega] at hmk;have HR0:=I (Lb.made w (n+1));have HG0:Hid (Gr w (w.alloc (.cells (Array.replicate (n+1) (.int .u32 0)) 200))):=(Gr.refl w).alloc _;have HS0:=I (LefSt.start a k);rw[HN.out] at HS0;have HK:=I hk;have hk0:(0:Int)≤(k:Int):=by omega
 have hk9:(k:Int)≤64:=by omega
 clear hx ha hn hk;(try simp only)
 go_enter Tryz.func332,Tryz.ntmps332;go_wp2;clear hmk;generalize hge:w.heap.size=g at*;have HGE:=I hge;clear hge;go_loopw [15] (fun i wr=>∃(t:Nat) (o:List Nat),i=.int .i64 t∧t≤n∧Hid (LefSt a o t k)∧Hid (Lb wr g o)∧Hid (Gr w wr)) (fun i _=>n - (intOf i).toNat)
 case atStart=>exact⟨0,_,rfl,nq _,HS0,HR0,HG0⟩
 case round=>
  obtain⟨t,o,rfl,ht,hS,hR,hG⟩:=hrel;have fz:=hR.fz;have hlen:o.length=n+1:=by rw[hS.len,HN.out]
  by_cases htn:t < n
  ·obtain⟨p,ad,hp,hp9,hAe,hbl,d1⟩:=(HX.gr hG).at (i:=t) htn;(try simp only at hAe)
   subst hAe;obtain⟨z,hz⟩:∃z,o[t]?=some z:=⟨_,ge om⟩;obtain⟨y,hy⟩:∃y,o[t+1]?=some y:=⟨_,ge om⟩;have q0:=hR.cell hz;have q1:=hR.cell hy;have HST:=I (hS.step HX.lim (by have:=HK.out;omega) hp hz);have E0:=I (act hp9 (by have:=HK.out;omega:k≤32));have E1:=I (amh (k:=k) (p:=p) (by have:=HK.out;omega:k≤32) (hS.low z hz));have EM:Hid (((p*2 ^ k:Nat):Int) % 4294967296=((p*2 ^ k % B32:Nat):Int)):=by rw[ba];exact (Int.natCast_emod _ _).symm
   have ED:Hid (((p*2 ^ k:Nat):Int) / 4294967296 % 4294967296=((p*2 ^ k / B32:Nat):Int)):=by
    have h9:=(sj (k:=k) (by have:=HK.out;omega)).lt hp9;rw[← (sj (k:=k) (by have:=HK.out;omega)).high] at h9;have h1:(2:Nat) ^ k≤2 ^ 31:=zS (n:=2) dx HK;have h3:((p*2 ^ k:Nat):Int) / 4294967296=((p*2 ^ k / B32:Nat):Int):=by rw[ba];exact (Int.natCast_ediv _ _).symm
    show ((p*2 ^ k:Nat):Int) / 4294967296 % 4294967296=((p*2 ^ k / B32:Nat):Int);rw[h3];generalize p*2 ^ k / B32=v at*;omega
   have HL1:=I (hR.put t (z+p*2 ^ k % B32));have HL2:=I (HL1.put (t+1) (p*2 ^ k / B32));have HG5:=I ((hG.set (p:=⟨g,t,none⟩) (by rw[HGE.out];exact nr _) (lv (z+p*2 ^ k % B32))).set (p:=⟨g,t+1,none⟩) (by rw[HGE.out];exact nr _) (lv (p*2 ^ k / B32)));clear hp hbl hz hy hS hlen;go_wp2;go_roundw
   case rel=>
    rw[E0.out,EM.out,E1.out,ED.out];exact⟨t+1,_,by go_num,by omega,HST,HL2,HG5⟩
   case measure=>simp[intOf];omega
  ·obtain rfl:t=n:=by omega
   have h9:=hS.out;rw[← HN.out] at h9;have HV:=I h9.done;have HLM:=I h9.lim;have HLW:=I h9.low;have HLE:=I h9.len;have hg0:Hid (w.heap.size≤g):=by rw[HGE.out];exact nr _
   clear h9 hS;go_wp2;go_ret;exact⟨g,o,by rw[hlen];rfl,HLE.out,HLM.out,HV.out,HLW.out,hR.out,hg0.out,hG.out⟩
end
theorem a31 {l:List Nat} {k:Nat} (hl:Lim l) (hz:∀j x,k≤j→l[j]?=some x→x=0):val l < B32 ^ k:=by
 rw[← n5 hz];refine Nat.lt_of_lt_of_le (en (hl.take k)) (Nat.pow_le_pow_right (by decide) ?_);rw[List.length_take];exact Nat.min_le_left _ _
structure RedSt (p v o:List Nat) (q t i c b:Nat):Prop where
 len:o.length=p.length
 lim:Lim o
 car:c < B32
 bor:b≤1
 sum:val o+B32 ^ t*(q*val (v.take i))=val p+B32 ^ (t+i)*(c+b)
 rest:∀j,(j < t∨t+i≤j)→o[j]?=p[j]?
theorem RedSt.start {p v:List Nat} (hp:Lim p) (q t:Nat):RedSt p v p q t 0 0 0:=
 ⟨rfl,hp,by decide,Nat.zero_le _,by simp[val],fun _ _=>rfl⟩
theorem RedSt.step {p v o:List Nat} {q t i c b d u s x b':Nat} (h:RedSt p v o q t i c b) (hv:Lim v) (hq:q < B32) (hd:v[i]?=some d) (hu:o[t+i]?=some u) (hs:s=c+q*d)
  (hx:x < B32) (hb:b'≤1) (e:x+s % B32+b=u+B32*b'):RedSt p v (o.set (t+i) x) q t (i+1) (s / B32) b':=by
 have hd9:=hv.at hd;refine⟨by rw[List.length_set];exact h.len,h.lim.set _ hx,?_,hb,?_,fun j hj=>?_⟩
 ·have h1:=h.car;have h2:q*d≤(B32 - 1)*(B32 - 1):=Nat.mul_le_mul (by omega) (by omega);refine Nat.div_lt_of_lt_mul ?_;rw[hs];have h3:(B32 - 1)*(B32 - 1)+(B32 - 1) < B32*B32:=by decide
  omega
 ·have e1:=ep x hu;have e2:=h.sum;rw[bn hd,Nat.mul_add,Nat.mul_add];have e3:B32 ^ t*(q*(B32 ^ i*d))=B32 ^ (t+i)*(q*d):=by
   rw[Nat.pow_add,Nat.mul_left_comm q,Nat.mul_assoc]
  have e4:B32 ^ (t+i)*(c+b)+B32 ^ (t+i)*(q*d)+B32 ^ (t+i)*x=B32 ^ (t+(i+1))*(s / B32+b')+B32 ^ (t+i)*u:=by
   have e5:c+b+q*d+x=B32*(s / B32+b')+u:=by
    have:=Nat.mod_add_div s B32;rw[Nat.mul_add];omega
   rw[← Nat.mul_add,← Nat.mul_add,e5,Nat.mul_add,← Nat.add_assoc t i 1,Nat.pow_succ,Nat.mul_assoc]
  omega
 ·rw[ck (by omega)];exact h.rest j (by omega)
theorem RedSt.fine {p v o:List Nat} {q t n c b u x:Nat} (h:RedSt p v o q t n c b) (hn:v.length=n) (hu:o[t+n]?=some u) (hx:x < B32) (e:x+c+b=u):
  val (o.set (t+n) x)+B32 ^ t*(q*val v)=val p:=by
 have e1:=ep x hu;have e2:=h.sum;rw[← hn,List.take_length] at e2;rw[hn] at e2;have e3:B32 ^ (t+n)*(c+b)+B32 ^ (t+n)*x=B32 ^ (t+n)*u:=by rw[← Nat.mul_add];congr 1;omega
 omega
theorem RedSt.over {p v o:List Nat} {q t n c b u x:Nat} (h:RedSt p v o q t n c b) (hn:v.length=n) (hu:o[t+n]?=some u) (hx:x < B32) (e:x+c+b=u+B32):
  val (o.set (t+n) x)+B32 ^ t*(q*val v)=val p+B32 ^ (t+n+1):=by
 have e1:=ep x hu;have e2:=h.sum;rw[← hn,List.take_length] at e2;rw[hn] at e2;have e3:B32 ^ (t+n)*(c+b)+B32 ^ (t+n)*x=B32 ^ (t+n)*u+B32 ^ (t+n+1):=by rw[← Nat.mul_add,Nat.pow_succ,← Nat.mul_add];congr 1;omega
 omega
structure BackSt (p v o:List Nat) (t i c:Nat):Prop where
 len:o.length=p.length
 lim:Lim o
 car:c≤1
 sum:val o+B32 ^ (t+i)*c=val p+B32 ^ t*val (v.take i)
 rest:∀j,(j < t∨t+i≤j)→o[j]?=p[j]?
theorem BackSt.start {p v:List Nat} (hp:Lim p) (t:Nat):BackSt p v p t 0 0:=
 ⟨rfl,hp,by decide,by simp[val],fun _ _=>rfl⟩
theorem BackSt.step {p v o:List Nat} {t i c d u s:Nat} (h:BackSt p v o t i c) (hv:Lim v) (hd:v[i]?=some d) (hu:o[t+i]?=some u) (hs:s=c+(u+d)):
  BackSt p v (o.set (t+i) (s % B32)) t (i+1) (s / B32):=by
 have hd9:=hv.at hd;have hu9:=h.lim.at hu;have h1:=h.car;refine⟨by rw[List.length_set];exact h.len,h.lim.set _ (Nat.mod_lt _ (by decide)),?_,?_,fun j hj=>?_⟩
 ·have:s / B32 < 2:=Nat.div_lt_of_lt_mul (by omega);omega
 ·have e1:=ep (s % B32) hu;have e2:=h.sum;rw[bn hd,Nat.mul_add];have e3:B32 ^ t*(B32 ^ i*d)=B32 ^ (t+i)*d:=by rw[Nat.pow_add,Nat.mul_assoc]
  have e4:B32 ^ (t+i)*(s % B32)+B32 ^ (t+(i+1))*(s / B32)=B32 ^ (t+i)*c+(B32 ^ (t+i)*u+B32 ^ (t+i)*d):=by
   rw[← Nat.add_assoc t i 1,Nat.pow_succ,Nat.mul_assoc,← Nat.mul_add,← Nat.mul_add,← Nat.mul_add,Nat.mod_add_div,hs]
  omega
 ·rw[ck (by omega)];exact h.rest j (by omega)
theorem BackSt.done {p v o:List Nat} {t n c u:Nat} (h:BackSt p v o t n c) (hn:v.length=n) (hu:o[t+n]?=some u):
  ∃k,k≤1∧val (o.set (t+n) ((u+c) % B32))+B32 ^ (t+n+1)*k=val p+B32 ^ t*val v:=by
 have hu9:=h.lim.at hu;have h1:=h.car;refine⟨(u+c) / B32,?_,?_⟩
 ·have:(u+c) / B32 < 2:=Nat.div_lt_of_lt_mul (by omega);omega
 ·have e1:=ep ((u+c) % B32) hu;have e2:=h.sum;rw[← hn,List.take_length] at e2;rw[hn] at e2;have e4:B32 ^ (t+n)*((u+c) % B32)+B32 ^ (t+n+1)*((u+c) / B32)=B32 ^ (t+n)*u+B32 ^ (t+n)*c:=by
   rw[Nat.pow_succ,Nat.mul_assoc,← Nat.mul_add,← Nat.mul_add,Nat.mod_add_div]
  omega
theorem ad5 {U V D q r:Nat} (hD:0 < D) (hV:0 < V) (hq:U / (D*V)≤q) (e:r+D*(q*V)=U):q=U / (D*V)∧r=U % (D*V):=by
 have e1:q*(D*V)=D*(q*V):=Nat.mul_left_comm q D V;have h1:q≤U / (D*V):=(Nat.le_div_iff_mul_le (Nat.mul_pos hD hV)).2 (by rw[e1];omega);have h2:q=U / (D*V):=Nat.le_antisymm h1 hq;refine⟨h2,?_⟩;have h3:=Nat.mod_add_div U (D*V);rw[← h2,Nat.mul_comm (D*V),e1] at h3;omega
theorem ad4 {U V D q r E o k:Nat} (hD:0 < D) (hV:0 < V) (hq:q≤U / (D*V)+1) (hU:U < E) (e:o+D*(q*V)=U+E) (ho:o < E) (hr:r < E) (hk:k≤1) (e2:r+E*k=o+D*V):q=U / (D*V)+1∧r=U % (D*V):=by
 have e1:q*(D*V)=D*(q*V):=Nat.mul_left_comm q D V;have h0:=Nat.mul_pos hD hV;have h1:U / (D*V) < q:=by
  refine Nat.lt_of_not_le fun h=>?_
  have:=(Nat.le_div_iff_mul_le h0).1 h;rw[e1] at this;omega
 have h2:q=U / (D*V)+1:=by omega
 refine⟨h2,?_⟩;have h3:=Nat.mod_add_div U (D*V);have h4:=Nat.mod_lt U h0;have h5:D*(q*V)=D*V*(U / (D*V))+D*V:=by rw[← e1,h2,Nat.add_mul,Nat.one_mul,Nat.mul_comm]
 rcases Nat.lt_or_ge k 1 with hk0 | hk1
 ·have:k=0:=by omega
  subst this;rw[Nat.mul_zero] at e2;omega
 ·have:k=1:=by omega
  subst this;omega
section
attribute [local go_sem] Oper.semAt_some
theorem a5r {p q z cr s:Nat} (hp:p < B32) (hq:q < B32) (hz:z < B32) (hc:cr < B32) (hs:s=cr+(p*q+z)):
  IntKind.u64.wrap ((cr:Int)+IntKind.u64.wrap (IntKind.u64.wrap (IntKind.u64.wrap (p:Int)*IntKind.u64.wrap (q:Int))+IntKind.u64.wrap (z:Int)))=(s:Int):=by
 have hB:=ba;rw[hB] at hp hq hz hc;have h4:p*q≤4294967295*4294967295:=Nat.mul_le_mul om om;have e1:(p:Int)*(q:Int)=((p*q:Nat):Int):=by rw[Int.natCast_mul]
 rw[IntWalk.u64_in (p:Int) om,IntWalk.u64_in (q:Int) om,IntWalk.u64_in (z:Int) om,e1,IntWalk.u64_in ((p*q:Nat):Int) om,IntWalk.u64_in (((p*q:Nat):Int)+z) om,IntWalk.u64_in _ om];omega
theorem zv (w:World) (x y:Sv) (a b:List Nat) (hx:x.Num w a) (hy:y.Num w b) (ha:a.length≤1000000) (hb:b.length≤1000000):
  Calls Tryz.prog 270 #[x.v,y.v] w fun e w'=>∃z:Sv,e=.returned z.v∧z.Num w' (a7 (val a*val b))∧Gr w w':=by
 have H1:=I (bx w x a hx);have HY:=I hy;have HA:Hid ((a7 (val a)).length≤1000000):=nt (b8 (en hx.lim)) ha;have HB:Hid ((a7 (val b)).length≤1000000):=nt (b8 (en hy.lim)) hb;clear hx hy ha hb;go_enter Tryz.func270,Tryz.ntmps270;go_wp2_with fail;refine cm1 H1 fun u w1 HU G1=>?_
 have HG1:=I G1;have H2:=I (bx w1 y b (HY.gr G1));clear H1 HY;go_wp2_with fail;refine cm1 H2 fun v w2 HV G2=>?_
 have HG2:=I (HG1.trans G2);have HU2:=I (HU.gr G2);clear HG1 HU H2;obtain⟨A,n,c⟩:=u;obtain⟨B,m,d⟩:=v;have HN:=I HU2.len;have HM:=I HV.len;have VA:=I (vl (val a));have VB:=I (vl (val b));have ZA:Hid (n=0→val a=0):=fun h=>bw.1 (HN.trans h)
 have ZB:Hid (m=0→val b=0):=fun h=>bw.1 (HM.trans h)
 simp only[Sv.v] at*;have hn9:n≤1000000:=by rw[← HN.out];exact HA.out
 have hm9:m≤1000000:=by rw[← HM.out];exact HB.out
 by_cases hz:n=0∨m=0
 ·have HZ:Hid (a7 (val a*val b)=[]):=by
   rcases hz with h | h
   ·rw[ZA.out h,Nat.zero_mul];exact al
   ·rw[ZB.out h,Nat.mul_zero];exact al
  by_cases h:n=0
  ·have h1:((n:Int) == 0)=true:=by simp[h]
   clear hz;go_wp2;go_ret;exact⟨Sv.none,rfl,by rw[HZ.out];exact Sv.Num.none _,HG2.out⟩
  ·have h1:((n:Int) == 0)=false:=by simp[h]
   have h2:((m:Int) == 0)=true:=by rcases hz with h9 | h9;exact absurd h9 h;simp[h9]
   clear hz;go_wp2;go_ret;exact⟨Sv.none,rfl,by rw[HZ.out];exact Sv.Num.none _,HG2.out⟩
 have hn0:((n:Int) == 0)=false:=by simp;omega
 have hm0:((m:Int) == 0)=false:=by simp;omega
 clear hz;generalize a7 (val a)=la at*;generalize a7 (val b)=lb at*;have hmk:=a21 (n+m) om w2;rw[show (((n+m:Nat)):Int)=(n:Int)+m by omega] at hmk;have HR0:=I (Lb.made w2 (n+m));have HG4:Hid (Gr w (w2.alloc (.cells (Array.replicate (n+m) (.int .u32 0)) 200))):=HG2.alloc _;have HGs:Hid (Gr w2 (w2.alloc (.cells (Array.replicate (n+m) (.int .u32 0)) 200))):=(Gr.refl w2).alloc _;have HS0:=I (MulSt.start la lb);rw[HN.out,HM.out] at HS0;have hg0:Hid (w.heap.size≤w2.heap.size):=HG2.size;go_wp2;clear hmk;generalize hge:w2.heap.size=g at*;have HGE:=I hge;clear hge;go_loopw [31] (fun i wr=>∃(t:Nat) (o:List Nat),i=.int .i64 t∧t≤n∧Hid (MulSt la lb o t)∧Hid (Lb wr g o)∧Hid (Gr w wr)∧Hid (Gr w2 wr)) (fun i _=>n - (intOf i).toNat)
 case atStart=>exact⟨0,_,rfl,nq _,HS0,HR0,HG4,HGs⟩
 case round=>
  obtain⟨t,o,rfl,ht,hS,hR,hG,hGG⟩:=hrel;by_cases htn:t < n
  ·obtain⟨p,ad,hp,hp9,hAe,hbl,d1⟩:=(HU2.gr hGG).at (i:=t) htn;simp only at hAe;subst hAe;have HP:=I hp;have HI0:=I (hS.into p);have HP9:=I hp9;clear hp hp9 hbl hS;go_wp2;go_loopw [8,38] (fun s8 i wx=>∃(k cr:Nat) (o:List Nat),i=.int .i64 k∧s8=.int .u64 cr∧k≤m∧Hid (MulIn la lb o t p k cr)∧Hid (Lb wx g o)∧Hid (Gr w wx)∧Hid (Gr w2 wx)) (fun _ i _=>m - (intOf i).toNat)
   case atStart=>exact⟨0,0,_,rfl,rfl,nq _,HI0,hR,hG,hGG⟩
   case round=>
    obtain⟨k,cr,o2,rfl,rfl,hk,hS2,hR2,hG2,hGG2⟩:=hrel;have fz:=hR2.fz;have hcr:cr < 4294967296:=hS2.car;have hlen2:o2.length=n+m:=by rw[hS2.len,HN.out,HM.out]
    by_cases hkm:k < m
    ·obtain⟨q,ad2,hq,hq9,hBe,hbl2,d2⟩:=(HV.gr hGG2).at (i:=k) hkm;simp only at hBe;subst hBe;obtain⟨z,hz⟩:∃z,o2[t+k]?=some z:=⟨_,ge om⟩;have q0:=hR2.cell hz;obtain⟨s,hs⟩:∃s,s=cr+(p*q+z):=⟨_,rfl⟩;have HST:=I (hS2.step (by rw[HN.out];exact htn) HP9 HV.lim hq hz hs);have HX:=I (a5r HP9 hq9 (hS2.lim.at hz) hcr hs);obtain⟨lo,hlo⟩:∃lo,lo=s % B32:=⟨_,rfl⟩;obtain⟨hi,hhi⟩:∃hi,hi=s / B32:=⟨_,rfl⟩;rw[← hlo,← hhi] at HST;have E1:Hid ((s:Int) % 4294967296=lo):=by rw[ba] at hlo;exact (by omega:(s:Int) % 4294967296=lo)
     have E2:Hid ((s:Int) / 4294967296=hi):=by rw[ba] at hhi;exact (by omega:(s:Int) / 4294967296=hi)
     have HL2:=I (hR2.put (t+k) lo);have HG5:=I (hG2.set (p:=⟨g,t+k,none⟩) hg0 (lv lo));have HG6:=I (hGG2.set (p:=⟨g,t+k,none⟩) (by rw[HGE.out];exact nr _) (lv lo));clear hq hq9 hbl2 hlo hhi hs hz;go_wp2;go_roundw
     case rel=>
      rw[HX.out,E1.out,E2.out];exact⟨k+1,hi,_,by go_num,rfl,by omega,HST,HL2,HG5,HG6⟩
     case measure=>simp[intOf];omega
    ·obtain rfl:k=m:=by omega
     obtain⟨z,hz⟩:∃z,o2[t+k]?=some z:=⟨_,ge om⟩;have q0:=hR2.cell hz;have HS5:Hid (MulSt la lb (o2.set (t+k) cr) (t+1)):=by
      have h:=hS2.out;rw[← HM.out] at h ⊢;exact h.done HP
     have HL2:=I (hR2.put (t+k) cr);have HG5:=I (hG2.set (p:=⟨g,t+k,none⟩) hg0 (lv cr));have HG6:=I (hGG2.set (p:=⟨g,t+k,none⟩) (by rw[HGE.out];exact nr _) (lv cr));have HCR:Hid ((cr:Int) % 4294967296=cr):=(by omega:(cr:Int) % 4294967296=cr);clear hz;go_wp2;go_roundw
     case rel=>
      try rw[HCR.out]
      exact⟨t+1,_,by go_num,by omega,HS5,HL2,HG5,HG6⟩
     case measure=>simp[intOf];omega
  ·obtain rfl:t=n:=by omega
   have e1:val o=val la*val lb:=by
    have h:=hS.out;rw[← HN.out] at h;exact h.done
   have hlen:o.length=t+m:=by rw[hS.len,HN.out,HM.out]
   have HT:=I (bx wr ⟨some ⟨g,0,none⟩,t+m,t+m⟩ o (by have:=hR.num hS.lim om;rw[hlen] at this;exact this));rw[e1,VA.out,VB.out] at HT;clear e1 hlen;go_wp2_with fail;refine cm1 HT fun z w5 HZ G5=>?_
   have HG6:=I (hG.trans G5);clear HT;go_wp2;go_ret;exact⟨z,rfl,HZ.out,HG6.out⟩
end
end Go.Proofs.YtbhbainhmfjpdaaGreatDoor
