/- Walks of the search and of what it calls, part 6. -/
import Derived.Test.YtbhbainhmfjpdaaGreatDoorMe
import Derived.Lib.SliceRun
import Derived.WalkSpells
import Derived.WalkLawsBesides
import Derived.Outline
import Derived.Deep.QuietTactic
import Derived.BigQuiet
import Derived.LaidEql
import Derived.Handy
import Derived.IntWalk
import Derived.BigRegion
import Derived.Laws.BitsAllLaws
set_option linter.unusedVariables false
set_option linter.unusedSimpArgs false
set_option maxRecDepth 100000
set_option maxHeartbeats 8000000
namespace Go.Proofs.YtbhbainhmfjpdaaGreatDoor
open Go.RowKit
theorem za {P:Program} {o:Oper} {a:Act} {W:World} {K K':Value→World→Prop} (h:∀v w,K v w→K' v w) (hd:eh P o a W K):eh P o a W K':=by
 unfold eh at hd ⊢;split at hd<;>first
  | exact h _ _ hd
  | exact hd
  | exact hd.mono fun e w' ⟨v,e1,e2⟩=>⟨v,e1,h _ _ e2⟩
def afj (st:St) (s:SV):Option SV:=match s.ids with
 | []=>(match coSV st s with
  | some p=>some (.pv p)
  | none=>none)
 | _=>some s
def nv (st:St):List SV→Option (List SV)
 | []=>some []
 | s::ss=>match afj st s,nv st ss with
  | some a,some qs=>some (a::qs)
  | _,_=>none
section
variable {C:Cx} {st:St} {a:Act} {w:World} {B:Nat→Nat} {T:Nat→Sv}
theorem acd (h:InvB C st a w B T) {s p:SV} {v:Value} (hc:afj st s=some p) (hr:s.Rep w (Own0 C st B T) B T v) (hl:∀i∈s.ids,(st.res i).isSome=true):p.Rep w (Own0 C st B T) B T v∧∀i∈p.ids,i∈s.ids:=by
 unfold afj at hc;split at hc
 ·rename_i hids
  split at hc
  ·rename_i q hq
   injection hc with hc;subst hc;refine⟨?_,fun i hi=>by cases (show i∈([]:List Nat) from hi)⟩;rw[SV.Rep];exact Co.rep h (lc hq) hr fun b hb=>⟨hb,fun ⟨i,hi,_⟩=>by rw[hids] at hi;cases hi⟩
  ·cases hc
 ·injection hc with hc;subst hc;exact⟨hr,fun i hi=>hi⟩
theorem uj (h:InvB C st a w B T):∀{ss ps:List SV} {us:List Value},nv st ss=some ps→SV.RepL w (Own0 C st B T) B T ss us→(∀i∈SV.idsL ss,(st.res i).isSome=true)→SV.RepL w (Own0 C st B T) B T ps us
 | [],ps,us,hc,hr,_=>by rw[nv] at hc;injection hc with hc;subst hc;exact hr
 | s::ss,ps,us,hc,hr,hl=>by
  rw[nv] at hc;split at hc
  ·rename_i p ps' h1 h2
   injection hc with hc;subst hc;rw[SV.RepL] at hr;obtain⟨u,us',rfl,h3,h4⟩:=hr;rw[SV.idsL] at hl;exact SV.RepL.cons (acd h h1 h3 fun i hi=>hl i (List.mem_append_left _ hi)).1 (uj h h2 h4 fun i hi=>hl i (List.mem_append_right _ hi))
  ·cases hc
end
def mB (st:St) (dst:Option Nat) (args:List SV) (sl:List (Nat×SV)) (keep rs rs':List (Nat×Res)) (Tg T:List Nat):Bool:=
 (rs.all fun p=>a3p rs p.2.ids)&&a3p rs (SV.idsL args)&&acf dst sl keep rs rs' st.tys&&(Tg.all (fun t=>T.contains t)&&Tg.all (fun t=>!st.tys.contains t))
section
variable {T:List Nat} {Z:Nat} {D:Dom Tryz.prog T Z} {N:Nat} {st:St} {Q:Exit→St→Prop} {ops:List Oper} {draw:Bool} {acc:List Itm}
theorem rm0 {k:Nat} {c:Call} {f:FuncId} {ss args:List SV} {rs rs':List (Nat×Res)} {res:PV} {Tg:List Nat} {dst:Option Nat} {ty:TypeId} {pos:String} {af:Array Edge} {gd:Option (Nat×Bool)} (sl:List (Nat×SV)) (keep:List (Nat×Res)) (hG:LaidG D.w0∧¬D.M 0) (hp:MCalls Tryz.prog Tg f args rs rs' res) (hk:nthL ops k=some ⟨dst,.call c,ty,pos,af,gd⟩) (hw:ed ops.toArray ⟨dst,.call c,ty,pos,af,gd⟩ st=some true) (hd:dstB ⟨dst,.call c,ty,pos,af,gd⟩ N Z=true) (hc:c.callee=.value (.func f)) (ha:evL st c.args.toList=some ss) (hco:nv st ss=some args) (hrs:AllL st.res rs) (hsl:AllL st.slot sl) (hkeep:AllL st.res keep) (hB:mB st dst args sl keep rs rs' Tg T=true) (hch:(!draw||(ki ops.toArray (br ops.toArray)&&kj (br ops.toArray) acc))=true) (hl:(!draw||a8g (br ops.toArray) k acc)=true) (q:Q .normal (St.of sl (keep++rs') st.tys)):Reg (D.cx N) ops draw Q acc [k] st:=by
 simp only[mB,be] at hB;obtain⟨⟨⟨h1,h2⟩,h3⟩,h4,h5⟩:=hB;refine a0s hch hl ⟨_,rt hk,hw,fun a w ht hi=>?_⟩;have:=ah8 (C:=D.cx N) (o:=⟨dst,.call c,ty,pos,af,gd⟩) (sl:=sl) (keep:=keep) (a:=a) (w:=w) hG.1 hG.2 hp rfl (fun us hus=>⟨[],?_,fun B T hi=>?_⟩) hrs hsl hkeep h1 h3 h4 h5 (qm hd) ht hi
 ·exact za (fun v w' ⟨h6,h7⟩=>⟨_,q,h6,h7⟩) this
 ·subst hus;rw[List.append_nil];simp only[execOp,resolve,hc,Sem.run_bind];have hf:a.eval (.func f)=.func (.func f) #[] #[]:=rfl;rw[hf];simp only[Deferred.ofValue];simp[invoke,kg hp.1];rw[← Array.toList_map,Array.toArray_toList]
 ·subst hus;obtain⟨g1,g2⟩:=me hi ha;rw[List.append_nil];exact⟨uj hi hco g1 g2,fun i hi=>List.all_eq_true.1 h2 i hi⟩
theorem rmv0 {k:Nat} {c:Call} {f:FuncId} {x:Operand} {ss args caps:List SV} {rs rs':List (Nat×Res)} {res:PV} {Tg:List Nat} {dst:Option Nat} {ty:TypeId} {pos:String} {af:Array Edge} {gd:Option (Nat×Bool)} (sl:List (Nat×SV)) (keep:List (Nat×Res)) (hG:LaidG D.w0∧¬D.M 0) (hp:MCalls Tryz.prog Tg f (args++caps) rs rs' res) (hk:nthL ops k=some ⟨dst,.call c,ty,pos,af,gd⟩) (hw:ed ops.toArray ⟨dst,.call c,ty,pos,af,gd⟩ st=some true) (hd:dstB ⟨dst,.call c,ty,pos,af,gd⟩ N Z=true) (hc:c.callee=.value x) (hx:ev st x=some (.fn f caps)) (ha:evL st c.args.toList=some ss) (hco:nv st ss=some args) (hrs:AllL st.res rs) (hsl:AllL st.slot sl) (hkeep:AllL st.res keep) (hB:mB st dst (args++caps) sl keep rs rs' Tg T=true) (hch:(!draw||(ki ops.toArray (br ops.toArray)&&kj (br ops.toArray) acc))=true) (hl:(!draw||a8g (br ops.toArray) k acc)=true) (q:Q .normal (St.of sl (keep++rs') st.tys)):Reg (D.cx N) ops draw Q acc [k] st:=by
 simp only[mB,be] at hB;obtain⟨⟨⟨h1,h2⟩,h3⟩,h4,h5⟩:=hB;refine a0s hch hl ⟨_,rt hk,hw,fun a w ht hi=>?_⟩;obtain⟨us2,hf⟩:∃us2:List Value,a.eval x=.func (.func f) #[] us2.toArray:=by
  obtain⟨B,T,hi⟩:=hi;have:=(bg hi hx).1;rw[SV.Rep] at this;obtain⟨us2,h6,_⟩:=this;exact⟨us2,h6⟩
 have:=ah8 (C:=D.cx N) (o:=⟨dst,.call c,ty,pos,af,gd⟩) (sl:=sl) (keep:=keep) (a:=a) (w:=w) hG.1 hG.2 hp rfl (fun us hus=>⟨us2,?_,fun B T hi=>?_⟩) hrs hsl hkeep h1 h3 h4 h5 (qm hd) ht hi
 ·exact za (fun v w' ⟨h6,h7⟩=>⟨_,q,h6,h7⟩) this
 ·subst hus;simp only[execOp,resolve,hc,Sem.run_bind];rw[hf];simp only[Deferred.ofValue];simp[invoke,kg hp.1]
 ·subst hus;obtain⟨g1,g2⟩:=me hi ha;have g3:=(bg hi hx).1;rw[SV.Rep,hf] at g3;obtain⟨us3,g4,g5⟩:=g3;have:us2=us3:=by injection g4 with _ _ g4;simpa using g4
  subst this;exact⟨(uj hi hco g1 g2).append g5,fun i hi=>List.all_eq_true.1 h2 i hi⟩
theorem rcn0 {k:Nat} {ks:List Nat} {c:Call} {f:FuncId} {ss:List SV} {ps:List PV} {e kk:Nat} {ts:List Nat} {xs:List (List PV)} {Tg:List Nat} {dst:Option Nat} {ty:TypeId} {pos:String} {af:Array Edge} {gd:Option (Nat×Bool)} (id:Nat) (hp:NCalls Tryz.prog Tg f ps e kk ts xs) (hk:nthL ops k=some ⟨dst,.call c,ty,pos,af,gd⟩) (hw:ed ops.toArray ⟨dst,.call c,ty,pos,af,gd⟩ st=some true) (hd:dstB ⟨dst,.call c,ty,pos,af,gd⟩ N Z=true) (hc:c.callee=.value (.func f)) (ha:evL st c.args.toList=some ss) (hco:mm st ss=some ps) (hr:st.res id=none) (hT:((SV.idsL ss).isEmpty&&st.tys.contains e&&(Tg.all (fun t=>T.contains t)&&Tg.all (fun t=>!st.tys.contains t)))=true) (next:Reg (D.cx N) ops draw Q (acc++[⟨k,true,⟨.tok id,some (id,.tok e kk ts xs),[id],true⟩,lkOf ops k st (⟨.tok id,some (id,.tok e kk ts xs),[id],true⟩:Eff)⟩]) ks ((⟨.tok id,some (id,.tok e kk ts xs),[id],true⟩:Eff).app dst st)):Reg (D.cx N) ops draw Q acc (k::ks) st:=by
 simp only[be] at hT;exact fe hk hw hd (fun hd=>aay (C:=D.cx N) hp rfl hc ha hco hT.1.1 hr hT.1.2 hT.2.1 hT.2.2 hd) next
theorem rmk0 {k:Nat} {ks:List Nat} {dst:Option Nat} {t n:Nat} {x y:Operand} {ty:TypeId} {ps:String} {af:Array Edge} {gd:Option (Nat×Bool)} {l le:Lay} {kd kc:IntKind} {zm zc:Int} (id:Nat) (hn:n*l.esz≤1000000) (hi:∃i z,(Tryz.prog).info? l.elem=some i∧i.zero=some z∧i.size=l.esz∧i.bytes≤1000) (hk:nthL ops k=some ⟨dst,.makeSlice t x y,ty,ps,af,gd⟩) (hw:ed ops.toArray ⟨dst,.makeSlice t x y,ty,ps,af,gd⟩ st=some true) (hd:dstB ⟨dst,.makeSlice t x y,ty,ps,af,gd⟩ N Z=true) (hl:tab.get t=some l) (hle:tab.get l.elem=some le) (hx:ev st x=some (.pv (.raw (.int kd zm)))) (hy:ev st y=some (.pv (.raw (.int kc zc)))) (hzm:zm=(n:Int)) (hzc:zc=(n:Int)) (hre:st.res id=none) (hc:(Nat.blt 0 l.esz&&Nat.beq le.zero.length l.esz&&a5t l.esz l.ets [le.zero.map Zk.pv]&&st.tys.contains l.elem)=true)
  (next:Reg (D.cx N) ops draw Q (acc++[⟨k,true,⟨.tok id,some (id,.tok l.elem l.esz l.ets (List.replicate n (le.zero.map Zk.pv))),[id],true⟩,lkOf ops k st (⟨.tok id,some (id,.tok l.elem l.esz l.ets (List.replicate n (le.zero.map Zk.pv))),[id],true⟩:Eff)⟩]) ks ((⟨.tok id,some (id,.tok l.elem l.esz l.ets (List.replicate n (le.zero.map Zk.pv))),[id],true⟩:Eff).app dst st)):Reg (D.cx N) ops draw Q acc (k::ks) st:=by
 simp only[be] at hc;exact fe hk hw hd (fun hd=>aep (C:=D.cx N) al rfl hl hc.1.1.1 hle hc.1.1.2 hi hx hy hzm hzc hn hre (n6 hc.1.2) hc.2 hd) next
theorem aeu {C:Cx} {o:Oper} {st:St} {t id:Nat} {x:Operand} {s:SV} {cs:List SV} (hF:¬C.F id) (ho:o.op=.box t x) (hx:ev st x=some s) (hcl:s.cl=some cs) (hres:st.res id=none) (ht:st.tys.contains t=true) (hd:∀d,o.dst=some d→C.dk d):OpE C st.tys o st ⟨.box id 0,some (id,.box t cs),id::SV.idsL cs,false⟩:=by
 refine⟨fun i r e=>by injection e with e;injection e with e1 e2;subst e1 e2;exact⟨mf ..,List.contains_iff_mem.1 ht⟩,fun st1 h1 h2 _ a w ⟨B,T,hi⟩=>?_⟩;rw[← h2 id (mf ..)] at hres;rw[← Agree.ev ⟨h1,h2⟩ (by rw[ho];simp[Op.operands])] at hx;obtain⟨h3,h4⟩:=bg hi hx;obtain⟨us,h5,h6,h7,_⟩:=a3z h3 hcl;have run:(execOp a.eval o).run C.P w=.ok (.value (.pointer (some ⟨w.heap.size,0,none⟩))) (w.alloc (.cells us.toArray t)):=by
  simp[execOp,ho,Instr.box,newVar,newRow,h5]
 exact cj run (a1l hi hres hF h6 (fun i hi2=>h4 i (h7 i hi2)) hd)
theorem a89 {C:Cx} {o:Oper} {st:St} {tab:Tab} (hT:iv C.P tab) {t id:Nat} {l:Lay} (hF:¬C.F id) (ho:o.op=.alloc t) (hl:tab.get t=some l) (hres:st.res id=none) (ht:st.tys.contains t=true) (hd:∀d,o.dst=some d→C.dk d):OpE C st.tys o st ⟨.box id 0,some (id,.box t (l.zero.map Zk.sv)),[id],false⟩:=by
 have lk:=Tab.get_ok hT hl;refine⟨fun i r e=>by injection e with e;injection e with e1 e2;subst e1 e2;exact⟨mf ..,List.contains_iff_mem.1 ht⟩,fun st1 h1 h2 _ a w ⟨B,T,hi⟩=>?_⟩;rw[← h2 id (mf ..)] at hres;have hz:∃z:Value,(C.P.info? t).bind (·.zero)=some z∧z.cells=(l.zero.map Zk.val).toArray:=by
  refine⟨_,lk.zero,?_⟩;cases hag:l.agg with
  | true=>rfl
  | false=>
   have:=lk.one hag;obtain⟨z,hz⟩:=List.length_eq_one_iff.1 this;rw[hz];exact ln (lk.cel z (by rw[hz];exact List.mem_singleton.2 rfl))
 obtain⟨z,hz1,hz2⟩:=hz;have run:(execOp a.eval o).run C.P w=.ok (.value (.pointer (some ⟨w.heap.size,0,none⟩))) (w.alloc (.cells (l.zero.map Zk.val).toArray t)):=by
  simp[execOp,ho,Instr.alloc,a7l hz1,newVar,newRow,hz2]
 exact cj run (a1l (id:=id) (ty:=t) (rb:=[id]) hi hres hF a59 (fun i hi=>(a5a hi).elim) hd)
theorem rbx0 {k:Nat} {ks:List Nat} {dst:Option Nat} {t:Nat} {x:Operand} {ty:TypeId} {ps:String} {af:Array Edge} {gd:Option (Nat×Bool)} {s:SV} {cs:List SV} (id:Nat) (hF:∀i,¬D.F i) (hk:nthL ops k=some ⟨dst,.box t x,ty,ps,af,gd⟩) (hw:ed ops.toArray ⟨dst,.box t x,ty,ps,af,gd⟩ st=some true) (hd:dstB ⟨dst,.box t x,ty,ps,af,gd⟩ N Z=true) (hx:ev st x=some s) (hcl:s.cl=some cs) (hre:st.res id=none) (ht:st.tys.contains t=true)
  (next:Reg (D.cx N) ops draw Q (acc++[⟨k,true,⟨.box id 0,some (id,.box t cs),id::SV.idsL cs,false⟩,lkOf ops k st (⟨.box id 0,some (id,.box t cs),id::SV.idsL cs,false⟩:Eff)⟩]) ks ((⟨.box id 0,some (id,.box t cs),id::SV.idsL cs,false⟩:Eff).app dst st)):Reg (D.cx N) ops draw Q acc (k::ks) st:=
 fe hk hw hd (fun hd=>aeu (C:=D.cx N) (fun h=>hF id h.1) rfl hx hcl hre ht hd) next
theorem ral0 {k:Nat} {ks:List Nat} {dst:Option Nat} {t:Nat} {ty:TypeId} {ps:String} {af:Array Edge} {gd:Option (Nat×Bool)} {l:Lay} (id:Nat) (hF:∀i,¬D.F i) (hk:nthL ops k=some ⟨dst,.alloc t,ty,ps,af,gd⟩) (hw:ed ops.toArray ⟨dst,.alloc t,ty,ps,af,gd⟩ st=some true) (hd:dstB ⟨dst,.alloc t,ty,ps,af,gd⟩ N Z=true) (hl:tab.get t=some l) (hre:st.res id=none) (ht:st.tys.contains t=true)
  (next:Reg (D.cx N) ops draw Q (acc++[⟨k,true,⟨.box id 0,some (id,.box t (l.zero.map Zk.sv)),[id],false⟩,lkOf ops k st (⟨.box id 0,some (id,.box t (l.zero.map Zk.sv)),[id],false⟩:Eff)⟩]) ks ((⟨.box id 0,some (id,.box t (l.zero.map Zk.sv)),[id],false⟩:Eff).app dst st)):Reg (D.cx N) ops draw Q acc (k::ks) st:=
 fe hk hw hd (fun hd=>a89 (C:=D.cx N) al (fun h=>hF id h.1) rfl hl hre ht hd) next
theorem rcg0 {k:Nat} {ks:List Nat} {c:Call} {f:FuncId} {ss:List SV} {ps:List PV} {res:PV} {Tg:List Nat} {dst:Option Nat} {ty:TypeId} {pos:String} {af:Array Edge} {gd:Option (Nat×Bool)} (hG:LaidG D.w0∧¬D.M 0) (hp:PCallsG Tryz.prog Tg f ps res) (hk:nthL ops k=some ⟨dst,.call c,ty,pos,af,gd⟩) (hw:ed ops.toArray ⟨dst,.call c,ty,pos,af,gd⟩ st=some true) (hd:dstB ⟨dst,.call c,ty,pos,af,gd⟩ N Z=true) (hc:c.callee=.value (.func f)) (ha:evL st c.args.toList=some ss) (hco:mm st ss=some ps) (hT:(Tg.all (fun t=>T.contains t)&&(Tg.all (fun t=>!st.tys.contains t)&&ve st (SV.idsL ss) res.ty))=true) (next:Reg (D.cx N) ops draw Q (acc++[⟨k,true,valE (.pv res) (SV.idsL ss),lkOf ops k st (valE (.pv res) (SV.idsL ss))⟩]) ks ((valE (.pv res) (SV.idsL ss)).app dst st)):Reg (D.cx N) ops draw Q acc (k::ks) st:=by
 simp only[be] at hT;exact fe hk hw hd (fun hd=>yd (C:=D.cx N) rfl hc ha (ir hco) ⟨hp.1,fun w B g X us=>hp.2 w X us (LaidG.cx (C:=D.cx N) hG.1 hG.2 g)⟩ hT.1 hT.2.1 hT.2.2 hd) next
theorem rz0 {k:Nat} {dst:Option Nat} {t t2:Nat} {x:Operand} {d:Nat} {ty:TypeId} {pos:String} {af:Array Edge} {gd:Option (Nat×Bool)} {e kk:Nat} {ts:List Nat} {xs:List (List PV)} (hdst:dst=some d) (hk:nthL ops k=some ⟨dst,.binOp .eql t x (.const (.slice none 0 0)) t2,ty,pos,af,gd⟩) (hw:ed ops.toArray ⟨dst,.binOp .eql t x (.const (.slice none 0 0)) t2,ty,pos,af,gd⟩ st=some true) (hd:dstB ⟨dst,.binOp .eql t x (.const (.slice none 0 0)) t2,ty,pos,af,gd⟩ N Z=true) (hx:ev st x=some (.pv (.rows e kk ts xs))) (hu:∃e,(Tryz.prog).underlying t=some (.slice e)) (hch:(!draw||(ki ops.toArray (br ops.toArray)&&kj (br ops.toArray) acc))=true) (hl:(!draw||a8g (br ops.toArray) k acc)=true) (q1:xs=[]→Q .normal ((valE (.pv (.raw (.bool true))) []).app dst st)) (q2:Q .normal ((valE (.pv (.raw (.bool false))) []).app dst st)):Reg (D.cx N) ops draw Q acc [k] st:=by
 refine a0s hch hl ⟨_,rt hk,hw,fun a w ht hi=>?_⟩;obtain⟨B,T,hi⟩:=hi;have x1:=(bg hi hx).1;rw[SV.Rep,PV.Rep] at x1;obtain⟨v,us,hv,hn,his,hty,hav,hrep,hok⟩:=x1;obtain⟨el,hu⟩:=hu;have hev:a.eval (.const (.slice none 0 0))=.slice none 0 0:=rfl;have app:∀b:Bool,i8 ((valE (.pv (.raw (.bool b))) []).app dst st) ((valE (.pv (.raw (.bool b))) []).app dst st).tys∧Inv (D.cx N) ((valE (.pv (.raw (.bool b))) []).app dst st) (a.put dst (.bool b)) w:=fun b=>⟨mr ht fun i r e=>(by cases e),qi hi (Gr.refl w) (by rw[SV.Rep,PV.Rep]) (fun i hi=>by cases (show i∈([]:List Nat) from hi)) (qm hd)⟩
 cases hA:v.A with
 | none=>
  have run:(execOp a.eval ⟨dst,.binOp .eql t x (.const (.slice none 0 0)) t2,ty,pos,af,gd⟩).run (D.cx N).P w=.ok (.value (.bool true)) w:=by
   simp only[execOp,hv,hev,Sem.run_bind,Lib.run_eql_slice_nil (P:=(D.cx N).P) w t el v.A v.n v.c 0 0 hu,hA];simp[eqGuard];rw[show (v.v:Value)=.slice v.A v.n v.c from rfl,Lib.run_eql_slice_nil (P:=Tryz.prog) w t el v.A v.n v.c 0 0 hu,hA];rfl
  refine cj run ⟨_,q1 ?_,app true⟩;have h1:=(his.mk0 hA).1;rw[h1] at hn;exact List.length_eq_zero_iff.1 hn.symm
 | some ad=>
  have run:(execOp a.eval ⟨dst,.binOp .eql t x (.const (.slice none 0 0)) t2,ty,pos,af,gd⟩).run (D.cx N).P w=.ok (.value (.bool false)) w:=by
   simp only[execOp,hv,hev,Sem.run_bind,Lib.run_eql_slice_nil (P:=(D.cx N).P) w t el v.A v.n v.c 0 0 hu,hA];simp[eqGuard];rw[show (v.v:Value)=.slice v.A v.n v.c from rfl,Lib.run_eql_slice_nil (P:=Tryz.prog) w t el v.A v.n v.c 0 0 hu,hA];rfl
  exact cj run ⟨_,q2,app false⟩
theorem pcm {f:FuncId} {args:List SV} {rs rs':List (Nat×Res)} {res:PV} {fn:Func} {c:Code} (tys:List Nat) (hcall:gg Tryz.prog f=true) (hf:(Tryz.prog).funcs[f]?=some fn) (hb:fn.body=some c) (hn:(Nat.ble args.length fn.ntmps&&mcB rs rs' tys fn.ntmps)=true) (h:∀D:Dom Tryz.prog T 0,LaidG D.w0∧¬D.M 0→W D fn.ntmps c (St.initM args rs tys) (RetM Tryz.prog tab fn res rs')):MCalls Tryz.prog T f args rs rs' res:=by
 rw[be] at hn;exact MCalls.of tys al a3b hcall hf hb hn.1 hn.2 fun D h1 h2=>h D ⟨h1,h2⟩
theorem pcn {f:FuncId} {args:List PV} {e k:Nat} {ts:List Nat} {xs:List (List PV)} {fn:Func} {c:Code} (tys:List Nat) (hcall:gg Tryz.prog f=true) (hf:(Tryz.prog).funcs[f]?=some fn) (hb:fn.body=some c) (hn:Nat.ble args.length fn.ntmps=true) (h:∀D:Dom Tryz.prog T 0,W D fn.ntmps c (St.init args tys) (RetN fn e k ts xs)):NCalls Tryz.prog T f args e k ts xs:=NCalls.of tys a3b hcall hf hb hn fun D _=>h D
theorem retm {P:Program} {tab:Tab} {fn:Func} {p res:PV} {rs':List (Nat×Res)} (h:retE tab st fn.results.toList=some p) (e:p=res) (h2:AllL st.res rs'):RetM P tab fn res rs' .ret st:=⟨a5v h e,h2⟩
theorem a7t {P:Program} {tab:Tab} {fn:Func} {p res:PV} {rs':List (Nat×Res)} (h:retE tab st fn.results.toList=some p) (e:p=res) (h2:AllL st.res rs'):RetM P tab fn res rs' .normal st:=⟨a5v h e,h2⟩
theorem retn {fn:Func} {t i e k:Nat} {ts:List Nat} {xs ys:List (List PV)} (h:fn.results.toList=[.tmp t]) (hk:Nat.blt 0 k=true) (h1:st.slot t=some (.tok i)) (h2:st.res i=some (.tok e k ts ys)) (e0:ys=xs):RetN fn e k ts xs .ret st:=⟨t,h,Nat.le_of_ble_eq_true hk,.inl ⟨i,h1,by rw[h2,e0]⟩⟩
theorem akk {fn:Func} {t e k:Nat} {ts:List Nat} {xs:List (List PV)} {s:SV} (h:fn.results.toList=[.tmp t]) (hk:Nat.blt 0 k=true) (h1:st.slot t=some s) (h2:s.nul=true) (e0:xs=[]):RetN fn e k ts xs .ret st:=⟨t,h,Nat.le_of_ble_eq_true hk,.inr ⟨s,h1,h2,e0⟩⟩
end
theorem PCalls.ofF {P:Program} {tab:Tab} {T:List Nat} {f:FuncId} {args:List PV} {res:PV} {fn:Func} {c:Code} (tys:List Nat) (hT:iv P tab) (hm:P.follows .mixedOrders=true) (hcall:gg P f=true) (hf:P.funcs[f]?=some fn) (hb:fn.body=some c) (hn:Nat.ble args.length fn.ntmps=true) (h:∀D:Dom P T 0,(∀i,¬D.F i)→LaidG D.w0∧¬D.M 0→PW (D.cx fn.ntmps) c (St.init args tys) (RetQ P tab fn res)):PCallsG P T f args res:=by
 refine⟨hcall,fun w X us hG hX hXT hr=>?_⟩;have hn:=Nat.le_of_ble_eq_true hn
 let D:Dom P T 0:=⟨w,X,hX,hm,hXT,fun _=>False,(fun _ _ h=>h),fun _=>False,fun _=>0,fun _=>undef⟩
 refine calls_of_wp hf hb ?_;have hlen:=hr.len;have hinv:Inv (D.cx fn.ntmps) (St.init args tys) { tmps:=us.toArray++Array.replicate (fn.ntmps - us.toArray.size) undef,defers:=[] } w:=by
  refine⟨fun _=>0,fun _=>Sv.none,⟨⟨by simp;omega,fun t h=>absurd h (Nat.not_lt_zero t)⟩,rfl,⟨Fr.refl _ w,fun i h=>h.1.elim⟩,fun t s e=>?_,fun t s e i hi=>?_,(fun i r e=>by cases e),(fun i r e=>by cases e),fun i r j q b e=>by cases e⟩⟩
  ·simp only[St.init] at e;obtain⟨p,hp,rfl⟩:=Option.map_eq_some_iff.1 e;obtain⟨u,hu,hpr⟩:=hr.at hp;rw[SV.Rep];have hut:(us.toArray++Array.replicate (fn.ntmps - us.toArray.size) undef).getD t undef=u:=by
    have hlt:=(gs hu).1;rw[Array.getD_eq_getD_getElem?,Array.getElem?_append_left (by simpa using hlt)];simp[hu]
   rw[hut];exact hpr.still ⟨nr _,fun b cs t fr hx hh ht=>⟨rfl,fun hb=>by
    rcases hb with hb | ⟨i,r,hr,_⟩
    ·exact hx hb
    ·cases hr⟩⟩
  ·simp only[St.init] at e;obtain⟨p,hp,rfl⟩:=Option.map_eq_some_iff.1 e;cases (show i∈([]:List Nat) from hi)
 refine Code.wp_mono (fun e a w' hq=>?_) (h D (fun _ h=>h) ⟨hG,fun h=>h⟩ _ w (fun i r e=>by cases e) hinv);obtain⟨st,h1,_,h3⟩:=hq;cases e with
 | ret=>
  obtain⟨v,g1,g2⟩:=n7 (C:=D.cx fn.ntmps) hT h3 h1;obtain⟨B,T',h4⟩:=h3;exact bodyPost_ret g1 h4.dfr ⟨v,rfl,g2,Gr.of_fr h4.gr.fr⟩
 | normal=>
  obtain⟨v,g1,g2⟩:=n7 (C:=D.cx fn.ntmps) hT h3 h1;obtain⟨B,T',h4⟩:=h3;exact bodyPost_end g1 h4.dfr ⟨v,rfl,g2,Gr.of_fr h4.gr.fr⟩
 | _=>exact h1.elim
theorem pcF {T:List Nat} {f:FuncId} {args:List PV} {res:PV} {fn:Func} {c:Code} (tys:List Nat) (hcall:gg Tryz.prog f=true) (hf:(Tryz.prog).funcs[f]?=some fn) (hb:fn.body=some c) (hn:Nat.ble args.length fn.ntmps=true) (h:∀D:Dom Tryz.prog T 0,(∀i,¬D.F i)→LaidG D.w0∧¬D.M 0→W D fn.ntmps c (St.init args tys) (RetQ Tryz.prog tab fn res)):PCallsG Tryz.prog T f args res:=PCalls.ofF tys al a3b hcall hf hb hn h
theorem Res.In.move {lo:Nat→Prop} {w w':World} {X X':Nat→Prop} {B B':Nat→Nat} {T T':Nat→Sv} {i:Nat} {r:Res} (h:r.In lo w X B T i) (S:∀ts,Still w w' X X' ts) (hk:∀b,r.blk (B i) (T i)=some b→w'.heap[b]?=w.heap[b]?) (hi:B' i=B i∧T' i=T i) (hs:∀j∈r.ids,B' j=B j∧T' j=T j):r.In lo w' X' B' T' i:=by
 cases r with
 | box ty cells=>
  obtain⟨h1,us,h2,h3⟩:=h;exact⟨by rw[hi.1];exact h1,us,by rw[hi.1];exact Bk.keep h2 (hk _ rfl),h3.still (S _) hs⟩
 | tok e k ts xs=>
  obtain⟨us,h1,h2,h3,h4,h5,h6⟩:=h;exact⟨us,by rw[hi.2];exact pu h1 hk,PV.RepLL.still (ts:=ts) h2 (S _) fun r hr c hc=>((h3 r hr).2 c hc).2,h3,by rw[hi.2];exact h4,h5,by rw[hi.2];exact h6⟩
section
variable {C:Cx} {st:St} {a:Act} {w w':World} {B B':Nat→Nat} {T T':Nat→Sv}
theorem ajb (h:InvB C st a w B T) {dst:Option Nat} {id:Nat} {r':Res} {s:SV} {v:Value} {rb:List Nat} {kt:Bool} (hB:∀i,i≠id→B' i=B i∧T' i=T i) (hk:kt=false→B' id=B id∧T' id=T id) (hF:C.F id→B' id=B id)
  (F:Fr (fun b=>∃r,st.res id=some r∧r.blk (B id) (T id)=some b) w w') (hnew:∀b,r'.blk (B' id) (T' id)=some b→(∃r,st.res id=some r∧r.blk (B id) (T id)=some b)∨w.heap.size≤b)
  (hin:r'.In (fun _=>True) w' (fun b=>(Own0 C st B T b∧¬∃r,st.res id=some r∧r.blk (B id) (T id)=some b)∨r'.blk (B' id) (T' id)=some b) B' T' id) (hids:r'.ids=[]) (hs:s.Rep w' (fun b=>(Own0 C st B T b∧¬∃r,st.res id=some r∧r.blk (B id) (T id)=some b)∨r'.blk (B' id) (T' id)=some b) B' T' v) (hsi:∀i∈s.ids,i=id) (hd:∀d,dst=some d→C.dk d):
  Inv C (Eff.app ⟨s,some (id,r'),rb,kt⟩ dst st) (a.put dst v) w':=by
 have ownX:∀b,(∃r,st.res id=some r∧r.blk (B id) (T id)=some b)→Own0 C st B T b:=fun b ⟨r,h1,h2⟩=>.inr ⟨id,r,h1,h2⟩
 have olds:∀t s',(Eff.old ⟨s,some (id,r'),rb,kt⟩ st t)=some s'→∃s0,st.slot t=some s0∧(∀X w v,SV.Rep w X B T s0 v→SV.Rep w X B T s' v)∧∀i∈s'.ids,i∈s0.ids∧B' i=B i∧T' i=T i:=fun t s' e=>by
  cases kt with
  | false=>exact⟨s',e,fun _ _ _ h=>h,fun i hi=>⟨hi,by
    by_cases hid:i=id
    ·rw[hid];exact hk rfl
    ·exact hB i hid⟩⟩
  | true=>
   cases hh:st.slot t with
   | none=>rw[show Eff.old ⟨s,some (id,r'),rb,true⟩ st t=qe id (st.slot t) from rfl,hh] at e;cases e
   | some s0=>
    rw[show Eff.old ⟨s,some (id,r'),rb,true⟩ st t=qe id (st.slot t) from rfl,hh] at e;injection e with e;subst e;exact⟨s0,rfl,fun _ _ _ h=>a1g h,fun i hi=>⟨(sj i hi).1,hB i (sj i hi).2⟩⟩
 have hres:∀j r,(Eff.app ⟨s,some (id,r'),rb,kt⟩ dst st).res j=some r→(j=id∧r=r')∨(j≠id∧∃r0,st.res j=some r0∧(∀b x,r.blk b x=r0.blk b x)∧r.typ=r0.typ∧(∀lo w X,r0.In lo w X B T j→r.In lo w X B T j)∧∀i∈r.ids,i∈r0.ids∧B' i=B i∧T' i=T i):=fun j r e=>by
  simp only[Eff.app] at e;cases hb:Nat.beq j id with
  | true=>rw[hb] at e;injection e with e;exact .inl ⟨Nat.eq_of_beq_eq_true hb,e.symm⟩
  | false=>
   rw[hb] at e;refine .inr ⟨Nat.ne_of_beq_eq_false hb,?_⟩;cases kt with
   | false=>exact⟨r,e,fun _ _=>rfl,rfl,fun _ _ _ h=>h,fun i hi=>⟨hi,by
     by_cases hid:i=id
     ·rw[hid];exact hk rfl
     ·exact hB i hid⟩⟩
   | true=>
    cases hh:st.res j with
    | none=>rw[hh] at e;cases e
    | some r0=>
     rw[hh] at e;injection e with e;subst e;refine⟨r0,rfl,?_⟩;cases r0 with
     | box ty cs=>exact⟨fun _ _=>rfl,rfl,fun lo w X ⟨h1,us,h2,h3⟩=>⟨h1,us,h2,yx h3⟩,fun i hi=>⟨(np i hi).1,hB i (np i hi).2⟩⟩
     | tok e k ts xs=>exact⟨fun _ _=>rfl,rfl,fun _ _ _ h=>h,fun i hi=>by cases hi⟩
 have blks:∀b,(∃j r,(Eff.app ⟨s,some (id,r'),rb,kt⟩ dst st).res j=some r∧r.blk (B' j) (T' j)=some b)→(Own0 C st B T b∧¬∃r,st.res id=some r∧r.blk (B id) (T id)=some b)∨r'.blk (B' id) (T' id)=some b:=fun b ⟨j,r,e,hb⟩=>by
  rcases hres j r e with ⟨rfl,rfl⟩ | ⟨hj,r0,h1,h2,_⟩
  ·exact .inr hb
  ·rw[h2,(hB j hj).1,(hB j hj).2] at hb;exact .inl ⟨.inr ⟨j,r0,h1,hb⟩,fun ⟨q,k1,k2⟩=>hj (h.apart j r0 id q b h1 k1 hb k2)⟩
 have hX:∀b,Own0 C (Eff.app ⟨s,some (id,r'),rb,kt⟩ dst st) B' T' b→(Own0 C st B T b∧¬∃r,st.res id=some r∧r.blk (B id) (T id)=some b)∨r'.blk (B' id) (T' id)=some b:=fun b hb=>hb.elim (fun hb=>.inl ⟨.inl hb,fun ⟨q,k1,k2⟩=>((h.inn id q k1).lo k2).1.elim (fun g=>absurd (C.old b hb) (Nat.not_lt.2 g)) (C.hM b hb)⟩) (blks b)
 have old:∀j r b,st.res j=some r→r.blk (B j) (T j)=some b→b < w.heap.size:=fun j r b e hb=>((h.inn j r e).lo hb).2
 have S:∀ts,Still w w' (Own0 C st B T) (Own0 C (Eff.app ⟨s,some (id,r'),rb,kt⟩ dst st) B' T') ts:=fun ts=>by
  refine⟨F.size,fun b cs t fr hx hh ht=>?_⟩;have hlt:b < w.heap.size:=by
   rcases Nat.lt_or_ge b w.heap.size with h | h
   ·exact h
   ·rw[Array.getElem?_eq_none h] at hh;cases hh
  refine⟨F.keep b hlt fun e=>hx (ownX b e),fun hb=>?_⟩;rcases hX b hb with hb | hb
  ·exact hx hb.1
  ·rcases hnew b hb with h1 | h1
   ·exact hx (ownX b h1)
   ·omega
 have S':∀ts,Still w' w' (fun b=>(Own0 C st B T b∧¬∃r,st.res id=some r∧r.blk (B id) (T id)=some b)∨r'.blk (B' id) (T' id)=some b) (Own0 C (Eff.app ⟨s,some (id,r'),rb,kt⟩ dst st) B' T') ts:=fun ts=>⟨nr _,fun b cs t fr hx hh ht=>⟨rfl,fun hb=>hx (hX b hb)⟩⟩
 have alive':∀j,(st.res j).isSome=true→((Eff.app ⟨s,some (id,r'),rb,kt⟩ dst st).res j).isSome=true:=fun j hj=>by
  simp only[Eff.app];cases Nat.beq j id with
  | true=>rfl
  | false=>
   cases kt with
   | false=>exact hj
   | true=>
    cases hh:st.res j with
    | none=>rw[hh] at hj;cases hj
    | some r=>rfl
 have selfA:((Eff.app ⟨s,some (id,r'),rb,kt⟩ dst st).res id).isSome=true:=by simp only[Eff.app,Nat.beq_refl];rfl
 have hlo:∀b,r'.blk (B' id) (T' id)=some b→C.lo b:=fun b hb=>by
  rcases hnew b hb with ⟨r,h1,h2⟩ | h1
  ·exact ((h.inn id r h1).lo h2).1
  ·exact .inl (nt h.gr.size h1)
 have hfix:∀i,C.F i→B' i=C.B0 i:=fun i hi=>by
  by_cases e:i=id
  ·rw[e] at hi ⊢;exact (hF hi).trans (h.gr.fix _ hi)
  ·exact (hB i e).1.trans (h.gr.fix i hi)
 refine⟨B',T',put_ok h.size hd,put_dfr.trans h.dfr,⟨(h.gr.step F fun b _ ⟨r,h1,h2⟩=>((h.inn id r h1).lo h2).1).fr,hfix⟩,fun t s' e=>?_,fun t s' e=>?_,fun i r e=>?_,fun i r e j hj=>?_,fun i r j q b hi hj h1 h2=>?_⟩
 ·have hold:∀t s',(Eff.old ⟨s,some (id,r'),rb,kt⟩ st t)=some s'→SV.Rep w' (Own0 C (Eff.app ⟨s,some (id,r'),rb,kt⟩ dst st) B' T') B' T' s' (a.tmps.getD t undef):=fun t s' e=>by
   obtain⟨s0,h1,h2,h3⟩:=olds t s' e;exact (h2 _ _ _ (h.slot t s0 h1)).still (S _) fun i hi=>(h3 i hi).2
  cases dst with
  | none=>exact hold t s' e
  | some d=>
   simp only[Eff.app] at e;cases hb:Nat.beq t d with
   | true=>
    rw[hb] at e;obtain rfl:=Nat.eq_of_beq_eq_true hb;injection e with e;subst e;rw[jn (by rw[h.size.1];exact (hd _ rfl).1)];exact hs.still (S' _) fun _ _=>⟨rfl,rfl⟩
   | false=>
    rw[hb] at e;rw[j5 (Nat.ne_of_beq_eq_false hb)];exact hold t s' e
 ·have hold:∀t s',(Eff.old ⟨s,some (id,r'),rb,kt⟩ st t)=some s'→∀i∈s'.ids,((Eff.app ⟨s,some (id,r'),rb,kt⟩ dst st).res i).isSome=true:=fun t s' e i hi=>by
   obtain⟨s0,h1,h2,h3⟩:=olds t s' e;exact alive' i (h.live t s0 h1 i (h3 i hi).1)
  cases dst with
  | none=>exact hold t s' e
  | some d=>
   simp only[Eff.app] at e;cases hb:Nat.beq t d with
   | true=>
    rw[hb] at e;injection e with e;subst e;intro i hi;rw[hsi i hi];exact selfA
   | false=>rw[hb] at e;exact hold t s' e
 ·rcases hres i r e with ⟨rfl,rfl⟩ | ⟨hi,r0,h1,h2,h3,h4,h5⟩
  ·have:=hin.move S' (fun _ _=>rfl) ⟨rfl,rfl⟩ fun _ _=>⟨rfl,rfl⟩
   exact this.wide (fun b hb _=>hlo b hb) fun b hb=>hb
  ·refine (h4 _ _ _ (h.inn i r0 h1)).move S (fun b hb=>?_) (hB i hi) fun j hj=>(h5 j hj).2
   rw[h2] at hb;exact F.keep b (old i r0 b h1 hb) fun ⟨q,k1,k2⟩=>hi (h.apart i r0 id q b h1 k1 hb k2)
 ·rcases hres i r e with ⟨rfl,rfl⟩ | ⟨hi,r0,h1,h2,h3,h4,h5⟩
  ·rw[hids] at hj;cases hj
  ·exact alive' j (h.alive i r0 h1 j (h5 j hj).1)
 ·have cross:∀(i:Nat) (r:Res) (j:Nat) (q:Res),i=id→r=r'→r.blk (B' i) (T' i)=some b→(j≠id∧∃r0,st.res j=some r0∧(∀b x,q.blk b x=r0.blk b x)∧q.typ=r0.typ∧(∀lo w X,r0.In lo w X B T j→q.In lo w X B T j)∧∀i∈q.ids,i∈r0.ids∧B' i=B i∧T' i=T i)→q.blk (B' j) (T' j)=some b→False:=fun i r j q e1 e2 h1 ⟨nj,r0,g1,g2,_⟩ h2=>by
   subst e1 e2;rw[g2,(hB j nj).1,(hB j nj).2] at h2;rcases hnew b h1 with ⟨z,k1,k2⟩ | k1
   ·exact nj (h.apart j r0 i z b g1 k1 h2 k2)
   ·have:=old j r0 b g1 h2;omega
  rcases hres i r hi with ⟨e1,e2⟩ | g1
  ·rcases hres j q hj with ⟨e3,e4⟩ | g2
   ·rw[e1,e3]
   ·exact (cross i r j q e1 e2 h1 g2 h2).elim
  ·rcases hres j q hj with ⟨e3,e4⟩ | g2
   ·exact (cross j q i r e3 e4 h2 g1 h1).elim
   ·obtain⟨n1,r0,k1,k2,_⟩:=g1;obtain⟨n2,q0,k3,k4,_⟩:=g2;rw[k2,(hB i n1).1,(hB i n1).2] at h1;rw[k4,(hB j n2).1,(hB j n2).2] at h2;exact h.apart i r0 j q0 b k1 k3 h1 h2
end
def Lr (r:Option Res) (B:Nat→Nat) (T:Nat→Sv) (b:Nat):Prop:=∃q,r=some q∧q.blk (B 1000) (T 1000)=some b
abbrev up {α:Type} (f:Nat→α) (x:α):Nat→α:=fun i=>if i=1000 then x else f i
def SCalls (P:Program) (H:World→Prop) (Tg:List Nat) (f:FuncId) (args:List SV) (r:Option Res) (r':Res) (res:SV) (kt:Bool):Prop:=gg P f=true∧
 ∀(w:World) (X:Nat→Prop) (B:Nat→Nat) (T:Nat→Sv) (us:List Value),H w→(∀b,X b→b < w.heap.size)→(∀b cs t fr,X b→w.heap[b]?=some (.cells cs t fr)→t ∉ Tg)→(∀b,X b→¬Lr r B T b)→(∀q,r=some q→q.In (fun _=>True) w (fun b=>X b∨Lr r B T b) B T 1000)→SV.RepL w (fun b=>X b∨Lr r B T b) B T args us→
  Calls P f us.toArray w fun e w'=>∃v b' x',e=.returned v∧(r.isSome=true→b'=B 1000)∧(kt=false→b'=B 1000∧x'=T 1000)∧Fr (Lr r B T) w w'∧(∀b,r'.blk b' x'=some b→Lr r B T b∨w.heap.size≤b)∧r'.In (fun _=>True) w' (fun b=>X b∨r'.blk b' x'=some b) (up B b') (up T x') 1000∧res.Rep w' (fun b=>X b∨r'.blk b' x'=some b) (up B b') (up T x') v
def rsO:Option Res→List (Nat×Res)
 | some q=>[(1000,q)]
 | none=>[]
theorem xv {r:Option Res} {i:Nat} {q:Res} (h:bs (rsO r) i=some q):i=1000∧r=some q:=by
 cases r with
 | none=>cases h
 | some p=>
  rw[rsO,bs] at h;cases hb:Nat.beq i 1000 with
  | true=>rw[hb] at h;injection h with h;exact⟨Nat.eq_of_beq_eq_true hb,congrArg some h⟩
  | false=>rw[hb] at h;cases h
theorem adg {r:Option Res} {q:Res} (h:r=some q):bs (rsO r) 1000=some q:=by subst h;rfl
def retS (tab:Tab) (st:St):ResultVar→Option SV
 | .tmp t=>st.slot t
 | .cell t ty=>match st.slot t,tab.get ty with
  | some (.box id 0),some l=>(match st.res id with
   | some (.box _ cs)=>(match l.agg with
    | true=>bif Nat.beq cs.length l.zero.length then some (.agg cs) else none
    | false=>(match cs with
     | [c]=>some c
     | _=>none))
   | _=>none)
  | _,_=>none
def coR (st:St) (s:SV):Option SV:=bif s.ids.contains 1000 then (bif s.ids.all (fun i=>Nat.beq i 1000) then some s else none) else match coSV st s with
 | some p=>some (.pv p)
 | none=>none
def ansS (tab:Tab) (st:St):List ResultVar→Option SV
 | [r]=>match retS tab st r with
  | some s=>coR st s
  | none=>none
 | _=>none
def boxy:Res→Bool
 | .box ..=>true
 | .tok ..=>false
def RetS (tab:Tab) (fn:Func) (r':Res) (res:SV):Exit→St→Prop
 | .ret,st | .normal,st=>ansS tab st fn.results.toList=some res∧st.res 1000=some r'
 | _,_=>False
section
variable {P:Program} {tab:Tab} {C:Cx} {st:St}
theorem adj (hT:iv C.P tab) {a:Act} {w:World} {B:Nat→Nat} {T:Nat→Sv} (hi:InvB C st a w B T) {rs:List ResultVar} {fn:Func} (hrs:fn.results.toList=rs) {res:SV} (h:ansS tab st rs=some res):∃s v,(results fn a.tmps).run C.P w=.ok v w∧SV.Rep w (Own0 C st B T) B T s v∧coR st s=some res:=by
 match rs,h with
 | [r],h=>
  rw[ansS] at h;split at h
  ·rename_i s hs
   have key:∀v,(match r with
     | .tmp t=>(pure (a.tmps.getD t undef):Sem Value)
     | .cell x t=>do loadVar t (← asAddr (a.tmps.getD x undef))).run C.P w=.ok v w→(results fn a.tmps).run C.P w=.ok v w:=fun v hv=>by
    unfold results;rw[show fn.results=#[r] from by rw[← hrs]];rw[Sem.run_bind,Array.mapM_eq_mapM_toList,map_eq_pure_bind,Sem.run_bind];have:([r].mapM fun (r:ResultVar)=>match r with
     | .tmp t=>(pure (a.tmps.getD t undef):Sem Value)
     | .cell x t=>do loadVar t (← asAddr (a.tmps.getD x undef))).run C.P w=.ok [v] w:=by
     rw[List.mapM_cons,Sem.run_bind,hv,Result.andThen_ok,Sem.run_bind,List.mapM_nil,Sem.run_pure,Result.andThen_ok,Sem.run_pure]
    exact congrArg (fun r:Result (List Value)=>(r.andThen fun (a:List Value) w'=>Sem.run C.P (pure a.toArray) w').andThen fun (a:Array Value) w'=>Sem.run C.P (pure (if h:a.size=1 then a[0] else .tuple a)) w') this
   cases r with
   | tmp t=>exact⟨s,_,key _ rfl,hi.slot t s hs,h⟩
   | cell t ty=>
    unfold retS at hs;simp only at hs;split at hs
    ·rename_i id l h1 h2
     split at hs
     ·rename_i tz cs h3
      have lk:=Tab.get_ok hT h2;obtain⟨d,hu,hd⟩:=lk.agg;have hsl:=hi.slot t _ h1;rw[SV.Rep] at hsl;obtain⟨g1,us,g2,g3⟩:=hi.inn id _ h3;have hc:∀j v,us[j]?=some v→w.cell? ((⟨B id,0,none⟩:Addr).add j)=some v:=fun j v hv=>by
       rw[jd,g2.cell];simpa using hv
      split at hs
      ·rename_i hag
       cases hb:Nat.beq cs.length l.zero.length with
       | false=>rw[hb] at hs;cases hs
       | true=>
        rw[hb] at hs;injection hs with hs;subst hs;refine⟨.agg cs,.agg us.toArray,key _ ?_,by rw[SV.Rep];exact⟨us,rfl,g3⟩,h⟩;simp only[hsl,asAddr];exact r5 (n:=l.zero.length) hu (hd.trans hag) (by rw[lk.size,g3.len,Nat.eq_of_beq_eq_true hb]) hc
      ·rename_i hag
       split at hs
       ·rename_i c
        injection hs with hs;subst hs;have g4:=g3;rw[SV.RepL] at g4;obtain⟨u,us',rfl,g5,g6⟩:=g4;refine⟨c,u,key _ ?_,g5,h⟩;simp only[hsl,asAddr];refine jv hu (hd.trans hag) ?_;have:=hc 0 u rfl;rwa [add_zero] at this
       ·cases hs
     ·cases hs
    ·cases hs
  ·cases h
theorem SCalls.of {H:World→Prop} {T:List Nat} {f:FuncId} {args:List SV} {r:Option Res} {r':Res} {res:SV} {kt:Bool} {fn:Func} {c:Code} (tys:List Nat) (hT:iv P tab) (hm:P.follows .mixedOrders=true) (hcall:gg P f=true) (hf:P.funcs[f]?=some fn) (hb:fn.body=some c) (hn:Nat.ble args.length fn.ntmps=true) (hck:(Nat.ble fn.ntmps 1000&&((rsO r).all fun p=>p.2.ids.isEmpty&&tys.contains p.2.typ)&&r'.ids.isEmpty&&(kt||boxy r'&&r.isSome&&res.tids.isEmpty)&&(SV.idsL args).all fun i=>Nat.beq i 1000&&r.isSome)=true) (h:∀D:Dom P T 0,H D.w0→(r.isNone=true→∀i,¬D.F i)→PW (D.cx fn.ntmps) c (St.initM args (rsO r) tys) (RetS tab fn r' res)):SCalls P H T f args r r' res kt:=by
 refine⟨hcall,fun w X B Tk us hH hX hXT hXL hpre hr=>?_⟩;have hn:=Nat.le_of_ble_eq_true hn;simp only[be,List.all_eq_true] at hck;obtain⟨⟨⟨⟨k1,k2⟩,k3⟩,k4⟩,k5⟩:=hck
 let D:Dom P T 0:=⟨w,X,hX,hm,hXT,Lr r B Tk,hXL,fun i=>i=1000∧r.isSome=true,B,fun _=>undef⟩
 refine calls_of_wp hf hb ?_;have hlen:=hr.len;have hinv:Inv (D.cx fn.ntmps) (St.initM args (rsO r) tys) { tmps:=us.toArray++Array.replicate (fn.ntmps - us.toArray.size) undef,defers:=[] } w:=by
  refine⟨B,Tk,⟨⟨by simp;omega,fun t h=>absurd h (Nat.not_lt_zero t)⟩,rfl,⟨Fr.refl _ w,fun i h=>rfl⟩,fun t s e=>?_,fun t s e i hi=>?_,fun i q e=>?_,fun i q e j hj=>?_,fun i p j q b e1 e2 _ _=>by rw[(xv e1).1,(xv e2).1]⟩⟩
  ·obtain⟨u,hu,hpr⟩:=hr.at (show args[t]?=some s from e);have hut:(us.toArray++Array.replicate (fn.ntmps - us.toArray.size) undef).getD t undef=u:=by
    have hlt:=(gs hu).1;rw[Array.getD_eq_getD_getElem?,Array.getElem?_append_left (by simpa using hlt)];simp[hu]
   rw[hut];exact hpr.still ⟨nr _,fun b cs t fr hx hh ht=>⟨rfl,fun hb=>hx (hb.imp (fun h=>h) fun ⟨i,q,e,hb⟩=>by
    obtain⟨rfl,e2⟩:=xv e;exact⟨q,e2,hb⟩)⟩⟩ fun _ _=>⟨rfl,rfl⟩
  ·have:=k5 i (ip (mg (show args[t]?=some s from e)) hi);obtain⟨q,hq⟩:=Option.isSome_iff_exists.1 this.2;show (bs (rsO r) i).isSome=true;rw[Nat.eq_of_beq_eq_true this.1,adg hq];rfl
  ·obtain⟨rfl,e2⟩:=xv e;exact (hpre q e2).wide (fun b hb _=>.inr ⟨q,e2,hb⟩) fun b hb=>hb.imp (fun h=>h) fun ⟨i,q,e,hb⟩=>by
    obtain⟨rfl,e2⟩:=xv e;exact⟨q,e2,hb⟩
  ·obtain⟨rfl,e2⟩:=xv e;subst e2;have:=(k2 _ (List.mem_singleton.2 rfl)).1;rw[List.isEmpty_iff.1 this] at hj;cases hj
 refine Code.wp_mono (fun e a w' hq=>?_) (h D hH (fun hN i hi=>by have:=hi.2;rw[Option.isNone_iff_eq_none.1 hN] at this;cases this) _ w (fun i q e=>by
  obtain⟨rfl,e2⟩:=xv e;subst e2;exact List.contains_iff_mem.1 (k2 _ (List.mem_singleton.2 rfl)).2) hinv)
 obtain⟨st,h1,_,⟨B',T',hi⟩⟩:=hq;have fin:ansS tab st fn.results.toList=some res∧st.res 1000=some r'→∃v,(results fn a.tmps).run P w'=.ok v w'∧a.defers=[]∧∃b' x',(r.isSome=true→b'=B 1000)∧(kt=false→b'=B 1000∧x'=Tk 1000)∧Fr (Lr r B Tk) w w'∧(∀b,r'.blk b' x'=some b→Lr r B Tk b∨w.heap.size≤b)∧r'.In (fun _=>True) w' (fun b=>X b∨r'.blk b' x'=some b) (up B b') (up Tk x') 1000∧res.Rep w' (fun b=>X b∨r'.blk b' x'=some b) (up B b') (up Tk x') v:=fun ⟨h1,h2⟩=>by
  obtain⟨s,v,g1,g2,g3⟩:=adj (C:=D.cx fn.ntmps) hT hi rfl h1;have hfix:r.isSome=true→B' 1000=B 1000:=fun h=>hi.gr.fix 1000 ⟨⟨rfl,h⟩,Nat.le_of_ble_eq_true k1⟩
  obtain⟨x',hx',hxk⟩:∃x':Sv,(kt=false→x'=Tk 1000)∧(x'=T' 1000∨kt=false∧boxy r'=true∧res.tids=[]):=by
   cases hkt:kt with
   | true=>exact⟨T' 1000,(fun e=>by cases e),.inl rfl⟩
   | false=>
    rw[hkt,Bool.false_or] at k4;simp only[be] at k4;exact⟨Tk 1000,fun _=>rfl,.inr ⟨rfl,k4.1.1,List.isEmpty_iff.1 k4.2⟩⟩
  have hbl:r'.blk (B' 1000) x'=r'.blk (B' 1000) (T' 1000):=by
   rcases hxk with e | ⟨_,e,_⟩
   ·rw[e]
   ·cases r' with
    | box=>rfl
    | tok=>cases e
  have hsub:∀b,X b∨r'.blk (B' 1000) x'=some b→Own0 (D.cx fn.ntmps) st B' T' b:=fun b hb=>hb.elim .inl fun h=>.inr ⟨1000,r',h2,by rw[← hbl];exact h⟩
  have S:∀ts,Still w' w' (Own0 (D.cx fn.ntmps) st B' T') (fun b=>X b∨r'.blk (B' 1000) x'=some b) ts:=fun ts=>⟨nr _,fun b cs t fr hx hh ht=>⟨rfl,fun hb=>hx (hsub b hb)⟩⟩
  have hin0:=hi.inn 1000 r' h2;refine⟨v,g1,hi.dfr,B' 1000,x',hfix,fun e=>⟨?_,hx' e⟩,hi.gr.fr,fun b hb=>((hin0.lo (hbl▸hb)).1).symm,?_,?_⟩
  ·rw[e,Bool.false_or] at k4;simp only[be] at k4;exact hfix k4.1.2
  ·have h3:=hin0.wide (lo':=fun _=>True) (fun _ _ _=>trivial) hsub;cases r' with
   | box ty cs=>
    obtain⟨_,us,h4,h5⟩:=h3;have:SV.idsL cs=[]:=List.isEmpty_iff.1 k3;exact⟨trivial,us,h4,h5.still ⟨nr _,fun b cs t fr hx hh ht=>⟨rfl,hx⟩⟩ fun i hi=>by rw[this] at hi;cases hi⟩
   | tok e k ts xs=>
    have e1:x'=T' 1000:=hxk.elim id fun h=>by cases h.2.1
    subst e1;exact h3.reB (B':=up B (B' 1000)) (T':=up Tk (T' 1000)) rfl rfl fun j hj=>by cases hj
  ·unfold coR at g3;cases hc:s.ids.contains 1000 with
   | true=>
    rw[hc] at g3;simp only[cond_true] at g3;cases hall:s.ids.all (fun i=>Nat.beq i 1000) with
    | false=>rw[hall] at g3;cases g3
    | true=>
     rw[hall] at g3;injection g3 with g3;subst g3;have one:∀i∈s.ids,i=1000:=fun i hi=>Nat.eq_of_beq_eq_true (List.all_eq_true.1 hall i hi)
     rcases hxk with e | ⟨_,_,e⟩
     ·subst e;exact g2.still (S _) fun i hi=>by rw[one i hi];exact⟨rfl,rfl⟩
     ·have h5:SV.Rep w' (fun b=>X b∨r'.blk (B' 1000) x'=some b) (up B (B' 1000)) T' s v:=g2.still (S _) fun i hi=>by rw[one i hi];exact⟨rfl,rfl⟩
      exact h5.reT fun i hi=>by rw[e] at hi;cases hi
   | false=>
    rw[hc] at g3;simp only[cond_false] at g3;split at g3
    ·rename_i p hp
     injection g3 with g3;subst g3;rw[SV.Rep];refine Co.rep hi (lc hp) g2 fun b hb=>⟨hsub b hb,fun ⟨i,hi1,q,hq,hb2⟩=>?_⟩
     rcases hb with hb | hb
     ·have h4:=(hi.inn i q hq).lo hb2;exact h4.1.elim (fun g=>absurd (hX b hb) (Nat.not_lt.2 g)) (hXL b hb)
     ·rw[hbl] at hb;have:=hi.apart i q 1000 r' b hq h2 hb2 hb;rw[this] at hi1;rw[List.contains_iff_mem.2 hi1] at hc;cases hc
    ·cases g3
 cases e with
 | ret=>
  obtain⟨v,g1,g2,b',x',g3⟩:=fin h1;exact bodyPost_ret g1 g2 ⟨v,b',x',rfl,g3⟩
 | normal=>
  obtain⟨v,g1,g2,b',x',g3⟩:=fin h1;exact bodyPost_end g1 g2 ⟨v,b',x',rfl,g3⟩
 | _=>exact h1.elim
end
section
variable {C:Cx} {o:Oper} {st:St}
theorem a3x {st1:St} {a:Act} {w:World} {B:Nat→Nat} {T:Nat→Sv} (h:InvB C st1 a w B T):∀{ss ps:List SV} {us:List Value},nv st ss=some ps→SV.RepL w (Own0 C st1 B T) B T ss us→SV.RepL w (Own0 C st1 B T) B T ps us
 | [],ps,us,hc,hr=>by rw[nv] at hc;injection hc with hc;subst hc;exact hr
 | s::ss,ps,us,hc,hr=>by
  rw[nv] at hc;split at hc
  ·rename_i p ps' h1 h2
   injection hc with hc;subst hc;rw[SV.RepL] at hr;obtain⟨u,us',rfl,h3,h4⟩:=hr;refine SV.RepL.cons ?_ (a3x h h2 h4);unfold afj at h1;split at h1
   ·rename_i hids
    split at h1
    ·rename_i q hq
     injection h1 with h1;subst h1;rw[SV.Rep];exact Co.rep h ((lc hq).move fun i hi=>by rw[hids] at hi;cases hi) h3 fun b hb=>⟨hb,fun ⟨i,hi,_⟩=>by rw[hids] at hi;cases hi⟩
    ·cases h1
   ·injection h1 with h1;subst h1;exact h3
  ·cases hc
theorem aax {H:World→Prop} {c:Call} {f:FuncId} {ss args:List SV} {r:Option Res} {r':Res} {res:SV} {kt:Bool} {Tg:List Nat} (hp:SCalls C.P H Tg f args r r' res kt) (hH:∀B w,GrC C B w→H w) (hF:C.F 1000→r.isSome=true) (ho:o.op=.call c) (hc:c.callee=.value (.func f)) (ha:evL st c.args.toList=some ss) (hco:nv st ss=some args) (hids:((SV.idsL ss).all (fun i=>Nat.beq i 1000)&&r'.ids.isEmpty&&res.ids.all (fun i=>Nat.beq i 1000))=true) (hre:st.res 1000=r) (he:st.tys.contains r'.typ=true) (hT:Tg.all (fun t=>C.T.contains t)=true) (hty:Tg.all (fun t=>!st.tys.contains t)=true) (hd:∀d,o.dst=some d→C.dk d):OpE C st.tys o st ⟨res,some (1000,r'),[1000],kt⟩:=by
 simp only[be,List.all_eq_true] at hids;refine⟨fun i r e=>by injection e with e;injection e with e1 e2;subst e1 e2;exact⟨mf ..,List.contains_iff_mem.1 he⟩,fun st1 h1 h2 hts a w ⟨B,T,hi⟩=>?_⟩;have hre':=hre;rw[← h2 1000 (mf ..)] at hre';rw[← jz (o:=o) (st1:=st1) (rb:=[]) ⟨h1,fun i hi=>by cases hi⟩ fun x hx=>by
  rw[ho];simp only[Op.operands,Call.operands,hc,Array.mem_append];exact .inr (Array.mem_toList_iff.1 hx)] at ha
 obtain⟨g1,g2⟩:=me hi ha;have g3:=a3x hi hco g1;have lown:∀b,Lr r B T b→Own0 C st1 B T b:=fun b ⟨q,e,hb⟩=>.inr ⟨1000,q,hre'.trans e,hb⟩
 have sub:∀b,(Own0 C st1 B T b∧¬Lr r B T b)∨Lr r B T b→Own0 C st1 B T b:=fun b hb=>hb.elim And.left (lown b)
 have bus:∀b,Own0 C st1 B T b→(Own0 C st1 B T b∧¬Lr r B T b)∨Lr r B T b:=fun b hb=>by
  by_cases hl:Lr r B T b
  ·exact .inr hl
  ·exact .inl ⟨hb,hl⟩
 have old:∀b,Own0 C st1 B T b→b < w.heap.size:=fun b hb=>by
  rcases hb with hb | ⟨i,r,hr,hb⟩
  ·exact nk (C.old b hb) hi.gr.size
  ·exact ((hi.inn i r hr).lo hb).2
 have run:(execOp a.eval o).run C.P w=.ok (.enter f (c.args.toList.map a.eval).toArray) w:=by
  simp only[execOp,ho,resolve,hc,Sem.run_bind];have hf:a.eval (.func f)=.func (.func f) #[] #[]:=rfl;rw[hf];simp only[Deferred.ofValue];simp[invoke,kg hp.1];rw[← Array.toList_map,Array.toArray_toList]
 have Ss:∀ts,Still w w (Own0 C st1 B T) (fun b=>(Own0 C st1 B T b∧¬Lr r B T b)∨Lr r B T b) ts:=fun ts=>⟨nr _,fun b cs t fr hx hh ht=>⟨rfl,fun hb=>hx (sub b hb)⟩⟩
 have hcall:=hp.2 w (fun b=>Own0 C st1 B T b∧¬Lr r B T b) B T _ (hH B w hi.gr) (fun b hb=>old b hb.1) (fun b cs t fr hb hh htg=>by
  have htc:=List.all_eq_true.1 hT t htg;have hty':=List.all_eq_true.1 hty t htg;rcases hb.1 with hb1 | ⟨i,r,hr,hb1⟩
  ·have hh':C.w0.heap[b]?=some (.cells cs t fr):=by rw[← hi.gr.old hb1];exact hh
   exact C.hT b cs t fr hb1 hh' (List.contains_iff_mem.1 htc)
  ·have h1:=(hi.inn i r hr).typ hb1 hh;have h2:=hts i r hr;rw[← h1] at h2;rw[List.contains_iff_mem.2 h2] at hty';cases hty') (fun b hb=>hb.2) (fun q e=>(hi.inn 1000 q (hre'.trans e)).wide (fun _ _ _=>trivial) sub) (g3.still (Ss _) fun _ _=>⟨rfl,rfl⟩)
 refine er run (hcall.mono fun ex w' ⟨v,b',x',hex,p1,p2,p3,p4,p5,p6⟩=>⟨v,hex,?_⟩);have F1:Fr (fun b=>∃q,st1.res 1000=some q∧q.blk (B 1000) (T 1000)=some b) w w':=p3.wide fun b _ ⟨q,e,hb⟩=>⟨q,hre'.trans e,hb⟩
 have hY:∀b,(Own0 C st1 B T b∧¬∃r,st1.res 1000=some r∧r.blk (B 1000) (T 1000)=some b)∨r'.blk (up B b' 1000) (up T x' 1000)=some b→(Own0 C st1 B T b∧¬Lr r B T b)∨r'.blk b' x'=some b:=fun b hb=>hb.imp (fun ⟨h1,h2⟩=>⟨h1,fun ⟨q,e,k⟩=>h2 ⟨q,hre'.trans e,k⟩⟩) id
 refine ajb hi (B':=up B b') (T':=up T x') (fun i hi=>⟨if_neg hi,if_neg hi⟩) (fun e=>⟨(if_pos rfl).trans (p2 e).1,(if_pos rfl).trans (p2 e).2⟩) (fun e=>(if_pos rfl).trans (p1 (hF e))) F1 (fun b hb=>(p4 b hb).imp (fun ⟨q,e,hb⟩=>⟨q,hre'.trans e,hb⟩) id) ?_ (List.isEmpty_iff.1 hids.1.2) ?_ (fun i hi=>Nat.eq_of_beq_eq_true (hids.2 i hi)) hd
 ·exact p5.wide (fun _ _ _=>trivial) hY |>.reB (if_pos rfl) (if_pos rfl) fun j hj=>⟨rfl,rfl⟩
 ·exact p6.still ⟨nr _,fun b cs t fr hx hh ht=>⟨rfl,fun hb=>hx (hY b hb)⟩⟩ fun _ _=>⟨rfl,rfl⟩
end
section
variable {T:List Nat} {Z:Nat} {D:Dom Tryz.prog T Z} {N:Nat} {st:St} {Q:Exit→St→Prop} {ops:List Oper} {draw:Bool} {acc:List Itm} {r':Res} {res:SV}
theorem rsc0 {H:World→Prop} {k:Nat} {ks:List Nat} {c:Call} {f:FuncId} {ss args:List SV} {r:Option Res} {kt:Bool} {Tg:List Nat} {dst:Option Nat} {ty:TypeId} {pos:String} {af:Array Edge} {gd:Option (Nat×Bool)} (hH:∀B w,GrC (D.cx N) B w→H w) (hF:r.isNone=true→∀i,¬D.F i) (hp:SCalls Tryz.prog H Tg f args r r' res kt) (next:Reg (D.cx N) ops draw Q (acc++[⟨k,true,⟨res,some (1000,r'),[1000],kt⟩,lkOf ops k st (⟨res,some (1000,r'),[1000],kt⟩:Eff)⟩]) ks ((⟨res,some (1000,r'),[1000],kt⟩:Eff).app dst st)) (hk:nthL ops k=some ⟨dst,.call c,ty,pos,af,gd⟩:=by exact rfl) (hw:ed ops.toArray ⟨dst,.call c,ty,pos,af,gd⟩ st=some true:=by exact rfl) (hd:dstB ⟨dst,.call c,ty,pos,af,gd⟩ N Z=true:=by exact rfl) (hc:c.callee=.value (.func f):=by exact rfl) (ha:evL st c.args.toList=some ss:=by exact rfl) (hco:nv st ss=some args:=by exact rfl) (hre:st.res 1000=r:=by exact rfl) (hB:((SV.idsL ss).all (fun i=>Nat.beq i 1000)&&r'.ids.isEmpty&&res.ids.all (fun i=>Nat.beq i 1000)&&(st.tys.contains r'.typ&&(Tg.all (fun t=>T.contains t)&&Tg.all (fun t=>!st.tys.contains t))))=true:=by exact rfl):Reg (D.cx N) ops draw Q acc (k::ks) st:=by
 simp only[be] at hB;exact fe hk hw hd (fun hd=>aax (C:=D.cx N) hp hH (fun e=>by
  cases r with
  | none=>exact (hF rfl _ e.1).elim
  | some q=>rfl) rfl hc ha hco (by simp only[be];exact hB.1) hre hB.2.1 hB.2.2.1 hB.2.2.2 hd) next
theorem pcs {H:World→Prop} {f:FuncId} {args:List SV} {r:Option Res} {kt:Bool} {fn:Func} {c:Code} (tys:List Nat) (hf:(Tryz.prog).funcs[f]?=some fn) (h:∀D:Dom Tryz.prog T 0,H D.w0→(r.isNone=true→∀i,¬D.F i)→W D fn.ntmps c (St.initM args (rsO r) tys) (RetS tab fn r' res)) (hcall:gg Tryz.prog f=true:=by kernel_rfl) (hb:fn.body=some c:=by exact rfl) (hn:Nat.ble args.length fn.ntmps=true:=by exact rfl) (hck:(Nat.ble fn.ntmps 1000&&((rsO r).all fun p=>p.2.ids.isEmpty&&tys.contains p.2.typ)&&r'.ids.isEmpty&&(kt||boxy r'&&r.isSome&&res.tids.isEmpty)&&(SV.idsL args).all fun i=>Nat.beq i 1000&&r.isSome)=true:=by exact rfl):SCalls Tryz.prog H T f args r r' res kt:=SCalls.of tys al a3b hcall hf hb hn hck h
theorem rets {fn:Func} {s:SV} (h:ansS tab st fn.results.toList=some s) (e:s=res) (h2:st.res 1000=some r'):RetS tab fn r' res .ret st:=⟨h.trans (congrArg some e),h2⟩
end
def SV.wk:SV→SV
 | .nil e k ts=>.pv (.rows e k ts [])
 | s=>s
def Res.wk:Res→Res
 | .box t cs=>.box t (cs.map SV.wk)
 | r=>r
def aob:Option SV→Option SV
 | some s=>some s.wk
 | none=>none
def am0:Option Res→Option Res
 | some s=>some s.wk
 | none=>none
def St.wk (st:St):St:=⟨fun t=>aob (st.slot t),fun i=>am0 (st.res i),st.tys⟩
theorem ag3 (s:SV):s.wk.ids=s.ids:=by cases s<;>rfl
theorem a8l:∀(cs:List SV),SV.idsL (cs.map SV.wk)=SV.idsL cs
 | []=>rfl
 | c::cs=>by rw[List.map_cons,SV.idsL,SV.idsL,ag3,a8l cs]
theorem ag2 {w:World} {X:Nat→Prop} {B:Nat→Nat} {T:Nat→Sv} {s:SV} {v:Value} (h:s.Rep w X B T v):s.wk.Rep w X B T v:=by
 cases s with
 | nil e k ts=>
  rw[SV.Rep] at h;subst h;rw[SV.wk,SV.Rep,PV.Rep];exact⟨Sv.none,[],rfl,rfl,Sv.Is.none w k,(fun ad h=>by cases h),(fun ad h=>by cases h),by rw[PV.RepLL],fun r hr=>by cases hr⟩
 | _=>exact h
theorem a8k {w:World} {X:Nat→Prop} {B:Nat→Nat} {T:Nat→Sv}:∀{cs:List SV} {us:List Value},SV.RepL w X B T cs us→SV.RepL w X B T (cs.map SV.wk) us
 | [],us,h=>h
 | c::cs,us,h=>by
  rw[SV.RepL] at h;obtain⟨u,us',rfl,h1,h2⟩:=h;exact SV.RepL.cons (ag2 h1) (a8k h2)
theorem ak6 {C:Cx} {st:St} {a:Act} {w:World} (h:Inv C st a w):Inv C st.wk a w:=by
 obtain⟨B,T,h⟩:=h;have hs:∀t s,st.wk.slot t=some s→∃s0,st.slot t=some s0∧s=s0.wk:=fun t s e=>by
  simp only[St.wk] at e;cases h0:st.slot t with
  | none=>rw[h0] at e;cases e
  | some s0=>rw[h0] at e;injection e with e;exact⟨s0,rfl,e.symm⟩
 have hr:∀i r,st.wk.res i=some r→∃r0,st.res i=some r0∧r=r0.wk:=fun t s e=>by
  simp only[St.wk] at e;cases h0:st.res t with
  | none=>rw[h0] at e;cases e
  | some s0=>rw[h0] at e;injection e with e;exact⟨s0,rfl,e.symm⟩
 have dom:∀i,(st.res i).isSome=true→(st.wk.res i).isSome=true:=fun i hi=>by
  simp only[St.wk];cases h0:st.res i with
  | none=>rw[h0] at hi;cases hi
  | some r=>rfl
 have blk:∀(r:Res) b x,r.wk.blk b x=r.blk b x:=fun r b x=>by cases r<;>rfl
 have X0:∀b,Own0 C st.wk B T b→Own0 C st B T b:=fun b hb=>by
  rcases hb with hb | ⟨i,r,h1,h2⟩
  ·exact .inl hb
  ·obtain⟨r0,h3,rfl⟩:=hr i r h1;rw[blk] at h2;exact .inr ⟨i,r0,h3,h2⟩
 have S:∀ts,Still w w (Own0 C st B T) (Own0 C st.wk B T) ts:=fun ts=>⟨nr _,fun b cs t fr hx hh ht=>⟨rfl,fun hb=>hx (X0 b hb)⟩⟩
 refine⟨B,T,h.size,h.dfr,h.gr,fun t s e=>?_,fun t s e i hi=>?_,fun i r e=>?_,fun i r e j hj=>?_,fun i r j q b e1 e2 h1 h2=>?_⟩
 ·obtain⟨s0,h1,rfl⟩:=hs t s e;exact ag2 ((h.slot t s0 h1).still (S _) fun _ _=>⟨rfl,rfl⟩)
 ·obtain⟨s0,h1,rfl⟩:=hs t s e;rw[ag3] at hi;exact dom i (h.live t s0 h1 i hi)
 ·obtain⟨r0,h1,rfl⟩:=hr i r e;have hin:=h.inn i r0 h1;cases r0 with
  | box ty cells=>
   obtain⟨g1,us,g2,g3⟩:=hin;exact⟨g1,us,g2,a8k (g3.still (S _) fun _ _=>⟨rfl,rfl⟩)⟩
  | tok e k ts xs=>
   obtain⟨us,g1,g2,g3,g4⟩:=hin;exact⟨us,g1,PV.RepLL.still (ts:=ts) g2 (S _) fun r hr c hc=>((g3 r hr).2 c hc).2,g3,g4⟩
 ·obtain⟨r0,h1,rfl⟩:=hr i r e;cases r0 with
  | box ty cells=>exact dom j (h.alive i _ h1 j (by rw[Res.wk,Res.ids,a8l] at hj;exact hj))
  | tok e k ts xs=>cases hj
 ·obtain⟨r0,h3,rfl⟩:=hr i r e1;obtain⟨q0,h4,rfl⟩:=hr j q e2;rw[blk] at h1 h2;exact h.apart i r0 j q0 b h3 h4 h1 h2
theorem ak5 {st:St} (h:i8 st st.tys):i8 st.wk st.wk.tys:=fun i r e=>by
 simp only[St.wk] at e;cases h0:st.res i with
 | none=>rw[h0] at e;cases e
 | some r0=>
  rw[h0] at e;injection e with e;subst e;have:=h i r0 h0;cases r0<;>exact this
theorem pwk {C:Cx} {st:St} {Q:Exit→St→Prop} {c:Code} (h:PW C c st.wk Q):PW C c st Q:=fun a w ht hi=>h a w (ak5 ht) (ak6 hi)
section
variable {T:List Nat} {Z:Nat} {D:Dom Tryz.prog T Z} {N:Nat} {st:St} {Q:Exit→St→Prop}
theorem aa8 {x y:Code} {sl:List (Nat×SV)} {rs:List (Nat×Res)} (tys:List Nat) (p:Prop) (h1:W D N x st (Then (fun st'=>Sub (St.of sl rs tys) st'∧p) Q)) (h2:p→W D N y (St.of sl rs tys) Q):W D N (.seq x y) st Q:=
 ps (fun a w ht hi=>Code.wp_mono (fun e a w hq=>by
  obtain⟨st',g1,g2,g3⟩:=hq;cases e with
  | normal=>exact⟨st',y5 g1.1 (h2 g1.2),g2,g3⟩
  | _=>exact⟨st',g1,g2,g3⟩) (h1 a w ht hi))
end
theorem db {α β:Type} {f:α→β} {l:List α} {i:Nat} (h:decide ((i:Int) < ((l.map f).length:Int))=true):i < l.length:=by
 have:=of_decide_eq_true h;rw[List.length_map] at this;omega
theorem dw {α β:Type} {f:α→β} {l:List α} {i:Nat} (h:decide ((i:Int) < ((l.map f).length:Int))=false):l.length≤i:=by
 have:=of_decide_eq_false h;rw[List.length_map] at this;omega
theorem fx {z:Int} (h1:-4611686018427387904≤z) (h2:z≤4611686018427387904):IntKind.wrap .i64 z=z:=by
 rw[IntKind.wrap_i64];omega
theorem ae {n:Nat} (h:n≤1000000000):ariO .add .i64 (n:Int) 1=some (((n+1:Nat)):Int):=by
 show some (IntKind.wrap .i64 ((n:Int)+1))=_;rw[fx om om];rfl
theorem jg {x y:Int} (h1:-1000000000≤x) (h2:x≤1000000000) (h3:-1000000000≤y) (h4:y≤1000000000):ariO .add .i64 x y=some (x+y):=by
 show some (IntKind.wrap .i64 (x+y))=_;rw[fx om om]
theorem cw {x y:Int} (h1:-1000000000≤x) (h2:x≤1000000000) (h3:-1000000000≤y) (h4:y≤1000000000):ariO .sub .i64 x y=some (x - y):=by
 show some (IntKind.wrap .i64 (x - y))=_;rw[fx om om]
def atZ {α:Type} [Inhabited α] (l:List α) (z:Int):α:=(l[z.toNat]?).getD default
theorem dy {α:Type} [Inhabited α] {l:List α} {z:Int} (h0:0≤z) (h1:z < l.length):l[z.toNat]?=some (atZ l z):=by
 unfold atZ;rw[ge om];rfl
theorem bm {α:Type} [Inhabited α] {l:List α} {i:Nat} {a:α} (h:l[i]?=some a):atZ l (i:Int)=a:=by
 unfold atZ;rw[Int.toNat_natCast,h];rfl
theorem bi {α:Type} [Inhabited α] {l:List α} {z:Int} (h0:0≤z) (h1:z < l.length):atZ l z∈l:=mg (dy h0 h1)
theorem toN {z:Int} (h0:0≤z):z=((z.toNat:Nat):Int):=by omega
theorem yw {α β:Type} {f:α→β} {l:List α} {z:Int} (h:decide (z < ((l.map f).length:Int))=true):z < l.length:=by
 have:=of_decide_eq_true h;rwa [List.length_map] at this
theorem yu {α β:Type} {f:α→β} {l:List α} {z:Int} (h:decide (((l.map f).length:Int)≤z)=false):z < l.length:=by
 have:=of_decide_eq_false h;rw[List.length_map] at this;omega
theorem uw {z:Int} (h:decide (z < 0)=false):0≤z:=by
 have:=of_decide_eq_false h;omega
theorem gq {b:Bool} (h:(!b)=true):b=false:=by cases b<;>simp_all
theorem i7 {b:Bool} (h:(!b)=false):b=true:=by cases b<;>simp_all
theorem i_lt {i n:Nat} (h:decide ((i:Int) < (n:Int))=true):i < n:=by have:=of_decide_eq_true h;omega
theorem ah {α:Type} [Inhabited α] {l:List α} {i:Nat} (h:i < l.length):l[i]?=some (atZ l i):=by
 rw[bm (ge h)];exact ge h
section
attribute [local go_sem] Oper.semAt_some
theorem ww {l:List Nat} {k:Nat} (h:∀i x,k+1≤i→l[i]?=some x→x=0) (hk:l[k]?=some 0):∀i x,k≤i→l[i]?=some x→x=0:=fun i x hi hx=>by
 rcases Nat.eq_or_lt_of_le hi with rfl | h1
 ·rw[hk] at hx;injection hx with hx;exact hx.symm
 ·exact h i x h1 hx
theorem xh {l:List Nat} {k:Nat} (hL:Lim l) (hk:k≤l.length) (hz:∀i x,k≤i→l[i]?=some x→x=0) (hl:∀x,0 < k→l[k - 1]?=some x→x≠0):l.take k=ab (val l):=(a8f hL hk hz hl).symm
theorem bx (w:World) (x:Sv) (l:List Nat) (h:x.Num w l):
  Calls Tryz.prog 218 #[x.v] w fun e w'=>∃y:Sv,e=.returned y.v∧y.Num w' (ab (val l))∧Gr w w':=by
 obtain⟨A,n,c⟩:=x;have HI:=I h;have hn:=h.is.cap;have hc:=h.is.max;have HL:=I h.len;simp only at hn hc HL ⊢;clear h;go_enter Tryz.func218,Tryz.ntmps218;go_wp2;go_loopw [3] (fun s wr=>∃k:Nat,s=.int .i64 k∧k≤n∧Hid (∀i x,k≤i→l[i]?=some x→x=0)∧Hid (Gr w wr)) (fun s _=>(intOf s).toNat)
 case atStart=>exact⟨n,rfl,nr _,(fun i x hi hx=>by rw[List.getElem?_eq_none (by rw[HL.out];exact hi)] at hx;cases hx),Gr.refl w⟩
 case round=>
  obtain⟨k,rfl,hk,hZ,hG⟩:=hrel;cases k with
  | zero=>
   go_wp2;go_ret;refine⟨⟨none,0,0⟩,rfl,?_,hG.out⟩;rw[← xh (k:=0) HI.lim (nq _) hZ.out (fun x hx=>absurd hx om)];exact Sv.Num.none _
  | succ j=>
   obtain⟨y,ad,hy,hy9,hA,hb,d⟩:=(HI.gr hG).at (i:=j) hk;simp only at hA;subst hA;have hw1:IntKind.i64.wrap ((j:Int)+1 - 1)=(j:Int):=by rw[wi _ om];omega
   have hw2:IntKind.i64.wrap (((j+1:Nat):Int) - 1)=(j:Int):=by rw[wi _ om];omega
   by_cases hy0:y=0
   ·subst hy0;have HZ:=I (ww hZ hy);clear hy hy9 hb hZ;go_wp2;go_roundw
    case rel=>exact⟨j,by go_num,by omega,HZ,hG⟩
    case measure=>first | (simp[intOf];done) | (simp[intOf];omega)
   ·have HT:=I (xh (k:=j+1) HI.lim (by rw[HL.out];exact hk) hZ (fun x _ hx=>by
     rw[Nat.add_sub_cancel,hy] at hx;injection hx with hx;omega))
    have HY:=I ((HI.gr hG).take (k:=j+1) hk);rw[HT.out] at HY;clear hy hy9 hb hZ;go_wp2;go_ret;exact⟨_,rfl,HY.out,hG.out⟩
theorem anf (w:World) (x:Sv) (ds:List Value) (h:x.Is w 1 ds) (h1:∀u∈ds,u.oneCell'=true) (hn:x.n≤1000000):
  Calls Tryz.prog 328 #[x.v] w fun e w'=>∃y:Sv,e=.returned y.v∧y.Is w' 1 ds∧y.Ty w' 200∧Gr w w':=by
 obtain⟨A,n,c⟩:=x;simp only at hn;have heq:=fun (W:World) (A:Option Addr) (n c:Nat)=>Lib.run_eql_slice_nil (P:=Tryz.prog) W 33 200 A n c 0 0 elemN.ht
 rcases A with _ | ad
 ·obtain⟨h9,rfl⟩:=h.mk0 rfl;injection h9 with _ h8 h7;subst h8 h7;go_enter Tryz.func328,Tryz.ntmps328;go_wp2;go_ret;exact⟨Sv.none,rfl,Sv.Is.none _ _,(fun ad h=>by cases h),Gr.refl w⟩
 ·have HO:Hid ((w.alloc (.cells #[] 200)).ownsRow w.heap.size 200 1 (.slice (some ⟨w.heap.size,0,none⟩) 0 0) 0 []):=⟨rfl,.inr ⟨w.heap.size,0,#[],rfl,nr _,Bk.made _ _ _,nr _,nq _,rfl,rfl⟩⟩;have HC:Hid (∀j u,ds[j]?=some u→(w.alloc (.cells #[] 200)).cell? (ad.add j)=some u):=(h.gr ((Gr.refl w).alloc _)).cells rfl;have HU:=I h1;have H1:=I h.len;simp only at H1;clear h h1;go_enter Tryz.func328,Tryz.ntmps328;go_wp2_with (at_builtin;refine wz elemN rfl _ _ rfl w.heap.size (.slice (some ⟨w.heap.size,0,none⟩) 0 0) 0 [] rfl HO.out ad n c ds rfl H1.out HC.out HU.out (by unfold maxLen;omega) om (by simp) ?_;intro v' w' h2 h3 h5);go_wp2;go_ret;rw[Nat.zero_add,List.nil_append] at h2;obtain⟨y,rfl,_,hy,hty⟩:=Sv.of_row h2 dx;exact⟨y,rfl,hy,hty,Gr.of_own h3⟩
theorem ab2 (l:List Nat):∀u∈l.map lv,u.oneCell'=true:=by
 intro u hu;obtain⟨y,_,rfl⟩:=List.mem_map.1 hu;rfl
theorem ou (w:World) (x:Sv) (l:List Nat) (h:x.Num w l) (hn:l.length≤1000000):
  Calls Tryz.prog 265 #[x.v] w fun e w'=>∃y:Sv,e=.returned y.v∧y.Num w' (ab (val l))∧Gr w w':=by
 have H1:=I (bx w x l h);have HB:Hid ((ab (val l)).length≤1000000):=by
  have h1:(ab (val l)).length≤l.length:=bb (eq h.lim);exact (nt h1 hn)
 clear h hn;go_enter Tryz.func265,Tryz.ntmps265;go_wp2_with fail;refine cm2 H1 fun u w1 hu G1=>?_
 have HG:=I G1;have H2:=I (anf w1 u _ hu.is (ab2 _) (by rw[← hu.len];exact HB.out));clear hu H1;go_wp2_with fail;refine H2.mono ?_;rintro e w2 ⟨y,rfl,hy,hty,G2⟩;have HY:=I hy;have HT:=I hty;have HG2:=I (HG.trans G2);clear hy hty G2 HG H2;go_wp2;go_ret;exact⟨y,rfl,⟨HY.out,fb _,HT.out⟩,HG2.out⟩
end
theorem eu:∀{o:List Nat} {j x:Nat} (v:Nat),o[j]?=some x→val (o.set j v)+B32 ^ j*x=val o+B32 ^ j*v
 | [],j,x,v,h=>by simp at h
 | y::o,0,x,v,h=>by
  simp at h;subst h;simp[val];omega
 | y::o,j+1,x,v,h=>by
  have ih:=eu (o:=o) (j:=j) v (by simpa using h);rw[List.set_cons_succ,val,val,Nat.pow_succ,Nat.mul_comm (B32 ^ j) B32,Nat.mul_assoc,Nat.mul_assoc];have:B32*(val (o.set j v)+B32 ^ j*x)=B32*(val o+B32 ^ j*v):=by rw[ih]
  rw[Nat.mul_add,Nat.mul_add] at this;omega
theorem j8 (n:Nat):val (List.replicate n 0)=0:=vf fun x hx=>(List.mem_replicate.1 hx).2
theorem Lim.set {l:List Nat} (h:Lim l) (j:Nat) {v:Nat} (hv:v < B32):Lim (l.set j v):=fun y hy=>by
 rcases List.mem_or_eq_of_mem_set hy with h1 | h1
 ·exact h y h1
 ·rw[h1];exact hv
theorem Lim.zeros (n:Nat):Lim (List.replicate n 0):=fun y hy=>by rw[(List.mem_replicate.1 hy).2];decide
theorem gy {l:List Nat} {n:Nat} (h:l.length≤n):val (l.take n)=val l:=by rw[List.take_of_length_le h]
theorem co {o:List Nat} {i j v:Nat} (h:i≠j):(o.set i v)[j]?=o[j]?:=by rw[List.getElem?_set_ne h]
theorem iq {n j:Nat} (h:j < n):(List.replicate n 0)[j]?=some 0:=by rw[List.getElem?_replicate,if_pos h]
def lim0 (l:List Nat) (i:Nat):Nat:=l.getD i 0
theorem jy {l:List Nat} {i x:Nat} (h:l[i]?=some x):lim0 l i=x:=by rw[lim0,List.getD_eq_getElem?_getD,h];rfl
theorem im {l:List Nat} {i:Nat} (h:l.length≤i):lim0 l i=0:=by rw[lim0,List.getD_eq_getElem?_getD,List.getElem?_eq_none h];rfl
theorem md {l:List Nat} (h:Lim l) (i:Nat):lim0 l i < B32:=by
 rcases Nat.lt_or_ge i l.length with hi | hi
 ·rw[jy (List.getElem?_eq_getElem hi)];exact h _ (List.getElem_mem hi)
 ·rw[im hi];decide
theorem cb (l:List Nat) (i:Nat):val (l.take (i+1))=val (l.take i)+B32 ^ i*lim0 l i:=by
 rcases Nat.lt_or_ge i l.length with hi | hi
 ·rw[bn (List.getElem?_eq_getElem hi),jy (List.getElem?_eq_getElem hi)]
 ·rw[im hi,List.take_of_length_le hi,List.take_of_length_le (by omega)];rfl
structure AddSt (a b o:List Nat) (i c m:Nat):Prop where
 len:o.length=m
 lim:Lim o
 car:c≤1
 sum:val o+B32 ^ i*c=val (a.take i)+val (b.take i)
 zer:∀j,i≤j→j < m→o[j]?=some 0
theorem AddSt.start (a b:List Nat) (m:Nat):AddSt a b (List.replicate m 0) 0 0 m:=
 ⟨by simp,Lim.zeros m,by omega,by rw[j8];simp[val],fun j _ hj=>iq hj⟩
theorem AddSt.step {a b o:List Nat} {i c m:Nat} (h:AddSt a b o i c m) (ha:Lim a) (hb:Lim b) (hi:i < m) {s:Nat} (hs:s=c+lim0 a i+lim0 b i):
  AddSt a b (o.set i (s % B32)) (i+1) (s / B32) m:=by
 have h1:=md ha i;have h2:=md hb i;have h3:=h.car;have h0:=h.zer i (Nat.le_refl _) hi;refine⟨by rw[List.length_set];exact h.len,h.lim.set i (Nat.mod_lt _ (by decide)),?_,?_,fun j hj hm=>by rw[co (by omega)];exact h.zer j (by omega) hm⟩
 ·have:s < 2*B32:=by omega
  have:=Nat.div_lt_of_lt_mul (show s < B32*2 by omega);omega
 ·have e1:=eu (s % B32) h0;have e2:=h.sum;have e3:=cb a i;have e4:=cb b i;have e5:B32 ^ i*(s % B32)+B32 ^ (i+1)*(s / B32)=B32 ^ i*s:=by
   rw[Nat.pow_succ,Nat.mul_assoc,← Nat.mul_add,Nat.mod_add_div]
  have e6:B32 ^ i*s=B32 ^ i*c+B32 ^ i*lim0 a i+B32 ^ i*lim0 b i:=by rw[hs,Nat.mul_add,Nat.mul_add]
  rw[Nat.mul_zero] at e1;omega
theorem AddSt.done {a b o:List Nat} {n c:Nat} (h:AddSt a b o n c (n+1)) (ha:a.length≤n) (hb:b.length≤n):
  val (o.set n c)=val a+val b∧Lim (o.set n c):=by
 have e1:=eu c (h.zer n (Nat.le_refl _) (by omega));have e2:=h.sum;rw[gy ha,gy hb] at e2;rw[Nat.mul_zero] at e1;exact⟨by omega,h.lim.set n (by have:=h.car;have:=bc;omega)⟩
structure SubSt (a b o:List Nat) (i c m:Nat):Prop where
 len:o.length=m
 lim:Lim o
 car:c≤1
 sum:val o+val (b.take i)=val (a.take i)+B32 ^ i*c
 zer:∀j,i≤j→j < m→o[j]?=some 0
theorem SubSt.start (a b:List Nat) (m:Nat):SubSt a b (List.replicate m 0) 0 0 m:=
 ⟨by simp,Lim.zeros m,by omega,by rw[j8];simp[val],fun j _ hj=>iq hj⟩
theorem SubSt.step {a b o:List Nat} {i c m:Nat} (h:SubSt a b o i c m) (ha:Lim a) (hb:Lim b) (hi:i < m) {x c':Nat} (hx:x < B32) (hc:c'≤1) (hs:x+c+lim0 b i=lim0 a i+B32*c'):
  SubSt a b (o.set i x) (i+1) c' m:=by
 have h0:=h.zer i (Nat.le_refl _) hi;refine⟨by rw[List.length_set];exact h.len,h.lim.set i hx,hc,?_,fun j hj hm=>by rw[co (by omega)];exact h.zer j (by omega) hm⟩;have e1:=eu x h0;have e2:=h.sum;have e3:=cb a i;have e4:=cb b i;have e5:B32 ^ i*(x+c+lim0 b i)=B32 ^ i*(lim0 a i+B32*c'):=by rw[hs]
 rw[Nat.mul_add,Nat.mul_add,Nat.mul_add] at e5;have e6:B32 ^ (i+1)*c'=B32 ^ i*(B32*c'):=by rw[Nat.pow_succ,Nat.mul_assoc]
 rw[Nat.mul_zero] at e1;omega
theorem SubSt.done {a b o:List Nat} {n c m:Nat} (h:SubSt a b o n c m) (ha:a.length≤n) (hb:b.length≤n) (hm:m≤n) (hv:val b≤val a):val o=val a - val b:=by
 have e2:=h.sum;rw[gy ha,gy hb] at e2;have h3:=eq h.lim;rw[h.len] at h3;have h4:B32 ^ m≤B32 ^ n:=Nat.pow_le_pow_right (by decide) hm;have h5:=h.car;rcases Nat.eq_zero_or_pos c with rfl | hc
 ·omega
 ·have:c=1:=by omega
  subst this;omega
structure MulSt (a b o:List Nat) (i:Nat):Prop where
 len:o.length=a.length+b.length
 lim:Lim o
 sum:val o=val (a.take i)*val b
 zer:∀j,i+b.length≤j→j < a.length+b.length→o[j]?=some 0
theorem MulSt.start (a b:List Nat):MulSt a b (List.replicate (a.length+b.length) 0) 0:=
 ⟨by simp,Lim.zeros _,by rw[j8];simp[val],fun j _ hj=>iq hj⟩
structure MulIn (a b o:List Nat) (i x k c:Nat):Prop where
 len:o.length=a.length+b.length
 lim:Lim o
 car:c < B32
 sum:val o+B32 ^ (i+k)*c=val (a.take i)*val b+B32 ^ i*(x*val (b.take k))
 zer:∀j,i+b.length≤j→j < a.length+b.length→o[j]?=some 0
theorem MulSt.into {a b o:List Nat} {i:Nat} (h:MulSt a b o i) (x:Nat):MulIn a b o i x 0 0:=
 ⟨h.len,h.lim,by decide,by rw[h.sum];simp[val],h.zer⟩
theorem MulIn.step {a b o:List Nat} {i x k c y z s:Nat} (h:MulIn a b o i x k c) (hi:i < a.length) (hx:x < B32) (hb:Lim b) (hy:b[k]?=some y) (hz:o[i+k]?=some z) (hs:s=c+(x*y+z)):
  MulIn a b (o.set (i+k) (s % B32)) i x (k+1) (s / B32):=by
 have hk:=(List.getElem?_eq_some_iff.1 hy).1;have h1:y < B32:=hb.at hy;have h2:z < B32:=h.lim.at hz;have h3:=h.car;have h4:x*y≤(B32 - 1)*(B32 - 1):=Nat.mul_le_mul (by omega) (by omega);have h5:s < B32*B32:=by
  have:(B32 - 1)*(B32 - 1)=18446744065119617025:=by decide
  have:B32*B32=18446744073709551616:=by decide
  have:=bc;omega
 refine⟨by rw[List.length_set];exact h.len,h.lim.set _ (Nat.mod_lt _ (by decide)),Nat.div_lt_of_lt_mul h5,?_,fun j hj hm=>by rw[co (by omega)];exact h.zer j hj hm⟩;have e1:=eu (s % B32) hz;have e2:=h.sum;have e3:=bn hy;have e5:B32 ^ (i+k)*(s % B32)+B32 ^ (i+(k+1))*(s / B32)=B32 ^ (i+k)*s:=by
  rw[show i+(k+1)=(i+k)+1 by omega,Nat.pow_succ,Nat.mul_assoc,← Nat.mul_add,Nat.mod_add_div]
 have e6:B32 ^ (i+k)*s=B32 ^ (i+k)*c+B32 ^ (i+k)*(x*y)+B32 ^ (i+k)*z:=by rw[hs,Nat.mul_add,Nat.mul_add,Nat.add_assoc]
 have e7:B32 ^ i*(x*val (b.take (k+1)))=B32 ^ i*(x*val (b.take k))+B32 ^ (i+k)*(x*y):=by
  rw[e3,Nat.mul_add,Nat.mul_add,Nat.pow_add]
  congr 1
  simp only[Nat.mul_assoc,Nat.mul_left_comm,Nat.mul_comm]
 omega
theorem MulIn.done {a b o:List Nat} {i x c:Nat} (h:MulIn a b o i x b.length c) (ha:a[i]?=some x):MulSt a b (o.set (i+b.length) c) (i+1):=by
 have hi:=(List.getElem?_eq_some_iff.1 ha).1;have e1:=eu c (h.zer (i+b.length) (Nat.le_refl _) (by omega));have e2:=h.sum;rw[List.take_length] at e2;refine⟨by rw[List.length_set];exact h.len,h.lim.set _ h.car,?_,fun j hj hm=>by rw[co (by omega)];exact h.zer j (by omega) hm⟩;rw[bn ha,Nat.add_mul,Nat.mul_assoc];rw[Nat.mul_zero] at e1;omega
theorem MulSt.done {a b o:List Nat} (h:MulSt a b o a.length):val o=val a*val b:=by
 rw[h.sum,List.take_length]
structure DivSt (a o:List Nat) (d i r:Nat):Prop where
 len:o.length=a.length
 lim:Lim o
 rem:r < d
 sum:val o*d+B32 ^ i*r=B32 ^ i*val (a.drop i)
 zer:∀j,j < i→j < a.length→o[j]?=some 0
theorem DivSt.start (a:List Nat) {d:Nat} (hd:0 < d):DivSt a (List.replicate a.length 0) d a.length 0:=
 ⟨by simp,Lim.zeros _,hd,by rw[j8,List.drop_length];simp[val],fun j _ hj=>iq hj⟩
theorem DivSt.step {a o:List Nat} {d i r x s:Nat} (h:DivSt a o d (i+1) r) (ha:Lim a) (hx:a[i]?=some x) (hd:d < B32) (hs:s=r*B32+x):
  DivSt a (o.set i (s / d)) d i (s % d)∧s / d < B32:=by
 have hi:=(List.getElem?_eq_some_iff.1 hx).1;have h1:x < B32:=ha.at hx;have h2:=h.rem;have hq:s / d < B32:=by
  refine Nat.div_lt_of_lt_mul ?_;have:(r+1)*B32≤d*B32:=Nat.mul_le_mul_right _ h2;rw[Nat.add_mul] at this;omega
 refine⟨⟨by rw[List.length_set];exact h.len,h.lim.set _ hq,Nat.mod_lt _ (by omega),?_,fun j hj hm=>by rw[co (by omega)];exact h.zer j (by omega) hm⟩,hq⟩;have e1:=eu (s / d) (h.zer i (by omega) hi);have e2:=h.sum;have e3:val (a.drop i)=x+B32*val (a.drop (i+1)):=by
  obtain⟨h9,h8⟩:=List.getElem?_eq_some_iff.1 hx;rw[List.drop_eq_getElem_cons h9,h8,val]
 have e4:B32 ^ i*(s / d*d)+B32 ^ i*(s % d)=B32 ^ i*s:=by rw[← Nat.mul_add,Nat.div_add_mod' s d]
 have e5:B32 ^ i*s=B32 ^ (i+1)*r+B32 ^ i*x:=by
  rw[hs,Nat.mul_add,Nat.pow_succ,Nat.mul_comm r B32,Nat.mul_assoc]
 have e6:B32 ^ i*val (a.drop i)=B32 ^ i*x+B32 ^ (i+1)*val (a.drop (i+1)):=by
  rw[e3,Nat.mul_add,Nat.pow_succ,Nat.mul_assoc]
 rw[Nat.mul_zero,Nat.add_zero] at e1;rw[e1,Nat.add_mul,Nat.mul_assoc];omega
theorem DivSt.done {a o:List Nat} {d r:Nat} (h:DivSt a o d 0 r):val o=val a / d∧r=val a % d:=by
 have e:=h.sum;rw[Nat.pow_zero,Nat.one_mul,Nat.one_mul,List.drop_zero] at e;have h2:=h.rem
 constructor
 ·rw[← e,Nat.mul_comm,Nat.mul_add_div (by omega),Nat.div_eq_of_lt h2,Nat.add_zero]
 ·rw[← e,Nat.mul_comm,Nat.mul_add_mod,Nat.mod_eq_of_lt h2]
def Lb (w:World) (g:Nat) (o:List Nat):Prop:=Bk w g 200 (o.map lv).toArray
section
variable {w w':World} {g:Nat} {o:List Nat}
theorem Lb.put (h:Lb w g o) (i v:Nat):Lb (w.setCell ⟨g,i,none⟩ (lv v)) g (o.set i v):=by
 have:=Bk.put h i (lv v);unfold Lb;rw[List.map_set];simpa using this
theorem Lb.cell (h:Lb w g o) {i x:Nat} (hx:o[i]?=some x):w.cell? ⟨g,i,none⟩=some (.int .u32 (x:Int)):=by
 rw[Bk.cell h i];simp[hx]
theorem Lb.fz (h:Lb w g o) (i:Nat):w.frozen? ⟨g,i,none⟩=false:=Bk.frozen h i
theorem Lb.num (h:Lb w g o) (hl:Lim o) (hn:o.length≤9223372036854775807):Sv.Num w ⟨some ⟨g,0,none⟩,o.length,o.length⟩ o:=
 ⟨⟨by simp,nr _,hn,fun e=>(by cases e),Bk.sees h (by simp)⟩,hl,fun ad ha _=>by injection ha with ha;subst ha;exact⟨_,_,h⟩⟩
theorem af0 (n:Nat):((List.replicate n 0).map lv).toArray=Array.replicate n (Value.int .u32 0):=by simp[lv]
theorem Lb.made (w:World) (n:Nat):Lb (w.alloc (.cells (Array.replicate n (.int .u32 0)) 200)) w.heap.size (List.replicate n 0):=by
 unfold Lb;rw[af0];exact Bk.made _ _ _
end
theorem a6o (n:Nat):madeCells #[Value.int .u32 0] n=Array.replicate n (Value.int .u32 0):=by
 apply Array.toList_inj.mp
 rw[toList_madeCells_one,Array.toList_replicate]
theorem a6w:(Tryz.prog.info? 200).map (fun i=>(i.zero,i.size,i.bytes))=some (some (.int .u32 0),1,4):=by kernel_rfl
theorem a3e (n:Nat) (hn:n≤100000000) (w:World):(Instr.makeSlice 33 (.int .i64 n) (.int .i64 n)).run Tryz.prog w=.ok (.slice (some ⟨w.heap.size,0,none⟩) n n) (w.alloc (.cells (Array.replicate n (.int .u32 0)) 200)):=by
 obtain⟨i0,hi,hz0,hz1,hz2⟩:=info_parts a6w;have:=run_make (P:=Tryz.prog) w 33 200 i0 _ elemN.ht hi hz0 .i64 .i64 n n om (Int.le_refl _) (by rw[hz2];omega) om;rw[hz1,Nat.mul_one,Int.toNat_natCast] at this;rw[← a6o];exact this
theorem aj0 (n:Nat) (hn:n≤100000000) (w:World):(Instr.makeSlice 32 (.int .i64 n) (.int .i64 n)).run Tryz.prog w=.ok (.slice (some ⟨w.heap.size,0,none⟩) n n) (w.alloc (.cells (Array.replicate n (.int .u32 0)) 200)):=by
 obtain⟨i0,hi,hz0,hz1,hz2⟩:=info_parts a6w;have:=run_make (P:=Tryz.prog) w 32 200 i0 _ (by kernel_rfl) hi hz0 .i64 .i64 n n om (Int.le_refl _) (by rw[hz2];omega) om;rw[hz1,Nat.mul_one,Int.toNat_natCast] at this;rw[← a6o];exact this
section
attribute [local go_sem] Oper.semAt_some
def cmpN (a b:Nat):Int:=if a < b then -1 else if b < a then 1 else 0
theorem qn {a b:Nat} (h:a < b):cmpN a b=-1:=by rw[cmpN,if_pos h]
theorem a54 {a b:Nat} (h:b < a):cmpN a b=1:=by rw[cmpN,if_neg om,if_pos h]
theorem a21 (a:Nat):cmpN a a=0:=by rw[cmpN,if_neg om,if_neg om]
theorem ac7 {a b:List Nat} {i y:Nat} (hd:a.drop (i+1)=b.drop (i+1)) (ha:a[i]?=some y) (hb:b[i]?=some y):a.drop i=b.drop i:=by
 obtain⟨h9,h8⟩:=gs ha;obtain⟨k9,k8⟩:=gs hb;rw[List.drop_eq_getElem_cons h9,List.drop_eq_getElem_cons k9,h8,k8,hd]
theorem mo (w:World) (x y:Sv) (a b:List Nat) (hx:x.Num w a) (hy:y.Num w b):
  Calls Tryz.prog 178 #[x.v,y.v] w fun e w'=>e=.returned (.int .i64 (cmpN (val a) (val b)))∧Gr w w':=by
 have H1:=I (bx w x a hx);have HY:=I hy;clear hx hy;go_enter Tryz.func178,Tryz.ntmps178;go_wp2_with fail;refine cm1 H1 fun u w1 HU G1=>?_
 have HG1:=I G1;have H2:=I (bx w1 y b (HY.gr G1));clear H1 HY;go_wp2_with fail;refine cm1 H2 fun v w2 HV G2=>?_
 have HG2:=I (HG1.trans G2);have HU2:=I (HU.gr G2);clear HG1 HU H2;obtain⟨A,n,c⟩:=u;obtain⟨B,m,d⟩:=v;have hn:(ab (val a)).length=n:=HU2.len;have hm:(ab (val b)).length=m:=HV.len;have hnc:n≤c:=HU2.is.cap;have hc9:c≤9223372036854775807:=HU2.is.max;have hmd:m≤d:=HV.is.cap;have hd9:d≤9223372036854775807:=HV.is.max;have HN:=I hn;have HM:=I hm;clear hn hm;simp only[Sv.v] at*;by_cases hnm:n=m
 ·subst hnm;have hnn:((n:Int) != n)=false:=by simp
  go_wp2;go_loopw [5] (fun s wr=>∃k:Nat,s=.int .i64 ((k:Int) - 1)∧k≤n∧Hid ((ab (val a)).drop k=(ab (val b)).drop k)∧Hid (Gr w wr)∧Hid (Gr w2 wr)) (fun s _=>(intOf s+1).toNat)
  case atStart=>
   refine⟨n,?_,nr _,?_,HG2,Gr.refl _⟩
   ·rfl
   ·exact (show (ab (val a)).drop n=(ab (val b)).drop n by
     rw[List.drop_of_length_le (by rw[HN.out];exact nr _),List.drop_of_length_le (by rw[HM.out];exact nr _)])
  case round=>
   obtain⟨k,rfl,hk,hD,hG,hG2⟩:=hrel;cases k with
   | zero=>
    have hE:Hid (cmpN (val a) (val b)=0):=by
     have h:=hD.out;rw[List.drop_zero,List.drop_zero] at h;rw[se h];exact a21 _
    have h0:((0:Nat):Int) - 1=-1:=rfl;rw[h0];clear hD;go_wp2;go_ret;exact⟨by rw[hE.out];rfl,hG.out⟩
   | succ j=>
    have hj:(((j+1:Nat):Int) - 1)=(j:Int):=by omega
    rw[hj];obtain⟨p,ad,hp,hp9,hA,hb,d1⟩:=(HU2.gr hG2).at (i:=j) hk;obtain⟨q,ad2,hq,hq9,hB,hb2,d2⟩:=(HV.gr hG2).at (i:=j) hk;simp only at hA hB;subst hA hB;have e1:wr.drew.cell? (ad.add j)=some (.int .u32 p):=d1;have e2:wr.drew.cell? (ad2.add j)=some (.int .u32 q):=d2;have HL:Hid (p < q→val a < val b):=fun h=>by
     have:=xe (fb _) (fb _) hp hq hD h;rwa [vl,vl] at this
    have HR:Hid (q < p→val b < val a):=fun h=>by
     have:=xe (fb _) (fb _) hq hp hD.symm h;rwa [vl,vl] at this
    have HS:Hid (p=q→(ab (val a)).drop j=(ab (val b)).drop j):=fun h=>ac7 hD hp (h▸hq)
    have hG3:Hid (Gr w wr.drew):=hG.drew;have hG4:Hid (Gr w wr.drew.drew):=hG3.drew;have hG5:Hid (Gr w2 wr.drew):=hG2.drew;clear hp hq hb hb2 hp9 hq9 hD;by_cases hpq:p=q
    ·subst hpq;have HSS:=I (HS.out rfl);clear HL HR HS;go_wp2;go_region
     all_goals go_wp2
     all_goals go_roundw
     all_goals first
      | (refine⟨j,?_,by omega,HSS,hG3,hG5⟩;first | rfl | (go_num;done) | (rw[wi _ om];done))
      | (simp[intOf];done)
      | (simp[intOf];omega)
    ·rcases Nat.lt_or_ge p q with hlt | hge
     ·have hC:=I (qn (HL.out hlt));have hpd:((p:Int) != q)=true:=by simp;omega
      have hpl:decide ((p:Int) < q)=true:=by simp;omega
      clear HL HR HS;go_wp2;go_region
      all_goals go_wp2
      all_goals go_region
      all_goals go_wp2
      all_goals go_ret
      all_goals exact⟨by rw[hC.out];rfl,hG4.out⟩
     ·have hC:=I (a54 (HR.out om));have hpd:((p:Int) != q)=true:=by simp;omega
      have hpl:decide ((p:Int) < q)=false:=by simp;omega
      clear HL HR HS;go_wp2;go_region
      all_goals go_wp2
      all_goals go_region
      all_goals go_wp2
      all_goals go_ret
      all_goals exact⟨by rw[hC.out];rfl,hG4.out⟩
 ·have HC:Hid (cmpN (val a) (val b)=if n < m then -1 else 1):=by
   by_cases h:n < m
   ·rw[if_pos h];exact qn (a3f (by rw[HN.out,HM.out];exact h))
   ·rw[if_neg h];exact a54 (a3f (by rw[HN.out,HM.out];omega))
  have hnn:((n:Int) != m)=true:=by simp;omega
  by_cases h:n < m
  ·rw[if_pos h] at HC;have hd:decide ((n:Int) < m)=true:=by simp;omega
   go_wp2;go_ret;exact⟨by rw[HC.out];rfl,HG2.out⟩
  ·rw[if_neg h] at HC;have hd:decide ((n:Int) < m)=false:=by simp;omega
   go_wp2;go_ret;exact⟨by rw[HC.out];rfl,HG2.out⟩
theorem ak1 (w:World) (x y:Sv) (a b:List Nat) (hx:x.Num w a) (hy:y.Num w b) (ha:a.length≤1000000) (hb:b.length≤1000000):
  Calls Tryz.prog 338 #[x.v,y.v] w fun e w'=>∃z:Sv,e=.returned z.v∧z.Num w' (ab (val a+val b))∧Gr w w':=by
 have H1:=I (bx w x a hx);have HY:=I hy;have HA:Hid ((ab (val a)).length≤1000000):=nt (bb (eq hx.lim)) ha;have HB:Hid ((ab (val b)).length≤1000000):=nt (bb (eq hy.lim)) hb;clear hx hy ha hb;go_enter Tryz.func338,Tryz.ntmps338;go_wp2_with fail;refine cm1 H1 fun u w1 HU G1=>?_
 have HG1:=I G1;have H2:=I (bx w1 y b (HY.gr G1));clear H1 HY;go_wp2_with fail;refine cm1 H2 fun v w2 HV G2=>?_
 have HG2:=I (HG1.trans G2);have HU2:=I (HU.gr G2);clear HG1 HU H2;obtain⟨A,n,c⟩:=u;obtain⟨B,m,d⟩:=v;have HN:=I HU2.len;have HM:=I HV.len;have VA:=I (vl (val a));have VB:=I (vl (val b));simp only[Sv.v] at*;have hn9:n≤1000000:=by rw[← HN.out];exact HA.out
 have hm9:m≤1000000:=by rw[← HM.out];exact HB.out
 generalize ab (val a)=la at*;generalize ab (val b)=lb at*;by_cases hnm:n < m
 ·have hd:decide ((n:Int) < m)=true:=by simp;omega
  have hw0:IntKind.i64.wrap ((m:Int)+1)=(m:Int)+1:=wi _ om;have hmk:=a3e (m+1) om w2;rw[show (((m+1:Nat)):Int)=(m:Int)+1 by omega] at hmk;have HR0:=I (Lb.made w2 (m+1));have HG3:Hid (Gr w (w2.alloc (.cells (Array.replicate (m+1) (.int .u32 0)) 200))):=HG2.alloc _;have HGs:Hid (Gr w2 (w2.alloc (.cells (Array.replicate (m+1) (.int .u32 0)) 200))):=(Gr.refl w2).alloc _;have HS0:=I (AddSt.start lb la (m+1));have hg0:Hid (w.heap.size≤w2.heap.size):=HG2.size;go_wp2;clear hmk hw0;generalize hge:w2.heap.size=g at*;have HGE:=I hge;clear hge;go_loopw [6,26] (fun s6 i wr=>∃(t cr:Nat) (o:List Nat),i=.int .i64 t∧s6=.int .u64 cr∧t≤m∧cr≤1∧Hid (AddSt lb la o t cr (m+1))∧Hid (Lb wr g o)∧Hid (Gr w wr)∧Hid (Gr w2 wr)) (fun _ i _=>m - (intOf i).toNat)
  case atStart=>exact⟨0,0,_,rfl,rfl,nq _,by omega,HS0,HR0,HG3,HGs⟩
  case round=>
   obtain⟨t,cr,o,rfl,rfl,ht,hcr,hS,hR,hG,hGG⟩:=hrel;have fz:=hR.fz;by_cases htn:t < m
   ·obtain⟨p,ad,hp,hp9,hAe,hbl,d1⟩:=(HV.gr hGG).at (i:=t) htn;simp only at hAe;subst hAe;have HP:=I (jy hp);have q0:=hR.cell (hS.zer t (nr _) om);have hB:=bc;rw[hB] at hp9;by_cases htm:t < n
    ·obtain⟨q,ad2,hq,hq9,hBe,hbl2,d2⟩:=(HU2.gr hGG).at (i:=t) htm;simp only at hBe;subst hBe;rw[hB] at hq9;obtain⟨s,hs⟩:∃s,s=cr+p+q:=⟨_,rfl⟩;have HST:=I (hS.step HV.lim HU2.lim om (s:=s) (by rw[HP.out,jy hq,hs]));obtain⟨lo,hlo⟩:∃lo,lo=s % B32:=⟨_,rfl⟩;obtain⟨hi,hhi⟩:∃hi,hi=s / B32:=⟨_,rfl⟩;rw[← hlo,← hhi] at HST;have hhi1:hi≤1:=HST.car;have E1:Hid (((cr:Int)+p+q) % 4294967296=lo):=by rw[hB] at hlo;exact (by omega:((cr:Int)+p+q) % 4294967296=lo)
     have E2:Hid (((cr:Int)+p+q) / 4294967296=hi):=by rw[hB] at hhi;exact (by omega:((cr:Int)+p+q) / 4294967296=hi)
     have HL2:=I (hR.put t lo);have HG4:=I (hG.set (p:=⟨g,t,none⟩) hg0 (lv lo));have HG5:=I (hGG.set (p:=⟨g,t,none⟩) (by rw[HGE.out];exact nr _) (lv lo));clear hp hq hbl hbl2 hlo hhi hs;go_wp2;go_roundw
     case rel=>
      rw[E1.out,E2.out];exact⟨t+1,hi,_,by go_num,rfl,by omega,hhi1,HST,HL2,HG4,HG5⟩
     case measure=>simp[intOf];omega
    ·obtain⟨s,hs⟩:∃s,s=cr+p:=⟨_,rfl⟩;have HST:=I (hS.step HV.lim HU2.lim om (s:=s) (by rw[HP.out,im (by rw[HU2.len];simp only;omega),hs];rfl));obtain⟨lo,hlo⟩:∃lo,lo=s % B32:=⟨_,rfl⟩;obtain⟨hi,hhi⟩:∃hi,hi=s / B32:=⟨_,rfl⟩;rw[← hlo,← hhi] at HST;have hhi1:hi≤1:=HST.car;have E1:Hid (((cr:Int)+p) % 4294967296=lo):=by rw[hB] at hlo;exact (by omega:((cr:Int)+p) % 4294967296=lo)
     have E2:Hid (((cr:Int)+p) / 4294967296=hi):=by rw[hB] at hhi;exact (by omega:((cr:Int)+p) / 4294967296=hi)
     have HL2:=I (hR.put t lo);have HG4:=I (hG.set (p:=⟨g,t,none⟩) hg0 (lv lo));have HG5:=I (hGG.set (p:=⟨g,t,none⟩) (by rw[HGE.out];exact nr _) (lv lo));clear hp hbl hlo hhi hs;go_wp2;go_roundw
     case rel=>
      rw[E1.out,E2.out];exact⟨t+1,hi,_,by go_num,rfl,by omega,hhi1,HST,HL2,HG4,HG5⟩
     case measure=>simp[intOf];omega
   ·obtain rfl:t=m:=by omega
    have q0:=hR.cell (hS.zer t (nr _) om);obtain⟨e1,e2⟩:=hS.done (by rw[HV.len];exact nr _) (by rw[HU2.len];simp only;omega);have HL2:=I (hR.put t cr);have HG4:=I (hG.set (p:=⟨g,t,none⟩) hg0 (lv cr));have hlen:(o.set t cr).length=t+1:=by rw[List.length_set];exact hS.len
    have HT:=I (bx (wr.setCell ⟨g,t,none⟩ (lv cr)) ⟨some ⟨g,0,none⟩,t+1,t+1⟩ (o.set t cr) (by rw[← hlen];exact HL2.num e2 om));rw[e1,VB.out,VA.out] at HT;clear e1 e2 hlen;go_wp2_with fail;refine cm1 HT fun z w5 HZ G5=>?_
    have HG6:=I (HG4.trans G5);clear HT;go_wp2;go_ret;exact⟨z,rfl,by rw[Nat.add_comm];exact HZ.out,HG6.out⟩
 ·have hd:decide ((n:Int) < m)=false:=by simp;omega
  have hw0:IntKind.i64.wrap ((n:Int)+1)=(n:Int)+1:=wi _ om;have hmk:=a3e (n+1) om w2;rw[show (((n+1:Nat)):Int)=(n:Int)+1 by omega] at hmk;have HR0:=I (Lb.made w2 (n+1));have HG3:Hid (Gr w (w2.alloc (.cells (Array.replicate (n+1) (.int .u32 0)) 200))):=HG2.alloc _;have HGs:Hid (Gr w2 (w2.alloc (.cells (Array.replicate (n+1) (.int .u32 0)) 200))):=(Gr.refl w2).alloc _;have HS0:=I (AddSt.start la lb (n+1));have hg0:Hid (w.heap.size≤w2.heap.size):=HG2.size;go_wp2;clear hmk hw0;generalize hge:w2.heap.size=g at*;have HGE:=I hge;clear hge;go_loopw [6,26] (fun s6 i wr=>∃(t cr:Nat) (o:List Nat),i=.int .i64 t∧s6=.int .u64 cr∧t≤n∧cr≤1∧Hid (AddSt la lb o t cr (n+1))∧Hid (Lb wr g o)∧Hid (Gr w wr)∧Hid (Gr w2 wr)) (fun _ i _=>n - (intOf i).toNat)
  case atStart=>exact⟨0,0,_,rfl,rfl,nq _,by omega,HS0,HR0,HG3,HGs⟩
  case round=>
   obtain⟨t,cr,o,rfl,rfl,ht,hcr,hS,hR,hG,hGG⟩:=hrel;have fz:=hR.fz;by_cases htn:t < n
   ·obtain⟨p,ad,hp,hp9,hAe,hbl,d1⟩:=(HU2.gr hGG).at (i:=t) htn;simp only at hAe;subst hAe;have HP:=I (jy hp);have q0:=hR.cell (hS.zer t (nr _) om);have hB:=bc;rw[hB] at hp9;by_cases htm:t < m
    ·obtain⟨q,ad2,hq,hq9,hBe,hbl2,d2⟩:=(HV.gr hGG).at (i:=t) htm;simp only at hBe;subst hBe;rw[hB] at hq9;obtain⟨s,hs⟩:∃s,s=cr+p+q:=⟨_,rfl⟩;have HST:=I (hS.step HU2.lim HV.lim om (s:=s) (by rw[HP.out,jy hq,hs]));obtain⟨lo,hlo⟩:∃lo,lo=s % B32:=⟨_,rfl⟩;obtain⟨hi,hhi⟩:∃hi,hi=s / B32:=⟨_,rfl⟩;rw[← hlo,← hhi] at HST;have hhi1:hi≤1:=HST.car;have E1:Hid (((cr:Int)+p+q) % 4294967296=lo):=by rw[hB] at hlo;exact (by omega:((cr:Int)+p+q) % 4294967296=lo)
     have E2:Hid (((cr:Int)+p+q) / 4294967296=hi):=by rw[hB] at hhi;exact (by omega:((cr:Int)+p+q) / 4294967296=hi)
     have HL2:=I (hR.put t lo);have HG4:=I (hG.set (p:=⟨g,t,none⟩) hg0 (lv lo));have HG5:=I (hGG.set (p:=⟨g,t,none⟩) (by rw[HGE.out];exact nr _) (lv lo));clear hp hq hbl hbl2 hlo hhi hs;go_wp2;go_roundw
     case rel=>
      rw[E1.out,E2.out];exact⟨t+1,hi,_,by go_num,rfl,by omega,hhi1,HST,HL2,HG4,HG5⟩
     case measure=>simp[intOf];omega
    ·obtain⟨s,hs⟩:∃s,s=cr+p:=⟨_,rfl⟩;have HST:=I (hS.step HU2.lim HV.lim om (s:=s) (by rw[HP.out,im (by rw[HV.len];simp only;omega),hs];rfl));obtain⟨lo,hlo⟩:∃lo,lo=s % B32:=⟨_,rfl⟩;obtain⟨hi,hhi⟩:∃hi,hi=s / B32:=⟨_,rfl⟩;rw[← hlo,← hhi] at HST;have hhi1:hi≤1:=HST.car;have E1:Hid (((cr:Int)+p) % 4294967296=lo):=by rw[hB] at hlo;exact (by omega:((cr:Int)+p) % 4294967296=lo)
     have E2:Hid (((cr:Int)+p) / 4294967296=hi):=by rw[hB] at hhi;exact (by omega:((cr:Int)+p) / 4294967296=hi)
     have HL2:=I (hR.put t lo);have HG4:=I (hG.set (p:=⟨g,t,none⟩) hg0 (lv lo));have HG5:=I (hGG.set (p:=⟨g,t,none⟩) (by rw[HGE.out];exact nr _) (lv lo));clear hp hbl hlo hhi hs;go_wp2;go_roundw
     case rel=>
      rw[E1.out,E2.out];exact⟨t+1,hi,_,by go_num,rfl,by omega,hhi1,HST,HL2,HG4,HG5⟩
     case measure=>simp[intOf];omega
   ·obtain rfl:t=n:=by omega
    have q0:=hR.cell (hS.zer t (nr _) om);obtain⟨e1,e2⟩:=hS.done (by rw[HU2.len];exact nr _) (by rw[HV.len];simp only;omega);have HL2:=I (hR.put t cr);have HG4:=I (hG.set (p:=⟨g,t,none⟩) hg0 (lv cr));have hlen:(o.set t cr).length=t+1:=by rw[List.length_set];exact hS.len
    have HT:=I (bx (wr.setCell ⟨g,t,none⟩ (lv cr)) ⟨some ⟨g,0,none⟩,t+1,t+1⟩ (o.set t cr) (by rw[← hlen];exact HL2.num e2 om));rw[e1,VA.out,VB.out] at HT;clear e1 e2 hlen;go_wp2_with fail;refine cm1 HT fun z w5 HZ G5=>?_
    have HG6:=I (HG4.trans G5);clear HT;go_wp2;go_ret;exact⟨z,rfl,HZ.out,HG6.out⟩
theorem fw {w:World} {g:Nat} {o:List Nat} {n:Nat} (h:Lb w g o) (hl:Lim o) (hn:o.length=n) (hm:n≤9223372036854775807):Sv.Num w ⟨some ⟨g,0,none⟩,n,n⟩ o:=by
 have:=h.num hl om;rw[hn] at this;exact this
theorem ab3 (w:World):Calls Tryz.prog 269 #[] w fun e w'=>∃z:Sv,e=.returned z.v∧z.Num w' (ab 1)∧Gr w w':=by
 have HR:Hid (Lb (w.alloc (.cells #[.int .u32 1] 200)) w.heap.size [1]):=Bk.made w 200 #[.int .u32 1];have HG:=I ((Gr.refl w).alloc (.cells #[.int .u32 1] 200));go_enter Tryz.func269,Tryz.ntmps269;go_wp2;go_ret;exact⟨⟨some ⟨w.heap.size,0,none⟩,1,1⟩,rfl,by rw[fp dx dx];exact fw HR (Lim.one dx) rfl dx,HG.out⟩
theorem vh (w:World) (x:Sv) (m:Nat) (hx:x.Num w (ab m)):Calls Tryz.prog 266 #[x.v] w fun e w'=>e=.returned (.bool (decide (m=1)))∧Gr w w':=by
 obtain⟨A,n,c⟩:=x;have hn:(ab m).length=n:=hx.len;by_cases h1:n=1
 ·subst h1;obtain⟨y,ad,hy,hy9,hA,hb,d⟩:=hx.at (i:=0) Nat.one_pos;simp only at hA;subst hA;have hl:ab m=[y]:=by
   match hh:ab m,hn with
   | [z],_=>rw[hh] at hy;simpa using hy
  have hv:m=y:=by rw[← vl m,hl];simp[val]
  have HD:Hid (((y:Int) == 1)=decide (m=1)):=by
   rw[hv];exact (by by_cases h:y=1<;>simp[h];omega:((y:Int) == 1)=decide (y=1))
  rw[add_zero] at d;clear hx hn hy hl hv hy9 hb;go_enter Tryz.func266,Tryz.ntmps266;go_wp2;go_ret;exact⟨by rw[← HD.out];rfl,Gr.refl w⟩
 ·have hd:((n:Int) == 1)=false:=by simp;omega
  have HD:Hid (decide (m=1)=false):=by
   have:decide (m=1)=false:=by
    rw[decide_eq_false_iff_not];rintro rfl;rw[fp dx dx] at hn;exact h1 hn.symm
   exact this
  clear hx hn;go_enter Tryz.func266,Tryz.ntmps266;go_wp2;go_ret;exact⟨by rw[HD.out];rfl,Gr.refl w⟩
theorem ab5 (w:World) (x:Nat) (hx:x < 18446744073709551616):Calls Tryz.prog 272 #[.int .u64 x] w fun e w'=>∃z:Sv,e=.returned z.v∧z.Num w' (ab x)∧Gr w w':=by
 obtain⟨lo,hi,hlo,hhi,e⟩:∃lo hi,lo < B32∧hi < B32∧x=lo+B32*hi:=⟨x % B32,x / B32,Nat.mod_lt _ dx,Nat.div_lt_of_lt_mul (by rw[bc];omega),(Nat.mod_add_div x B32).symm⟩;have E1:(x:Int) % 4294967296=lo:=by rw[bc] at e hlo;omega
 have E2:(x:Int) / 4294967296=hi:=by rw[bc] at e hlo hhi;omega
 have HR:Hid (Lb (w.alloc (.cells #[.int .u32 lo,.int .u32 hi] 200)) w.heap.size [lo,hi]):=Bk.made w 200 #[.int .u32 lo,.int .u32 hi];have HG:=I ((Gr.refl w).alloc (.cells #[.int .u32 lo,.int .u32 hi] 200));have HT:=I (bx _ ⟨some ⟨w.heap.size,0,none⟩,2,2⟩ [lo,hi] (fw HR (fun y hy=>by simp at hy;rcases hy with rfl | rfl<;>assumption) rfl dx));rw[show val [lo,hi]=x by rw[e];simp[val]] at HT;clear e;go_enter Tryz.func272,Tryz.ntmps272;go_wp2_with fail;refine cm1 HT fun z w1 HZ G1=>?_
 have HG1:=I (HG.trans G1);clear HT;go_wp2;go_ret;exact⟨z,rfl,HZ.out,HG1.out⟩
theorem aik {r p:Nat} (hr:r < B32) (hp:p < B32):bits .or .u64 ((r:Int)*4294967296) (p:Int)=((r*B32+p:Nat):Int):=by
 rw[bc] at*;rw[show (r:Int)*4294967296=((r*4294967296:Nat):Int) by omega,u64_or_nat _ _ om om];have:=Nat.shiftLeft_add_eq_or_of_lt (i:=32) hp r;rw[Nat.shiftLeft_eq] at this;exact congrArg _ this.symm
theorem aj1 {q:Nat} (h:q < 4294967296):IntKind.u64.wrap (q:Int) % 4294967296=(q:Int):=by rw[IntWalk.u64_in _ om];omega
theorem vn (a b:Nat):(a:Int).tmod b=((a % b:Nat):Int):=(Int.ofNat_tmod a b).symm
theorem vo (a b:Nat):(a:Int).tdiv b=((a / b:Nat):Int):=(Int.ofNat_tdiv a b).symm
theorem a95 (w:World) (x:Sv) (a:List Nat) (d:Nat) (hx:x.Num w a) (ha:a.length≤1000000) (hd0:0 < d) (hd:d < B32):
  Calls Tryz.prog 330 #[x.v,.int .u32 d] w fun e w'=>∃y z:Sv,e=.returned (.tuple #[y.v,z.v])∧y.Num w' (ab (val a / d))∧z.Num w' (ab (val a % d))∧Gr w w':=by
 obtain⟨A,n,c⟩:=x;have hn:a.length=n:=hx.len;have HN:=I hn;have HX:=I hx;have hn9:n≤1000000:=by rw[← hn];exact ha
 have hmk:=a3e n om w;have HR0:=I (Lb.made w n);have HG0:Hid (Gr w (w.alloc (.cells (Array.replicate n (.int .u32 0)) 200))):=(Gr.refl w).alloc _;have HS0:=I (DivSt.start a hd0);rw[HN.out] at HS0;have hg0:Hid (w.heap.size≤w.heap.size):=nr _;have hd9:d < 4294967296:=hd;clear hx ha hn hd;(try simp only)
 go_enter Tryz.func330,Tryz.ntmps330;go_wp2;clear hmk;generalize hge:w.heap.size=g at*;have HGE:=I hge;clear hge;go_loopw [7,8] (fun s7 i wr=>∃(k r:Nat) (o:List Nat),i=.int .i64 ((k:Int) - 1)∧s7=.int .u64 r∧k≤n∧Hid (DivSt a o d k r)∧Hid (Lb wr g o)∧Hid (Gr w wr)) (fun _ i _=>(intOf i+1).toNat)
 case atStart=>exact⟨n,0,_,rfl,rfl,nr _,HS0,HR0,HG0⟩
 case round=>
  obtain⟨k,r,o,rfl,rfl,hk,hS,hR,hG⟩:=hrel;have fz:=hR.fz;have hr9:r < d:=hS.rem;cases k with
  | zero=>
   obtain⟨e1,e2⟩:=hS.done;have hlen:o.length=n:=by rw[hS.len,HN.out]
   have HT:=I (bx wr ⟨some ⟨g,0,none⟩,n,n⟩ o (fw hR hS.lim hlen om));have HO:=I (fun W=>ab5 W r (by have:=hd9;omega));rw[e1] at HT;rw[e2] at HO;have HE2:=I e2;clear e1 e2 hlen;have h0:((0:Nat):Int) - 1=-1:=rfl;rw[h0];go_wp2_with fail;refine cm1 HT fun y w5 HY G5=>?_
   have HG5:=I (hG.trans G5);clear HT;rw[HE2.out];go_wp2_with fail;refine cm1 (HO.out w5) fun z w6 HZ G6=>?_
   have HY6:=I (HY.gr G6);have HG6:=I (HG5.trans G6);clear HO;go_wp2;go_returns;exact⟨y,z,rfl,HY6.out,HZ.out,HG6.out⟩
  | succ j=>
   have hj:(((j+1:Nat):Int) - 1)=(j:Int):=by omega
   rw[hj];obtain⟨p,ad,hp,hp9,hAe,hbl,d1⟩:=(HX.gr hG).at (i:=j) hk;(try simp only at hAe)
   subst hAe;have hB:=bc;rw[hB] at hp9;have q0:=hR.cell (hS.zer j om (by rw[HN.out];omega));have hrB:r < B32:=by rw[hB];omega
   obtain⟨s,hs⟩:∃s,s=r*B32+p:=⟨_,rfl⟩;obtain⟨hST,hq9⟩:=hS.step HX.lim hp (by rw[hB];exact hd9) hs;have HST:=I hST;have E0:=I (aik hrB (by rw[hB];exact hp9));rw[← hs] at E0;have E1:=I (vn s d);have E2:Hid (IntKind.u64.wrap ((s:Int).tdiv d) % 4294967296=((s / d:Nat):Int)):=by
    rw[vo];exact aj1 (by rw[hB] at hq9;exact hq9)
   have HL2:=I (hR.put j (s / d));have HG5:=I (hG.set (p:=⟨g,j,none⟩) (by rw[HGE.out];exact nr _) (lv (s / d)));clear hp hbl hs hST hq9 hrB hS;generalize s / d=qu at*;generalize s % d=re at*;go_wp2;go_roundw
   case rel=>
    rw[E0.out,E1.out,E2.out];exact⟨j,re,_,rfl,rfl,by omega,HST,HL2,HG5⟩
   case measure=>first | (simp[intOf];done) | (simp[intOf];omega)
end
end Go.Proofs.YtbhbainhmfjpdaaGreatDoor
