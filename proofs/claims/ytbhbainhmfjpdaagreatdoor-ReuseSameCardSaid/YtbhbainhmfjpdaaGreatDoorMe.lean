/- Walks of the search and of what it calls, part 5. -/
import Derived.Test.YtbhbainhmfjpdaaGreatDoorMd
set_option linter.unusedVariables false
set_option linter.unusedSimpArgs false
set_option maxRecDepth 100000
set_option maxHeartbeats 8000000
namespace Go.Proofs.YtbhbainhmfjpdaaGreatDoor
open Go.RowKit
def SV.nul:SV→Bool
 | .emp | .nil ..=>true
 | _=>false
theorem a3m {s:SV} {w:World} {X:Nat→Prop} {B:Nat→Nat} {T:Nat→Sv} {v:Value} (hn:s.nul=true) (h:s.Rep w X B T v):v=.slice none 0 0:=by
 cases s with
 | emp=>rw[SV.Rep] at h;exact h
 | nil e k ts=>rw[SV.Rep] at h;exact h
 | _=>cases hn
theorem List.set_getElem?_self' {α:Type}:∀{l:List α} {i:Nat} {u:α},l[i]?=some u→l.set i u=l
 | [],i,u,h=>by simp at h
 | x::l,0,u,h=>by simp at h;rw[h];rfl
 | x::l,i+1,u,h=>by simp at h;rw[List.set_cons_succ,List.set_getElem?_self' h]
theorem a3p {C:Cx} {st st':St} {a:Act} {w:World} {id e k:Nat} {ts:List Nat} (h:Inv C st a w) (hres:st.res id=none) (hk:0 < k)
  (hs:∀t s,st'.slot t=some s→st.slot t=some s∨(s=.tok id∧∃s0,st.slot t=some s0∧s0.nul=true))
  (hid:st'.res id=some (.tok e k ts []))
  (hr:∀j r,j≠id→st'.res j=some r→st.res j=some r∨∃ty cs off s0,st.res j=some (.box ty cs)∧cs[off]?=some s0∧s0.nul=true∧r=.box ty (cs.set off (.tok id)))
  (hdom:∀j,(st.res j).isSome=true→(st'.res j).isSome=true):Inv C st' a w:=by
 obtain⟨B,T,h⟩:=h
 let T':Nat→Sv:=fun i=>if i=id then Sv.none else T i
 have hT':∀i,i≠id→T' i=T i:=fun i hi=>if_neg hi
 have hTi:T' id=Sv.none:=if_pos rfl;have old:∀j r,st'.res j=some r→∀b,r.blk (B j) (T' j)=some b→j≠id∧∃r0,st.res j=some r0∧r0.blk (B j) (T j)=some b:=fun j r e b hb=>by
  by_cases hj:j=id
  ·subst hj;rw[hid] at e;injection e with e;subst e;simp only[Res.blk,hTi] at hb;cases hb
  ·rw[hT' j hj] at hb;refine⟨hj,?_⟩;rcases hr j r hj e with h1 | ⟨ty,cs,off,s0,h1,h2,h3,rfl⟩
   ·exact⟨r,h1,hb⟩
   ·exact⟨_,h1,hb⟩
 have X0:∀b,Own0 C st' B T' b→Own0 C st B T b:=fun b hb=>by
  rcases hb with hb | ⟨i,r,h1,h2⟩
  ·exact .inl hb
  ·obtain⟨_,r0,h3,h4⟩:=old i r h1 b h2;exact .inr ⟨i,r0,h3,h4⟩
 have S:∀ts,Still w w (Own0 C st B T) (Own0 C st' B T') ts:=fun ts=>⟨nr _,fun b cs t fr hx hh ht=>⟨rfl,fun hb=>hx (X0 b hb)⟩⟩
 have nid:∀i,(st.res i).isSome=true→i≠id:=fun i hi e=>by rw[e,hres] at hi;cases hi
 refine⟨B,T',h.size,h.dfr,h.gr,fun t s e=>?_,fun t s e i hi=>?_,fun i r e=>?_,fun i r e j hj=>?_,fun i r j q b e1 e2 h1 h2=>?_⟩
 ·rcases hs t s e with h1 | ⟨rfl,s0,h1,h2⟩
  ·exact (h.slot t s h1).still (S _) fun i hi=>⟨rfl,hT' i (nid i (h.live t s h1 i hi))⟩
  ·rw[SV.Rep,hTi];exact a3m h2 (h.slot t s0 h1)
 ·rcases hs t s e with h1 | ⟨rfl,s0,h1,h2⟩
  ·exact hdom i (h.live t s h1 i hi)
  ·rw[SV.ids,zH] at hi;rw[hi,hid];rfl
 ·by_cases hi:i=id
  ·subst hi;rw[hid] at e;injection e with e;subst e;refine⟨[],?_,PV.RepLL.nil,(fun r hr=>by cases hr),(by rw[hTi];rfl),hk,fun b hb=>by rw[hTi] at hb;cases hb⟩;rw[hTi];exact World.ownsRow_nil w _ _ _
  ·rcases hr i r hi e with h1 | ⟨ty,cs,off,s0,h1,h2,h3,rfl⟩
   ·have hin:=h.inn i r h1;cases r with
    | box ty cells=>
     obtain⟨g1,us,g2,g3⟩:=hin;exact⟨g1,us,g2,g3.still (S _) fun j hj=>⟨rfl,hT' j (nid j (h.alive i _ h1 j hj))⟩⟩
    | tok e k ts xs=>
     obtain⟨us,g1,g2,g3,g4⟩:=hin;refine⟨us,?_,PV.RepLL.still (ts:=ts) g2 (S _) fun r hr c hc=>((g3 r hr).2 c hc).2,g3,?_⟩
     ·rw[hT' i hi];exact g1
     ·rw[hT' i hi];exact g4
   ·obtain⟨g1,us,g2,g3⟩:=h.inn i _ h1;have g3':SV.RepL w (Own0 C st' B T') B T' cs us:=g3.still (S _) fun j hj=>⟨rfl,hT' j (nid j (h.alive i _ h1 j hj))⟩
    refine⟨g1,us,g2,?_⟩;obtain⟨u,hu,hrep⟩:=g3.at h2;have hu0:=a3m h3 hrep;have:=g3'.set (j:=off) (c:=.tok id) (u:=u) (by rw[SV.Rep,hTi];exact hu0);rw[List.set_getElem?_self' hu] at this;exact this
 ·by_cases hi:i=id
  ·subst hi;rw[hid] at e;injection e with e;subst e;cases hj
  ·rcases hr i r hi e with h1 | ⟨ty,cs,off,s0,h1,h2,h3,rfl⟩
   ·exact hdom j (h.alive i r h1 j hj)
   ·obtain⟨c,hc,hi'⟩:=wz hj;rcases List.mem_or_eq_of_mem_set hc with h4 | h4
    ·exact hdom j (h.alive i _ h1 j (gz h4 hi'))
    ·subst h4;rw[SV.ids,zH] at hi';rw[hi',hid];rfl
 ·obtain⟨_,r0,h3,h4⟩:=old i r e1 b h1;obtain⟨_,q0,h5,h6⟩:=old j q e2 b h2;exact h.apart i r0 j q0 b h3 h5 h4 h6
def St.tokS (st:St) (t id e k:Nat) (ts:List Nat):St:=⟨fun u=>bif Nat.beq u t then some (.tok id) else st.slot u,fun j=>bif Nat.beq j id then some (.tok e k ts []) else st.res j,st.tys⟩
def tksB (st:St) (t id e k:Nat):Bool:=(match st.slot t with
 | some s=>s.nul
 | none=>false)&&(match st.res id with
 | none=>true
 | some _=>false)&&st.tys.contains e&&Nat.blt 0 k
def setB (st:St) (b off id:Nat):Option Res:=match st.res b with
 | some (.box ty cs)=>some (.box ty (cs.set off (.tok id)))
 | r=>r
def St.tokB (st:St) (b off id e k:Nat) (ts:List Nat):St:=⟨st.slot,fun j=>bif Nat.beq j id then some (.tok e k ts []) else bif Nat.beq j b then setB st b off id else st.res j,st.tys⟩
def tkbB (st:St) (b off id e k:Nat):Bool:=(match st.res b with
 | some (.box ty cs)=>(match cs[off]? with
  | some s=>s.nul
  | none=>false)
 | _=>false)&&(match st.res id with
 | none=>true
 | some _=>false)&&st.tys.contains e&&Nat.blt 0 k
theorem sb:(∀{α:Type} (a b:α),cond true a b=a)∧(∀{α:Type} (a b:α),cond false a b=b)∧(∀b:Bool,(b&&true)=b)∧(∀b:Bool,(true&&b)=b)∧(∀b:Bool,(false&&b)=false)∧(∀b:Bool,(b&&false)=false)∧(∀b:Bool,(b||true)=true)∧(∀b:Bool,(true||b)=true)∧(∀b:Bool,(b||false)=b)∧(∀b:Bool,(false||b)=b)∧(!true)=false∧(!false)=true∧(∀b:Bool,(b&&b)=b)∧(∀b:Bool,(b||b)=b)∧(∀a b c:Bool,(a&&b&&c)=(a&&(b&&c)))∧(∀a b c:Bool,(a||b||c)=(a||(b||c))):=
 ⟨fun _ _=>rfl,fun _ _=>rfl,Bool.and_true,Bool.true_and,Bool.false_and,Bool.and_false,Bool.or_true,Bool.true_or,Bool.or_false,Bool.false_or,rfl,rfl,Bool.and_self,Bool.or_self,Bool.and_assoc,Bool.or_assoc⟩
section
variable {C:Cx} {st:St} {Q:Exit→St→Prop} {c:Code} {id e k:Nat} {ts:List Nat}
theorem a0z {st st':St} (h:em st st.tys) (he:st.tys.contains e=true) (ht:st'.tys=st.tys) (hid:st'.res id=some (.tok e k ts [])) (hr:∀j r,j≠id→st'.res j=some r→∃r0,st.res j=some r0∧r0.typ=r.typ):em st' st'.tys:=fun i r e0=>by
 rw[ht];by_cases hi:i=id
 ·subst hi;rw[hid] at e0;injection e0 with e0;subst e0;exact zE.1 he
 ·obtain⟨r0,h1,h2⟩:=hr i r hi e0;rw[← h2];exact h i r0 h1
theorem tks {t:Nat} (hb:tksB st t id e k=true) (h:PW C c (st.tokS t id e k ts) Q):PW C c st Q:=fun a w ht hi=>by
 unfold tksB at hb;simp only[be] at hb;obtain⟨⟨⟨h1,h2⟩,h3⟩,h4⟩:=hb;have hres:st.res id=none:=by
  cases e:st.res id with
  | none=>rfl
  | some r=>rw[e] at h2;cases h2
 have ne:∀{j:Nat} {x y:Option Res},j≠id→(bif Nat.beq j id then x else y)=y:=fun hj=>by rw[j8 hj];rfl
 refine h a w (a0z ht h3 rfl (show (bif Nat.beq id id then _ else _)=_ from by rw[Nat.beq_refl];rfl) fun j r hj e=>⟨r,(ne hj).symm.trans e,rfl⟩) (a3p hi hres (zD h4) (fun u s e=>?_) (show (bif Nat.beq id id then _ else _)=_ from by rw[Nat.beq_refl];rfl) (fun j r hj e=>.inl ((ne hj).symm.trans e)) fun j hj=>?_)
 ·simp only[St.tokS] at e;cases hu:Nat.beq u t with
  | true=>
   rw[hu] at e;injection e with e;obtain rfl:=zF hu;cases hs:st.slot u with
   | none=>rw[hs] at h1;cases h1
   | some s0=>rw[hs] at h1;exact .inr ⟨e.symm,s0,rfl,h1⟩
  | false=>rw[hu] at e;exact .inl e
 ·simp only[St.tokS];cases Nat.beq j id with
  | true=>rfl
  | false=>exact hj
theorem tkb {b off:Nat} (hb:tkbB st b off id e k=true) (h:PW C c (st.tokB b off id e k ts) Q):PW C c st Q:=fun a w ht hi=>by
 unfold tkbB at hb;simp only[be] at hb;obtain⟨⟨⟨h1,h2⟩,h3⟩,h4⟩:=hb;have hres:st.res id=none:=by
  cases e:st.res id with
  | none=>rfl
  | some r=>rw[e] at h2;cases h2
 obtain⟨ty,cs,s0,hbx,hcs,hnl⟩:∃ty cs s0,st.res b=some (.box ty cs)∧cs[off]?=some s0∧s0.nul=true:=by
  split at h1
  ·rename_i ty cs hbx
   split at h1
   ·rename_i s hs
    exact⟨ty,cs,s,hbx,hs,h1⟩
   ·cases h1
  ·cases h1
 have key:∀j r,j≠id→(st.tokB b off id e k ts).res j=some r→st.res j=some r∨∃ty cs off s0,st.res j=some (.box ty cs)∧cs[off]?=some s0∧s0.nul=true∧r=.box ty (cs.set off (.tok id)):=fun j r hj e=>by
  simp only[St.tokB] at e;rw[j8 hj] at e;cases hu:Nat.beq j b with
  | true=>
   obtain rfl:=zF hu;rw[hu] at e;simp only[cond_false,cond_true,setB,hbx] at e;injection e with e;exact .inr ⟨ty,cs,off,s0,hbx,hcs,hnl,e.symm⟩
  | false=>rw[hu] at e;exact .inl e
 have hid:(st.tokB b off id e k ts).res id=some (.tok e k ts []):=show (bif Nat.beq id id then _ else _)=_ from by rw[Nat.beq_refl];rfl
 refine h a w (a0z ht h3 rfl hid fun j r hj e=>?_) (a3p hi hres (zD h4) (fun u s e=>.inl e) hid key fun j hj=>?_)
 ·rcases key j r hj e with h5 | ⟨ty,cs,off,s0,h5,h6,h7,rfl⟩
  ·exact⟨r,h5,rfl⟩
  ·exact⟨_,h5,rfl⟩
 ·simp only[St.tokB];cases Nat.beq j id with
  | true=>rfl
  | false=>
   cases hu:Nat.beq j b with
   | true=>
    simp only[cond_false,cond_true,setB,hbx];rfl
   | false=>exact hj
end
def t7 (st:St):List (List SV)→Option (List (List PV))
 | []=>some []
 | c::cs=>match lz st c,t7 st cs with
  | some p,some ps=>some (p::ps)
  | _,_=>none
theorem r8 {st:St}:∀{cs:List (List SV)} {ps:List (List PV)},t7 st cs=some ps→CoLL st cs ps
 | [],_,h=>by rw[t7] at h;injection h with h;subst h;trivial
 | c::cs,_,h=>by
  rw[t7] at h;split at h
  ·rename_i p ps h1 h2
   injection h with h;subst h;exact⟨i8 h1,r8 h2⟩
  ·cases h
def a8k (k:Nat) (ts:List Nat) (xs:List (List PV)):Bool:=xs.all fun r=>Nat.beq r.length k&&r.all fun c=>c.cell&&c.ty.all fun t=>ts.contains t
theorem qe {k:Nat} {ts:List Nat} {xs:List (List PV)} (h:a8k k ts xs=true):pn k ts xs:=fun r hr=>by
 have h1:=zG.1 h r hr;rw[be] at h1;refine⟨zF h1.1,fun c hc=>?_⟩;have h2:=zG.1 h1.2 c hc;rw[be] at h2;exact⟨h2.1,fun t ht=>zE.1 (zG.1 h2.2 t ht)⟩
def litB (tab:Tab) (st:St) (l:Lay) (n:Nat) (parts:Array (Nat×Operand)) (ss:List (List SV)) (xs:List (List PV)):Bool:=Nat.beq n parts.size&&Nat.blt 0 n&&Nat.blt 0 l.esz&&Nat.ble (n*l.esz) 16777216&&ajh st (ft ss)&&a8k l.esz l.ets xs&&(match tab.get l.elem with
 | some le=>Nat.beq le.zero.length l.esz
 | none=>false)
section
variable {T:List Nat} {Z:Nat} {D:Dom Tryz.prog T Z} {N:Nat} {st:St} {Q:Exit→St→Prop} {ops:List Oper} {draw:Bool} {acc:List Itm} {k t:Nat} {ks ks':List Nat} {dst:Option Nat} {ty:TypeId} {ps:String} {af:Array Edge} {gd:Option (Nat×Bool)} {st1:St} {L:List Itm} {x y:Operand}
theorem rl {ks ks':List Nat} {n:Nat} {parts:Array (Nat×Operand)} {l:Lay} {ss:List (List SV)} {xs:List (List PV)} {st1:St} {L:List Itm} (hk:nthL ops k=some ⟨dst,.buildSlice t n parts,ty,ps,af,gd⟩) (hw:co ops.toArray ⟨dst,.buildSlice t n parts,ty,ps,af,gd⟩ st=some true) (hd:dstB ⟨dst,.buildSlice t n parts,ty,ps,af,gd⟩ N Z=true) (hl:tab.get t=some l) (hs:litL st l.esz parts.toList 0=some ss) (hco:t7 st ss=some xs) (hc:litB tab st l n parts ss xs=true)
  (ha:l6 tab N Z ops ks ((valE (.pv (.rows l.elem l.esz l.ets xs)) (ft ss)).app dst st)=some (L,ks',st1)) (next:Reg (D.cx N) ops draw Q (acc++[⟨k,true,valE (.pv (.rows l.elem l.esz l.ets xs)) (ft ss),lkOf ops k st (valE (.pv (.rows l.elem l.esz l.ets xs)) (ft ss))⟩]++L) ks' st1):Reg (D.cx N) ops draw Q acc (k::ks) st:=by
 unfold litB at hc;simp only[be] at hc;obtain⟨⟨⟨⟨⟨⟨h1,h2⟩,h3⟩,h4⟩,h5⟩,h6⟩,h7⟩:=hc;refine dh hk hw hd (fun hd=>aad (tab:=tab) ah rfl hl ?_ hs (zF h1) (zD h2) (r8 hco) h5 (qe h6) (zD h3) (zD h4) hd) (gp (C:=D.cx N) ah ha next);split at h7
 ·rename_i le hle
  exact⟨le,hle,zF h7⟩
 ·cases h7
theorem rbe {ks ks':List Nat} {op:BinOp} {t2:Nat} {b c:Bool} {st1:St} {L:List Itm} (r:Bool) (hk:nthL ops k=some ⟨dst,.binOp op t x y t2,ty,ps,af,gd⟩) (hw:co ops.toArray ⟨dst,.binOp op t x y t2,ty,ps,af,gd⟩ st=some true) (hd:dstB ⟨dst,.binOp op t x y t2,ty,ps,af,gd⟩ N Z=true) (hx:ev st x=some (.pv (.raw (.bool b)))) (hy:ev st y=some (.pv (.raw (.bool c)))) (hu:Tryz.prog.underlying t=some .bool) (hop:(op=.eql∧r=(b == c))∨(op=.neq∧r=(b != c)))
  (ha:l6 tab N Z ops ks ((valE (.pv (.raw (.bool r))) []).app dst st)=some (L,ks',st1)) (next:Reg (D.cx N) ops draw Q (acc++[⟨k,true,valE (.pv (.raw (.bool r))) [],lkOf ops k st (valE (.pv (.raw (.bool r))) [])⟩]++L) ks' st1):Reg (D.cx N) ops draw Q acc (k::ks) st:=
 dh hk hw hd (fun hd=>aaj (C:=D.cx N) op r rfl hx hy hu hop hd) (gp (C:=D.cx N) ah ha next)
end
def ani (P:Program) (t e size bytes:Nat):Bool:=(match P.underlying t with
 | some (.slice e')=>Nat.beq e' e
 | _=>false)&&(match P.info? e with
 | some i=>Nat.beq i.size size&&Nat.beq i.bytes bytes&&(match i.zero with
  | some z=>Nat.beq z.cells.size size
  | none=>false)
 | none=>false)&&Nat.blt 0 size
theorem jd {P:Program} {t e size bytes:Nat} (h:ani P t e size bytes=true):ElemS P t e size bytes:=by
 unfold ani at h;simp only[be] at h;obtain⟨⟨h1,h2⟩,h3⟩:=h;refine⟨?_,?_,zD h3⟩
 ·split at h1
  ·rename_i e' hu;rw[hu,zF h1]
  ·cases h1
 ·split at h2
  ·rename_i i hi
   simp only[be] at h2;obtain⟨⟨h4,h5⟩,h6⟩:=h2;split at h6
   ·rename_i z hz
    exact⟨i,z,hi,hz,zF h4,zF h5,zF h6⟩
   ·cases h6
  ·cases h2
theorem a3y:ElemS Tryz.prog 31 138 4 64:=jd (by kernel_rfl)
theorem x8:ElemS Tryz.prog 25 37 4 80:=jd (by kernel_rfl)
theorem ah7:ElemS Tryz.prog 28 35 3 56:=jd (by kernel_rfl)
theorem gg:ElemS Tryz.prog 44 98 7 88:=jd (by kernel_rfl)
theorem el_Lemma:ElemS Tryz.prog 40 100 6 96:=jd (by kernel_rfl)
theorem el_Decision:ElemS Tryz.prog 75 42 5 72:=jd (by kernel_rfl)
theorem abv:ElemS Tryz.prog 43 46 9 152:=jd (by kernel_rfl)
theorem jc:ElemS Tryz.prog 51 77 10 176:=jd (by kernel_rfl)
theorem a6d:ElemS Tryz.prog 110 113 10 176:=jd (by kernel_rfl)
def St.putB (st:St) (t:Nat) (b:Bool):St:=⟨fun u=>bif Nat.beq u t then some (.pv (.raw (.bool b))) else st.slot u,st.res,st.tys⟩
theorem ql {st:St} {t:Nat} {b:Bool} (h:st.slot t=some (.pv (.raw (.bool b)))):st.putB t b=st:=by
 obtain⟨sl,rs,ts⟩:=st;unfold St.putB
 congr 1
 funext u
 cases hu:Nat.beq u t with
 | true=>obtain rfl:=zF hu;exact h.symm
 | false=>rfl
section
variable {T:List Nat} {Z:Nat} {D:Dom Tryz.prog T Z} {N:Nat} {st:St} {Q:Exit→St→Prop} {ops:List Oper} {draw:Bool} {acc:List Itm} {ks:List Nat} {b:Bool} {y x:Operand} {id k t t2:Nat} {dst:Option Nat} {ty:TypeId} {ps:String} {af:Array Edge} {gd:Option (Nat×Bool)} {op:BinOp} {kd:IntKind} {m n:Int}
theorem rsp (t:Nat) (hs:st.slot t=some (.pv (.raw (.bool b)))) (ht:b=true→Reg (D.cx N) ops draw Q acc ks (st.putB t true)) (hf:b=false→Reg (D.cx N) ops draw Q acc ks (st.putB t false)):Reg (D.cx N) ops draw Q acc ks st:=by
 cases b with
 | true=>have:=ht rfl;rwa [ql hs] at this
 | false=>have:=hf rfl;rwa [ql hs] at this
theorem pcut {x y:Code} {sl:List (Nat×SV)} {rs:List (Nat×Res)} (h1:W D N x st (Then (fun st'=>Sub (St.of sl rs st.tys) st') Q)) (h2:W D N y (St.of sl rs st.tys) Q):W D N (.seq x y) st Q:=
 ps (fun a w ht hi=>Code.wp_mono (fun e a w hq=>by
  obtain⟨st',g1,g2,g3⟩:=hq;cases e with
  | normal=>exact⟨st',ez g1 h2,g2,g3⟩
  | _=>exact⟨st',g1,g2,g3⟩) (h1 a w ht hi))
theorem pr0 {y:Code} (next:Reg (D.cx N) ops draw (Then (fun st'=>W D N y st' Q) Q) [] (List.range ops.length) st):W D N (.seq (.region id ops.toArray draw) y) st Q:=y5 (a1h next)
theorem pr0' (next:Reg (D.cx N) ops draw Q [] (List.range ops.length) st):W D N (.region id ops.toArray draw) st Q:=a1h next
theorem rgn (m:Nat) {ks':List Nat} {st1:St} {L:List Itm} (hk:ks.drop m=ks') (ha:l6 tab N Z ops (ks.take m) st=some (L,[],st1)) (next:Reg (D.cx N) ops draw Q (acc++L) ks' st1):Reg (D.cx N) ops draw Q acc ks st:=by
 obtain⟨g1,g2⟩:=ri (C:=D.cx N) (L':=[]) (st':=st1) ah ha rfl (by rw[RunL]);rw[List.append_nil] at g1 g2;exact a37 g1 (rh (C:=D.cx N) ha) (by rw[g2,← hk,List.take_append_drop]) next
theorem ro0 {op:Op} {e:Eff} (ho:nthL ops k=some ⟨dst,op,ty,ps,af,gd⟩) (hw:co ops.toArray ⟨dst,op,ty,ps,af,gd⟩ st=some true) (hd:dstB ⟨dst,op,ty,ps,af,gd⟩ N Z=true) (h:(∀d,dst=some d→d < N∧Z≤d)→OpE (D.cx N) st.tys ⟨dst,op,ty,ps,af,gd⟩ st e) (next:Reg (D.cx N) ops draw Q (acc++[⟨k,true,e,lkOf ops k st (e)⟩]) ks (e.app dst st)):Reg (D.cx N) ops draw Q acc (k::ks) st:=dh ho hw hd h next
theorem rc0 {c:Call} {f:FuncId} {ss:List SV} {ps:List PV} {res:PV} {Tg:List Nat} {pos:String} (hp:PCalls Tryz.prog Tg f ps res) (hk:nthL ops k=some ⟨dst,.call c,ty,pos,af,gd⟩) (hw:co ops.toArray ⟨dst,.call c,ty,pos,af,gd⟩ st=some true) (hd:dstB ⟨dst,.call c,ty,pos,af,gd⟩ N Z=true) (hc:c.callee=.value (.func f)) (ha:evL st c.args.toList=some ss) (hco:lz st ss=some ps) (hT:(Tg.all (fun t=>T.contains t)&&(Tg.all (fun t=>!st.tys.contains t)&&ta st (SV.idsL ss) res.ty))=true) (next:Reg (D.cx N) ops draw Q (acc++[⟨k,true,valE (.pv res) (SV.idsL ss),lkOf ops k st (valE (.pv res) (SV.idsL ss))⟩]) ks ((valE (.pv res) (SV.idsL ss)).app dst st)):Reg (D.cx N) ops draw Q acc (k::ks) st:=a4y (C:=D.cx N) hp hk hw hd hc ha hco hT next
theorem qd {c:Call} {f:FuncId} {ss:List SV} {ps:List PV} {res:PV} {Tg:List Nat} {pos:String} (hp:PCalls Tryz.prog Tg f ps res) (next:Reg (D.cx N) ops draw Q (acc++[⟨k,true,valE (.pv res) (SV.idsL ss),lkOf ops k st (valE (.pv res) (SV.idsL ss))⟩]) ks ((valE (.pv res) (SV.idsL ss)).app dst st)) (hk:nthL ops k=some ⟨dst,.call c,ty,pos,af,gd⟩:=by exact rfl) (hw:co ops.toArray ⟨dst,.call c,ty,pos,af,gd⟩ st=some true:=by exact rfl) (hd:dstB ⟨dst,.call c,ty,pos,af,gd⟩ N Z=true:=by exact rfl) (hc:c.callee=.value (.func f):=by exact rfl) (ha:evL st c.args.toList=some ss:=by exact rfl) (hco:lz st ss=some ps:=by exact rfl) (hT:(Tg.all (fun t=>T.contains t)&&(Tg.all (fun t=>!st.tys.contains t)&&ta st (SV.idsL ss) res.ty))=true:=by exact rfl):Reg (D.cx N) ops draw Q acc (k::ks) st:=rc0 hp hk hw hd hc ha hco hT next
theorem qg (m:Nat) {ks':List Nat} {st1:St} {L:List Itm} (next:Reg (D.cx N) ops draw Q (acc++L) ks' st1) (hk:ks.drop m=ks':=by exact rfl) (ha:l6 tab N Z ops (ks.take m) st=some (L,[],st1):=by exact rfl):Reg (D.cx N) ops draw Q acc ks st:=rgn m hk ha next
theorem qc (next:Reg (D.cx N) ops draw Q (acc++[⟨k,true,valE (.pv (.raw (.bool b))) [],lkOf ops k st (valE (.pv (.raw (.bool b))) [])⟩]) ks ((valE (.pv (.raw (.bool b))) []).app dst st)) (hk:nthL ops k=some ⟨dst,.binOp op t x y t2,ty,ps,af,gd⟩:=by exact rfl) (hw:co ops.toArray ⟨dst,.binOp op t x y t2,ty,ps,af,gd⟩ st=some true:=by exact rfl) (hd:dstB ⟨dst,.binOp op t x y t2,ty,ps,af,gd⟩ N Z=true:=by exact rfl) (hx:ev st x=some (.pv (.raw (.int kd m))):=by exact rfl) (hy:ev st y=some (.pv (.raw (.int kd n))):=by exact rfl) (hb:cmpO op m n=some b:=by exact rfl):Reg (D.cx N) ops draw Q acc (k::ks) st:=ro0 hk hw hd (fun h=>ot rfl hx hy hb h) next
theorem qk (hk:nthL ops k=some ⟨dst,.binOp op t x y t2,ty,ps,af,gd⟩) (hw:co ops.toArray ⟨dst,.binOp op t x y t2,ty,ps,af,gd⟩ st=some true) (hd:dstB ⟨dst,.binOp op t x y t2,ty,ps,af,gd⟩ N Z=true) (hx:ev st x=some (.pv (.raw (.int kd m)))) (hy:ev st y=some (.pv (.raw (.int kd n)))) (hb:cmpO op m n=some b) (next:Reg (D.cx N) ops draw Q (acc++[⟨k,true,valE (.pv (.raw (.bool b))) [],lkOf ops k st (valE (.pv (.raw (.bool b))) [])⟩]) ks ((valE (.pv (.raw (.bool b))) []).app dst st)):Reg (D.cx N) ops draw Q acc (k::ks) st:=ro0 hk hw hd (fun h=>ot rfl hx hy hb h) next
theorem qa {z:Int} (hk:nthL ops k=some ⟨dst,.binOp op t x y t2,ty,ps,af,gd⟩) (hw:co ops.toArray ⟨dst,.binOp op t x y t2,ty,ps,af,gd⟩ st=some true) (hd:dstB ⟨dst,.binOp op t x y t2,ty,ps,af,gd⟩ N Z=true) (hx:ev st x=some (.pv (.raw (.int kd m)))) (hy:ev st y=some (.pv (.raw (.int kd n)))) (hb:ariO op kd m n=some z) (next:Reg (D.cx N) ops draw Q (acc++[⟨k,true,valE (.pv (.raw (.int kd z))) [],lkOf ops k st (valE (.pv (.raw (.int kd z))) [])⟩]) ks ((valE (.pv (.raw (.int kd z))) []).app dst st)):Reg (D.cx N) ops draw Q acc (k::ks) st:=ro0 hk hw hd (fun h=>aje rfl hx hy hb h) next
theorem rl0 {ks:List Nat} {n:Nat} {parts:Array (Nat×Operand)} {l:Lay} {ss:List (List SV)} {xs:List (List PV)} (hk:nthL ops k=some ⟨dst,.buildSlice t n parts,ty,ps,af,gd⟩) (hw:co ops.toArray ⟨dst,.buildSlice t n parts,ty,ps,af,gd⟩ st=some true) (hd:dstB ⟨dst,.buildSlice t n parts,ty,ps,af,gd⟩ N Z=true) (hl:tab.get t=some l) (hs:litL st l.esz parts.toList 0=some ss) (hco:t7 st ss=some xs) (hc:litB tab st l n parts ss xs=true)
  (next:Reg (D.cx N) ops draw Q (acc++[⟨k,true,valE (.pv (.rows l.elem l.esz l.ets xs)) (ft ss),lkOf ops k st (valE (.pv (.rows l.elem l.esz l.ets xs)) (ft ss))⟩]) ks ((valE (.pv (.rows l.elem l.esz l.ets xs)) (ft ss)).app dst st)):Reg (D.cx N) ops draw Q acc (k::ks) st:=by
 unfold litB at hc;simp only[be] at hc;obtain⟨⟨⟨⟨⟨⟨h1,h2⟩,h3⟩,h4⟩,h5⟩,h6⟩,h7⟩:=hc;refine dh hk hw hd (fun hd=>aad (tab:=tab) ah rfl hl ?_ hs (zF h1) (zD h2) (r8 hco) h5 (qe h6) (zD h3) (zD h4) hd) next;split at h7
 ·rename_i le hle
  exact⟨le,hle,zF h7⟩
 ·cases h7
theorem rp0 {ks:List Nat} {e kk bytes:Nat} {ts ts2:List Nat} {xs ys:List (List PV)} {s:SV} (hE:ElemS Tryz.prog t e kk bytes) (hlen:xs.length+ys.length≤100000000) (hk:nthL ops k=some ⟨dst,.call { callee:=.builtin .append,args:=#[x,y],argTypes:=#[t,t] },ty,ps,af,gd⟩) (hw:co ops.toArray ⟨dst,.call { callee:=.builtin .append,args:=#[x,y],argTypes:=#[t,t] },ty,ps,af,gd⟩ st=some true) (hd:dstB ⟨dst,.call { callee:=.builtin .append,args:=#[x,y],argTypes:=#[t,t] },ty,ps,af,gd⟩ N Z=true) (hx:ev st x=some (.tok id)) (hr:st.res id=some (.tok e kk ts xs)) (hy:ev st y=some s) (hco:coSV st s=some (.rows e kk ts2 ys)) (hc:(s.ids.isEmpty&&ts2.all (fun t=>ts.contains t)&&st.tys.contains e&&Nat.ble bytes 1000)=true)
  (next:Reg (D.cx N) ops draw Q (acc++[⟨k,true,⟨.tok id,some (id,.tok e kk ts (xs++ys)),[id],true⟩,lkOf ops k st (⟨.tok id,some (id,.tok e kk ts (xs++ys)),[id],true⟩:Eff)⟩]) ks ((⟨.tok id,some (id,.tok e kk ts (xs++ys)),[id],true⟩:Eff).app dst st)):Reg (D.cx N) ops draw Q acc (k::ks) st:=by
 simp only[be] at hc;obtain⟨⟨⟨h1,h2⟩,h3⟩,h4⟩:=hc;have h4:=zD h4;have h5:(xs.length+ys.length)*bytes≤100000000*1000:=Nat.mul_le_mul hlen h4;exact dh hk hw hd (fun hd=>a3j hE rfl (.inl ⟨hx,hr⟩) hy (io hco) (List.isEmpty_iff.1 h1) (fun t ht=>zE.1 (zG.1 h2 t ht)) (zE.1 h3) (by unfold maxLen;omega) om hd) next
theorem rpn0 {ks:List Nat} {e kk bytes:Nat} {ts2:List Nat} {ys:List (List PV)} {s s0:SV} (id:Nat) (hE:ElemS Tryz.prog t e kk bytes) (hlen:ys.length≤100000000) (hk:nthL ops k=some ⟨dst,.call { callee:=.builtin .append,args:=#[x,y],argTypes:=#[t,t] },ty,ps,af,gd⟩) (hw:co ops.toArray ⟨dst,.call { callee:=.builtin .append,args:=#[x,y],argTypes:=#[t,t] },ty,ps,af,gd⟩ st=some true) (hd:dstB ⟨dst,.call { callee:=.builtin .append,args:=#[x,y],argTypes:=#[t,t] },ty,ps,af,gd⟩ N Z=true) (hx:ev st x=some s0) (hx0:s0.nul=true) (hr:st.res id=none) (hy:ev st y=some s) (hco:coSV st s=some (.rows e kk ts2 ys)) (hc:(s.ids.isEmpty&&st.tys.contains e&&Nat.ble bytes 1000)=true)
  (next:Reg (D.cx N) ops draw Q (acc++[⟨k,true,⟨.tok id,some (id,.tok e kk ts2 ys),[id],true⟩,lkOf ops k st (⟨.tok id,some (id,.tok e kk ts2 ys),[id],true⟩:Eff)⟩]) ks ((⟨.tok id,some (id,.tok e kk ts2 ys),[id],true⟩:Eff).app dst st)):Reg (D.cx N) ops draw Q acc (k::ks) st:=by
 simp only[be] at hc;obtain⟨⟨h1,h3⟩,h4⟩:=hc;have h4:=zD h4;have h5:(0+ys.length)*bytes≤100000000*1000:=Nat.mul_le_mul om h4;have h6:ev st x=some .emp∨∃e k ts,ev st x=some (.nil e k ts):=by
  cases s0 with
  | emp=>exact .inl hx
  | nil e k ts=>exact .inr ⟨e,k,ts,hx⟩
  | _=>cases hx0
 exact dh hk hw hd (fun hd=>a3j (xs:=[]) hE rfl (.inr ⟨h6,hr,rfl⟩) hy (io hco) (List.isEmpty_iff.1 h1) (fun t ht=>ht) (zE.1 h3) (by unfold maxLen;simp;omega) (by simp at h5 ⊢;omega) hd) next
theorem re0 {ks:List Nat} {c:Bool} (r:Bool) (hk:nthL ops k=some ⟨dst,.binOp op t x y t2,ty,ps,af,gd⟩) (hw:co ops.toArray ⟨dst,.binOp op t x y t2,ty,ps,af,gd⟩ st=some true) (hd:dstB ⟨dst,.binOp op t x y t2,ty,ps,af,gd⟩ N Z=true) (hx:ev st x=some (.pv (.raw (.bool b)))) (hy:ev st y=some (.pv (.raw (.bool c)))) (hu:Tryz.prog.underlying t=some .bool) (hop:(op=.eql∧r=(b == c))∨(op=.neq∧r=(b != c)))
  (next:Reg (D.cx N) ops draw Q (acc++[⟨k,true,valE (.pv (.raw (.bool r))) [],lkOf ops k st (valE (.pv (.raw (.bool r))) [])⟩]) ks ((valE (.pv (.raw (.bool r))) []).app dst st)):Reg (D.cx N) ops draw Q acc (k::ks) st:=
 dh hk hw hd (fun hd=>aaj (C:=D.cx N) op r rfl hx hy hu hop hd) next
theorem pif2 {x y:Code} (hs:st.slot t=some (.pv (.raw (.bool b)))) (ht:b=true→W D N x (st.putB t true) Q) (hf:b=false→W D N y (st.putB t false) Q):W D N (.cond (.tmp t) x y) st Q:=pif (b:=b) (show ev st (.tmp t)=_ by simp only[ev,hs]) (fun e=>by have:=ht e;subst e;rwa [ql hs] at this) (fun e=>by have:=hf e;subst e;rwa [ql hs] at this)
end
def Aut (g g':Prop):Prop:=g→g'
def Aut2 (g h g':Prop):Prop:=g→h→g'
section
variable {T:List Nat} {Z:Nat} {D:Dom Tryz.prog T Z} {N:Nat} {st:St} {Q:Exit→St→Prop} {ops:List Oper} {draw:Bool} {acc:List Itm} {k t:Nat} {ks:List Nat} {x y:Code} {b:Bool}
theorem aqe {st1:St} {L:List Itm} (next:Reg (D.cx N) ops draw Q (acc++L) ks st1) (ha:l6 tab N Z ops [k] st=some (L,[],st1):=by exact rfl):Reg (D.cx N) ops draw Q acc (k::ks) st:=rgn 1 rfl ha next
theorem rnF (q:Q .normal st):Reg (D.cx N) ops false Q acc [] st:=rn rfl q
theorem rnT (q:Q .normal st) (hc:(js ops.toArray (bq ops.toArray)&&jt (bq ops.toArray) acc)=true:=by kernel_rfl):Reg (D.cx N) ops true Q acc [] st:=rn hc q
theorem aI {c:Operand} (h:W D N x st Q) (hc:ev st c=some (.pv (.raw (.bool true))):=by exact rfl):W D N (.cond c x y) st Q:=pif hc (fun _=>h) (fun e=>by cases e)
theorem aJ {c:Operand} (h:W D N y st Q) (hc:ev st c=some (.pv (.raw (.bool false))):=by exact rfl):W D N (.cond c x y) st Q:=pif hc (fun e=>by cases e) (fun _=>h)
theorem rsg {dst:Option Nat} {op:Op} {ty:TypeId} {ps:String} {af:Array Edge} {g:Nat} {wn:Bool} (ht:b=true→Reg (D.cx N) ops draw Q acc (k::ks) (st.putB t true)) (hf:b=false→Reg (D.cx N) ops draw Q acc (k::ks) (st.putB t false)) (hk:nthL ops k=some ⟨dst,op,ty,ps,af,some (g,wn)⟩:=by exact rfl) (hg:(ops.toArray[g]?).bind (·.dst)=some t:=by exact rfl) (hs:st.slot t=some (.pv (.raw (.bool b))):=by exact rfl):Reg (D.cx N) ops draw Q acc (k::ks) st:=rsp t hs ht hf
theorem rsq {dst:Option Nat} {x y:Operand} {ty:TypeId} {ps:String} {af:Array Edge} {gd:Option (Nat×Bool)} (ht:b=true→Reg (D.cx N) ops draw Q acc (k::ks) (st.putB t true)) (hf:b=false→Reg (D.cx N) ops draw Q acc (k::ks) (st.putB t false)) (hk:nthL ops k=some ⟨dst,.pick (.tmp t) x y,ty,ps,af,gd⟩:=by exact rfl) (hs:st.slot t=some (.pv (.raw (.bool b))):=by exact rfl):Reg (D.cx N) ops draw Q acc (k::ks) st:=rsp t hs ht hf
theorem pig (ht:b=true→W D N x (st.putB t true) Q) (hf:b=false→W D N y (st.putB t false) Q) (hs:st.slot t=some (.pv (.raw (.bool b))):=by exact rfl):W D N (.cond (.tmp t) x y) st Q:=pif2 hs ht hf
end
theorem rlA {k:Nat} {ks:List Nat} {dst:Option Nat} {t n:Nat} {parts:Array (Nat×Operand)} {ty:TypeId} {ps:String} {af:Array Edge} {gd:Option (Nat×Bool)} {l:Lay} {ss:List (List SV)} {xs:List (List PV)} {T:List Nat} {Z:Nat} {D:Dom Tryz.prog T Z} {N:Nat} {st:St} {Q:Exit→St→Prop} {ops:List Oper} {draw:Bool} {acc:List Itm} (next:Reg (D.cx N) ops draw Q (acc++[⟨k,true,valE (.pv (.rows l.elem l.esz l.ets xs)) (ft ss),lkOf ops k st (valE (.pv (.rows l.elem l.esz l.ets xs)) (ft ss))⟩]) ks ((valE (.pv (.rows l.elem l.esz l.ets xs)) (ft ss)).app dst st)) (hk:nthL ops k=some ⟨dst,.buildSlice t n parts,ty,ps,af,gd⟩:=by exact rfl) (hw:co ops.toArray ⟨dst,.buildSlice t n parts,ty,ps,af,gd⟩ st=some true:=by exact rfl) (hd:dstB ⟨dst,.buildSlice t n parts,ty,ps,af,gd⟩ N Z=true:=by exact rfl) (hl:tab.get t=some l:=by exact rfl) (hs:litL st l.esz parts.toList 0=some ss:=by exact rfl) (hco:t7 st ss=some xs:=by exact rfl) (hc:litB tab st l n parts ss xs=true:=by exact rfl):Reg (D.cx N) ops draw Q acc (k::ks) st:=rl0 hk hw hd hl hs hco hc next
theorem au {g g':Prop} (k:g) (h:Aut g g':=by intro h;(repeat (first | refine aqe ?_ | refine qc ?_ | refine rlA ?_ | refine rnF ?_ | refine rnT ?_ | refine pr0 ?_ | refine pr0' ?_ | refine ps ?_ | refine pk ?_ | refine pb ?_ | refine px ?_ | refine pt ?_ | refine aI ?_ | refine aJ ?_));exact h):g':=h k
theorem ao {g g':Prop} (k:g) (h:Aut g g':=by intro h;(repeat (first | refine aqe ?_ | refine rlA ?_ | refine rnF ?_ | refine rnT ?_ | refine pr0 ?_ | refine pr0' ?_ | refine ps ?_ | refine pk ?_ | refine pb ?_ | refine px ?_ | refine pt ?_ | refine aI ?_ | refine aJ ?_));exact h):g':=h k
theorem a2 {g h g':Prop} (k:g) (l:h) (hh:Aut2 g h g':=by intro h l;(refine au ?_);first | exact rsg h l | exact rsq h l | exact pig h l):g':=hh k l
theorem qkl {T:List Nat} {Z:Nat} {D:Dom Tryz.prog T Z} {N:Nat} {st:St} {Q:Exit→St→Prop} {ops:List Oper} {draw:Bool} {acc:List Itm} {k:Nat} {ks:List Nat} {dst:Option Nat} {op:BinOp} {t t2:Nat} {x y:Operand} {ty:TypeId} {ps:String} {af:Array Edge} {gd:Option (Nat×Bool)} {kd:IntKind} {m n:Int} {b0 b:Bool} (hk:nthL ops k=some ⟨dst,.binOp op t x y t2,ty,ps,af,gd⟩) (hw:co ops.toArray ⟨dst,.binOp op t x y t2,ty,ps,af,gd⟩ st=some true) (hd:dstB ⟨dst,.binOp op t x y t2,ty,ps,af,gd⟩ N Z=true) (hx:ev st x=some (.pv (.raw (.int kd m)))) (hy:ev st y=some (.pv (.raw (.int kd n)))) (h0:cmpO op m n=some b0) (hb:b0=b) (next:Reg (D.cx N) ops draw Q (acc++[⟨k,true,valE (.pv (.raw (.bool b))) [],lkOf ops k st (valE (.pv (.raw (.bool b))) [])⟩]) ks ((valE (.pv (.raw (.bool b))) []).app dst st)):Reg (D.cx N) ops draw Q acc (k::ks) st:=qk hk hw hd hx hy (h0.trans (congrArg some hb)) next
theorem akT {C g g':Prop} (k:g) (h:Aut2 C g g':=by intro c h;(refine ao ?_);exact qkl (b:=true) rfl rfl rfl rfl rfl rfl c h) (c:C):g':=h c k
theorem akF {C g g':Prop} (k:g) (h:Aut2 C g g':=by intro c h;(refine ao ?_);exact qkl (b:=false) rfl rfl rfl rfl rfl rfl c h) (c:C):g':=h c k
theorem ac {C g g':Prop} (k:g) (h:Aut2 C g g':=by intro c h;(refine au ?_);exact qd c h) (c:C):g':=h c k
theorem aa {C g g':Prop} (k:g) (h:Aut2 C g g':=by intro c h;(refine au ?_);exact qa rfl rfl rfl rfl rfl c h) (c:C):g':=h c k
theorem ax {C g g':Prop} (k:g) (h:Aut2 C g g':=by intro c h;(refine au ?_);exact ro0 rfl rfl rfl (fun hd=>cg ah rfl rfl rfl rfl rfl dx rfl c hd) h) (c:C):g':=h c k
theorem ay {Z C g g':Prop} (k:g) (h:Z→Aut2 C g g':=by intro z c h;(refine au ?_);exact ro0 rfl rfl rfl (fun hd=>cg ah rfl rfl rfl rfl rfl dx z c hd) h) (z:Z) (c:C):g':=h z c k
theorem ar {C g':Prop} (h:Aut C g':=by intro c;(refine au ?_);exact xm rfl c) (c:C):g':=h c
theorem pcA {T:List Nat} {f:FuncId} {args:List PV} {res:PV} {fn:Func} {c:Code} (tys:List Nat) (hf:(Tryz.prog).funcs[f]?=some fn) (h:∀D:Dom Tryz.prog T 0,W D fn.ntmps c (St.init args tys) (RetQ Tryz.prog tab fn res)) (hcall:fv Tryz.prog f=true:=by kernel_rfl) (hb:fn.body=some c:=by exact rfl) (hn:Nat.ble args.length fn.ntmps=true:=by exact rfl):PCalls Tryz.prog T f args res:=pc tys hcall hf hb hn h
section
variable {C:Cx} {st:St} {a:Act} {w w':World} {B:Nat→Nat} {T:Nat→Sv} {e k:Nat}
theorem ak1 (h:InvB C st a w B T) {id:Nat} {ts:List Nat} {xs xs':List (List PV)} {us':List (List Value)} {rb:List Nat} {s:SV} (hr:st.res id=some (.tok e k ts xs)) (hb:w'.ownsRow 0 e k (T id).v (T id).n us'.flatten) (F:Fr (fun b=>(T id).v.ownBlock=some b) w w') (hs:(∀tq,Still w w' (Own0 C st B T) (Own0 C (Eff.app ⟨s,some (id,.tok e k ts xs'),rb,false⟩ none st) B T) tq)→PV.RepLL w' (Own0 C (Eff.app ⟨s,some (id,.tok e k ts xs'),rb,false⟩ none st) B T) xs' us') (hok:pn k ts xs') (hn:xs'.length=xs.length):
  Inv C (Eff.app ⟨s,some (id,.tok e k ts xs'),rb,false⟩ none st) a w':=by
 obtain⟨us0,o1,o2,o3,o4,o5,o6⟩:=h.inn id _ hr;have hres:∀j,(Eff.app ⟨s,some (id,.tok e k ts xs'),rb,false⟩ none st).res j=if j=id then some (.tok e k ts xs') else st.res j:=fun j=>by
  simp only[Eff.app];by_cases e:j=id
  ·rw[if_pos e,e,Nat.beq_refl];rfl
  ·rw[if_neg e,j8 e];rfl
 have hX:∀b,Own0 C (Eff.app ⟨s,some (id,.tok e k ts xs'),rb,false⟩ none st) B T b→Own0 C st B T b:=fun b hb=>by
  rcases hb with hb | ⟨i,r,hi,hb⟩
  ·exact .inl hb
  ·rw[hres] at hi;by_cases e:i=id
   ·rw[if_pos e] at hi;injection hi with hi;subst hi;exact .inr ⟨id,_,hr,by rw[← e];exact hb⟩
   ·rw[if_neg e] at hi;exact .inr ⟨i,r,hi,hb⟩
 have S:∀tq,Still w w' (Own0 C st B T) (Own0 C (Eff.app ⟨s,some (id,.tok e k ts xs'),rb,false⟩ none st) B T) tq:=fun ts'=>by
  refine⟨F.size,fun b cs t fr hx hh ht=>?_⟩;have hlt:b < w.heap.size:=by
   rcases zU b w.heap.size with h | h
   ·exact h
   ·rw[zR h] at hh;cases hh
  exact⟨F.keep b hlt fun e=>hx (.inr ⟨id,_,hr,e⟩),fun hb=>hx (hX b hb)⟩
 have alive':∀j,(st.res j).isSome=true→((Eff.app ⟨s,some (id,.tok e k ts xs'),rb,false⟩ none st).res j).isSome=true:=fun j hj=>by
  rw[hres];split
  ·rfl
  ·exact hj
 have oth:∀i r b,st.res i=some r→i≠id→r.blk (B i) (T i)=some b→(T id).v.ownBlock≠some b:=fun i r b e hne hb he=>hne (h.apart i r id _ b e hr hb he)
 refine⟨B,T,h.size,h.dfr,h.gr.step F fun b _ e=>o6 b e,fun t s' e=>(h.slot t s' e).still (S _) fun _ _=>⟨rfl,rfl⟩,fun t s' e i hi=>alive' i (h.live t s' e i hi),fun i r e=>?_,fun i r e j hj=>?_,fun i r j q b hi hj h1 h2=>?_⟩
 ·rw[hres] at e;by_cases hi:i=id
  ·rw[if_pos hi] at e;injection e with e;subst e;rw[hi];exact⟨us',hb,hs S,hok,o4.trans hn.symm,o5,o6⟩
  ·rw[if_neg hi] at e;have hin:=h.inn i r e;cases r with
   | box ty' cells'=>
    obtain⟨h1,vs,h2,h3⟩:=hin;exact⟨h1,vs,h2.fr F (oth i _ _ e hi rfl),h3.still (S _) fun _ _=>⟨rfl,rfl⟩⟩
   | tok e' k ts xs=>
    obtain⟨vs,h1,h2,h3,h4⟩:=hin;exact⟨vs,md h1 fun b hb=>F.keep b (ma h1 b hb).2 (oth i _ b e hi hb),PV.RepLL.still (ts:=ts) h2 (S _) fun r hr c hc=>((h3 r hr).2 c hc).2,h3,h4⟩
 ·rw[hres] at e;by_cases hi:i=id
  ·rw[if_pos hi] at e;injection e with e;subst e;cases hj
  ·rw[if_neg hi] at e;exact alive' j (h.alive i r e j hj)
 ·have tr:∀i r,(Eff.app ⟨s,some (id,.tok e k ts xs'),rb,false⟩ none st).res i=some r→∃r',st.res i=some r'∧r'.blk (B i) (T i)=r.blk (B i) (T i):=fun i r e=>by
   rw[hres] at e;by_cases hi:i=id
   ·rw[if_pos hi] at e;injection e with e;subst e;exact⟨.tok e k ts xs,by rw[hi];exact hr,rfl⟩
   ·rw[if_neg hi] at e;exact⟨r,e,rfl⟩
  obtain⟨r',e1,e2⟩:=tr i r hi;obtain⟨q',e3,e4⟩:=tr j q hj;exact h.apart i r' j q' b e1 e3 (e2.trans h1) (e4.trans h2)
theorem x7 {α:Type} :∀{us:List (List α)} {i j:Nat} {u:List α} {v:α},(∀u∈us,u.length=k)→us[i]?=some u→j < k→us.flatten.set (i*k+j) v=(us.set i (u.set j v)).flatten
 | [],i,j,u,v,_,h,_=>by simp at h
 | x::us,0,j,u,v,hk,h,hj=>by
  simp at h;subst h;rw[List.flatten_cons,Nat.zero_mul,Nat.zero_add,List.set_append_left _ _ (by rw[hk x (mf ..)];exact hj),List.set_cons_zero,List.flatten_cons]
 | x::us,i+1,j,u,v,hk,h,hj=>by
  simp at h;have hv:=hk x (mf ..);rw[List.flatten_cons,List.set_append_right _ _ (by rw[hv,Nat.add_mul];omega),hv,show (i+1)*k+j - k=i*k+j from by rw[Nat.add_mul];omega,List.set_cons_succ,List.flatten_cons,x7 (fun u hu=>hk u (zC _ hu)) h hj]
theorem PV.RepLL.set {X:Nat→Prop}:∀{xs:List (List PV)} {us:List (List Value)} {i:Nat} {r:List PV} {u:List Value},PV.RepLL w X xs us→PV.RepL w X r u→PV.RepLL w X (xs.set i r) (us.set i u)
 | [],us,i,r,u,h,k=>by rw[PV.RepLL] at h;subst h;simp[PV.RepLL]
 | d::xs,us,0,r,u,h,k=>by
  rw[PV.RepLL] at h;obtain⟨v,us',rfl,h1,h2⟩:=h;exact PV.RepLL.cons k h2
 | d::xs,us,i+1,r,u,h,k=>by
  rw[PV.RepLL] at h;obtain⟨v,us',rfl,h1,h2⟩:=h;exact PV.RepLL.cons h1 (PV.RepLL.set h2 k)
theorem a1m {n g c p:Nat} {us:List Value} {x:Value} (h:w.ownsRow 0 e k (.slice (some ⟨g,0,none⟩) n c) n us) (hp:p < us.length):(w.setCell ⟨g,p,none⟩ x).ownsRow 0 e k (.slice (some ⟨g,0,none⟩) n c) n (us.set p x):=by
 obtain⟨hl,h0 | ⟨g',cap,cur,hv,hb,hh,h1,h2,h3,ht⟩⟩:=h
 ·cases h0.1
 ·injection hv with hv hvn hvc;injection hv with hv;injection hv with hv;subst hv;subst hvc;refine⟨by rw[List.length_set];exact hl,.inr ⟨g,c,_,rfl,hb,Bk.put hh _ x,h1,h2,by simpa using h3,?_⟩⟩;rw[Array.toList_setIfInBounds,List.take_set,ht]
theorem agb (h:InvB C st a w B T) {id:Nat} {ts:List Nat} {xs:List (List PV)} (hr:st.res id=some (.tok e k ts xs)) {i j:Nat} {r:List PV} {p:PV} (hi:xs[i]?=some r) (hj:r[j]?=some p):
  ∃g c us u v,T id=⟨some ⟨g,0,none⟩,xs.length,c⟩∧w.ownsRow 0 e k (.slice (some ⟨g,0,none⟩) xs.length c) xs.length us.flatten∧PV.RepLL w (Own0 C st B T) xs us∧us[i]?=some u∧PV.RepL w (Own0 C st B T) r u∧u[j]?=some v∧p.Rep w (Own0 C st B T) v∧i*k+j < us.flatten.length∧us.flatten[i*k+j]?=some v∧w.cell? ⟨g,i*k+j,none⟩=some v∧w.frozen? ⟨g,i*k+j,none⟩=false∧pn k ts xs∧j < k∧(∀u∈us,u.length=k):=by
 obtain⟨us,o1,o2,o3,o4,o5,o6⟩:=h.inn id _ hr;obtain⟨u,hu1,hu2⟩:=o2.at hi;obtain⟨v,hv1,hv2⟩:=hu2.at hj;have hrows:=o2.rows fun r hr=>(o3 r hr).1
 have hjk:j < k:=by
  have:=(gs hj).1;rw[(o3 r (mg hi)).1] at this;exact this
 have hf:us.flatten[i*k+j]?=some v:=by rw[kz hrows hu1 hjk,hv1]
 have hlt:=(gs hf).1;obtain⟨hl,h0 | ⟨g,cap,cur,hv,hb,hh,h1,h2,h3,ht⟩⟩:=o1
 ·have:=(gs hi).1;omega
 ·have hTe:T id=⟨some ⟨g,0,none⟩,xs.length,cap⟩:=by
   cases hT:T id with
   | mk A n c=>
    rw[hT] at hv o4;injection hv with e1 e2 e3;simp only at o4;simp only at e1 e3;rw[e1,e3,o4]
  have hbk:Bk w g e cur:=hh;have hc:w.cell? ⟨g,i*k+j,none⟩=some v:=by
   have h5:=hbk.cell (i*k+j);rw[h5,← Array.getElem?_toList];have h6:(cur.toList.take ((T id).n*k))[i*k+j]?=some v:=by rw[ht];exact hf
   rw[List.getElem?_take] at h6;split at h6
   ·exact h6
   ·cases h6
  refine⟨g,cap,us,u,v,hTe,⟨by rw[hl,o4],.inr ⟨g,cap,cur,rfl,hb,hh,by rw[← o4];exact h1,h2,h3,by rw[← o4];exact ht⟩⟩,o2,hu1,hu2,hv1,hv2,hlt,hf,hc,hbk.frozen _,o3,hjk,hrows⟩
end
section
variable {C:Cx} {tys:List Nat} {o:Oper} {st:St} {tab:Tab} {t id e k i:Nat} {x y:Operand} {l:Lay} {ts:List Nat} {xs:List (List PV)} {r:List PV}
theorem iq (hT:ie C.P tab) {kd:IntKind} {z:Int} (ho:o.op=.indexAddr t x y) (hl:tab.get t=some l) (hx:ev st x=some (.tok id)) (hre:st.res id=some (.tok e k ts xs)) (hy:ev st y=some (.pv (.raw (.int kd z)))) (hk:l.esz=k) (hk0:0 < k) (hz:z=(i:Int)) (hr:xs[i]?=some r) (hd:∀d,o.dst=some d→C.dk d):OpE C st.tys o st (valE (.elt id (i*k)) [id]):=by
 subst hk;obtain⟨hu,hsz⟩:=(Tab.get_ok hT hl).elem (Nat.ne_of_gt hk0);refine bj hd fun st1 ag a w B T hi=>?_
 rw[← ag.ev (by rw[ho];simp[Op.operands])] at hx hy;rw[← ag.2 id (zL _ (zH.2 rfl))] at hre;have h1:=(az hi hx).1;have h2:=(az hi hy).1;rw[SV.Rep] at h1;rw[SV.Rep,PV.Rep] at h2;have hil:i < xs.length:=(gs hr).1;obtain⟨us,o1,o2,o3,o4,o5,o6⟩:=hi.inn id _ hre;obtain⟨hl2,h0 | ⟨g,cap,cur,hv,hb,hh,h3,h4,h5,ht⟩⟩:=o1
 ·omega
 ·refine⟨.pointer (some ((⟨g,0,none⟩:Addr).add (i*l.esz))),?_,by rw[SV.Rep];exact⟨g,(by injection hv),by rw[ij,Nat.zero_add]⟩,fun j hj=>by rw[SV.ids,zH] at hj;rw[hj,hre];rfl⟩;have hlt:(i:Int) < ((T id).n:Int):=by omega
  rw[hv] at h1;simp[execOp,ho,h1,h2,hz,Instr.indexAt,asIntOf,run_underlying hu,hlt,ke hsz];intro h;omega
theorem cb (hT:ie C.P tab) {j off:Nat} {p:PV} (ho:o.op=.load t x) (hl:tab.get t=some l) (hag:l.agg=false) (hx:ev st x=some (.elt id off)) (hre:st.res id=some (.tok e k ts xs)) (hoff:off=i*k+j) (hr:xs[i]?=some r) (hp:r[j]?=some p) (hd:∀d,o.dst=some d→C.dk d):OpE C st.tys o st (valE (.pv p) [id]):=by
 subst hoff;have lk:=Tab.get_ok hT hl;obtain⟨d,hu,hdr⟩:=lk.agg;refine bj hd fun st1 ag a w B T hi=>?_
 rw[← ag.ev (by rw[ho];simp[Op.operands])] at hx;rw[← ag.2 id (zL _ (zH.2 rfl))] at hre;have h1:=(az hi hx).1;rw[SV.Rep] at h1;obtain⟨g',hg',h1⟩:=h1;obtain⟨g,c,us,u,v,hTe,_,_,_,_,_,hv2,_,_,hc,_⟩:=agb hi hre hr hp;have:g'=g:=by rw[hTe] at hg';injection hg' with hg';injection hg' with hg';exact hg'.symm
 subst this;refine⟨v,?_,by rw[SV.Rep];exact hv2,fun i hi=>by cases (show i∈([]:List Nat) from hi)⟩;simp only[execOp,ho,h1,Instr.loadAt,Instr.sureAddr,Sem.run_bind,Sem.run_pure,Result.andThen_ok];have:=iw (P:=C.P) (w:=w) hu (hdr.trans hag) hc;simp only[this,Result.andThen_ok]
theorem ed (hT:ie C.P tab) {j off:Nat} {p q:PV} (ho:o.op=.store t x y) (hl:tab.get t=some l) (hag:l.agg=false) (hx:ev st x=some (.elt id off)) (hy:ev st y=some (.pv p)) (hre:st.res id=some (.tok e k ts xs)) (hoff:off=i*k+j) (hr:xs[i]?=some r) (hp:r[j]?=some q) (hcl:p.cell=true) (hts:p.ty.all (fun t=>ts.contains t)=true) (he:st.tys.contains e=true) (hdn:o.dst=none):OpE C st.tys o st ⟨.any,some (id,.tok e k ts (xs.set i (r.set j p))),[id],false⟩:=by
 subst hoff;have lk:=Tab.get_ok hT hl;refine⟨fun i r e=>by injection e with e;injection e with e1 e2;subst e1 e2;exact⟨mf ..,zE.1 he⟩,fun st1 h1 h2 _ a w ⟨B,T,hi⟩=>?_⟩;have ag:Agree o [id] st st1:=⟨h1,h2⟩;rw[← h2 id (mf ..)] at hre;rw[← ag.ev (by rw[ho];simp[Op.operands])] at hx hy;have x1:=(az hi hx).1;have y1:=(az hi hy).1;rw[SV.Rep] at x1;rw[SV.Rep] at y1;obtain⟨g',hg',x1⟩:=x1;obtain⟨g,c,us,u,v,hTe,hown,hrep,hu1,hu2,hv1,hv2,hlt,hf,hc,hfz,hok,hjk,hrows⟩:=agb hi hre hr hp;have:g'=g:=by rw[hTe] at hg';injection hg' with hg';injection hg' with hg';exact hg'.symm
 subst this;have h1c:=PV.cell_one y1 hcl;have hsz:¬(a.eval y).cells.size≠l.zero.length:=by rw[jm h1c,lk.one hag];simp
 have hst:(storeCells ⟨g',i*k+j,none⟩ [a.eval y] 0).run C.P w=.ok () (w.setCell ⟨g',i*k+j,none⟩ (a.eval y)):=by
  have h3:((⟨g',i*k+j,none⟩:Addr).add 0)=⟨g',i*k+j,none⟩:=add_zero _;simp only[storeCells,Sem.run_bind,h3,run_store C.P w _ (a.eval y) .plain h1c,hc,hfz,Bool.false_eq_true,if_false,Result.andThen_ok];rfl
 have run:(execOp a.eval o).run C.P w=.ok .skip (w.setCell ⟨g',i*k+j,none⟩ (a.eval y)):=by
  simp only[execOp,ho,x1,Instr.storeAt,Instr.sureAddr,Sem.run_bind,Sem.run_pure,Result.andThen_ok,storeVar,ke lk.size,if_neg hsz];rw[jm h1c];simp[hst]
 unfold dj;rw[run,hdn];have hok':pn k ts (xs.set i (r.set j p)):=fun r' hr'=>by
  rcases List.mem_or_eq_of_mem_set hr' with h3 | h3
  ·exact hok r' h3
  ·subst h3;have h4:=hok r (mg hr);refine⟨by rw[List.length_set];exact h4.1,fun c hc2=>?_⟩;rcases List.mem_or_eq_of_mem_set hc2 with h5 | h5
   ·exact h4.2 c h5
   ·subst h5;exact⟨hcl,fun t ht=>zE.1 (zG.1 hts t ht)⟩
 refine ak1 hi hre (us':=us.set i (u.set j (a.eval y))) ?_ ?_ (fun S=>PV.RepLL.still (ts:=ts) (hrep.set (hu2.set y1)) (S _) fun r hr c hc=>((hok' r hr).2 c hc).2) hok' (by rw[List.length_set])
 ·rw[hTe,← x7 hrows hu1 hjk];exact a1m hown hlt
 ·exact Fr.set w _ _ (by rw[hTe];rfl)
theorem aek (hT:ie C.P tab) {le:Lay} {n:Nat} {kd kc:IntKind} {zm zc:Int} (ho:o.op=.makeSlice t x y) (hl:tab.get t=some l) (hk0:Nat.blt 0 l.esz=true) (hle:tab.get l.elem=some le) (hlz:Nat.beq le.zero.length l.esz=true) (hi:∃i z,C.P.info? l.elem=some i∧i.zero=some z∧i.size=l.esz∧i.bytes≤1000) (hx:ev st x=some (.pv (.raw (.int kd zm)))) (hy:ev st y=some (.pv (.raw (.int kc zc)))) (hzm:zm=(n:Int)) (hzc:zc=(n:Int)) (hn:n*l.esz≤1000000) (hre:st.res id=none) (hok:pn l.esz l.ets [le.zero.map Zk.pv]) (he:st.tys.contains l.elem=true) (hd:∀d,o.dst=some d→C.dk d):OpE C st.tys o st ⟨.tok id,some (id,.tok l.elem l.esz l.ets (List.replicate n (le.zero.map Zk.pv))),[id],true⟩:=by
 have hk0:0 < l.esz:=zD hk0;have hlz:=zF hlz;obtain⟨hu,hsz⟩:=(Tab.get_ok hT hl).elem (Nat.ne_of_gt hk0);have lke:=Tab.get_ok hT hle;obtain⟨i,z,i1,i2,i3,i4⟩:=hi;have hn1:n≤1000000:=nt (Nat.le_mul_of_pos_right n hk0) hn;refine⟨fun i r e=>by injection e with e;injection e with e1 e2;subst e1 e2;exact⟨zH.2 rfl,zE.1 he⟩,fun st1 h1 h2 _ a w ⟨B,T,hi⟩=>?_⟩;have ag:Agree o [id] st st1:=⟨h1,h2⟩;rw[← h2 id (zH.2 rfl)] at hre;rw[← ag.ev (by rw[ho];simp[Op.operands])] at hx hy;have x1:=(az hi hx).1;have y1:=(az hi hy).1;rw[SV.Rep,PV.Rep] at x1 y1;obtain⟨w',r1,r2,r3⟩:=run_makeSlice_full (P:=C.P) w 0 t l.elem i z l.esz hu i1 i2 i3 kd kc n om (by
  have:=Nat.mul_le_mul i4 hn1;omega) (by unfold maxLen;omega) (nq _)
 have run:(execOp a.eval o).run C.P w=.ok (.value (.slice (some ⟨w.heap.size,0,none⟩) n n)) w':=by
  simp only[execOp,ho,x1,y1,hzm,hzc,Sem.run_bind,r1,Result.andThen_ok];rfl
 have hzc2:z.cells=(le.zero.map Zk.val).toArray:=by
  have h3:=lke.zero;rw[i1] at h3;have h4:i.zero=some _:=h3;rw[i2] at h4;injection h4 with h4;rw[h4];cases hag:le.agg with
  | true=>rfl
  | false=>
   have:=lke.one hag;obtain⟨z1,hz1⟩:=List.length_eq_one_iff.1 this;rw[hz1];exact jm (lke.cel z1 (by rw[hz1];exact zH.2 rfl))
 have hflat:∀n:Nat,(madeCells z.cells (n*l.esz)).toList=(List.replicate n (le.zero.map Zk.val)).flatten:=fun n=>made_flat hzc2 (by rw[zB];exact hlz) n
 refine cd run ?_;refine a05 (y:=⟨some ⟨w.heap.size,0,none⟩,n,n⟩) (us:=List.replicate n (le.zero.map Zk.val)) (own:=none) hi (fun r hr=>by rw[hre] at hr;cases hr) (fun _=>rfl) r3 (by rw[← hflat];exact r2) (.inr (.inl rfl)) ?_ (fun r hr=>?_) (by simp) hk0 hd
 ·have hz0:PV.RepL w (Own0 C st1 B T) (le.zero.map Zk.pv) (le.zero.map Zk.val):=zkL_rep le.zero;exact repR hz0 n
 ·have:=List.eq_of_mem_replicate hr;subst this;exact hok _ (zH.2 rfl)
where
 repR {w:World} {X:Nat→Prop} {r:List PV} {u:List Value} (h:PV.RepL w X r u):∀n:Nat,PV.RepLL w X (List.replicate n r) (List.replicate n u)
  | 0=>PV.RepLL.nil
  | n+1=>by rw[List.replicate_succ,List.replicate_succ];exact PV.RepLL.cons h (repR h n)
 zkL_rep {w:World} {X:Nat→Prop}:∀zs:List Zk,PV.RepL w X (zs.map Zk.pv) (zs.map Zk.val)
  | []=>PV.RepL.nil
  | z::zs=>PV.RepL.cons (by
    cases z with
    | raw v=>rw[Zk.pv,PV.Rep];rfl
    | nat=>rw[Zk.pv,PV.Rep];exact⟨Sv.none,rfl,by rw[al];exact Sv.Num.none w,fun ad h=>by cases h⟩
    | rows e k ts=>rw[Zk.pv,PV.Rep];exact⟨Sv.none,[],rfl,rfl,Sv.Is.none w k,(fun ad h=>by cases h),(fun ad h=>by cases h),by rw[PV.RepLL],fun r hr=>by cases hr⟩) (zkL_rep zs)
 made_flat {zs:Array Value} {us:List Value} {k:Nat} (hz:zs=us.toArray) (hk:us.length=k) (n:Nat):(madeCells zs (n*k)).toList=(List.replicate n us).flatten:=by
  subst hz hk
  apply List.ext_getElem?
  intro j;rcases zU j (n*us.length) with h | h
  ·have hu0:0 < us.length:=by rcases Nat.eq_zero_or_pos us.length with e | e;(rw[e,Nat.mul_zero] at h;omega);exact e
   have hd:j / us.length < n:=(Nat.div_lt_iff_lt_mul hu0).2 h;have hm:j % us.length < us.length:=Nat.mod_lt _ hu0;have hj:j=j / us.length*us.length+j % us.length:=by rw[Nat.mul_comm];exact (Nat.div_add_mod ..).symm
   have h2:(List.replicate n us).flatten[j]?=us[j % us.length]?:=by
    conv=>lhs;rw[hj]
    exact kz (fun u hu=>by rw[List.eq_of_mem_replicate hu]) (by rw[List.getElem?_replicate,if_pos hd]) hm
   rw[h2];simp[madeCells,h];rw[ge hm];rfl
  ·rw[List.getElem?_eq_none (by simp[madeCells];exact h),List.getElem?_eq_none (by simp;exact h)]
end
def OwnZ (X:Nat→Prop) (rs:List (Nat×Res)) (B:Nat→Nat) (T:Nat→Sv) (b:Nat):Prop:=X b∨∃i r,am rs i=some r∧r.blk (B i) (T i)=some b
def d5 (rs:List (Nat×Res)) (B:Nat→Nat) (T:Nat→Sv) (b:Nat):Prop:=∃i r,am rs i=some r∧r.blk (B i) (T i)=some b
structure MPre (w:World) (X:Nat→Prop) (B:Nat→Nat) (T:Nat→Sv) (rs:List (Nat×Res)):Prop where
 inn:∀i r,am rs i=some r→r.In (fun _=>True) w (OwnZ X rs B T) B T i
 alive:∀i r,am rs i=some r→∀j∈r.ids,(am rs j).isSome=true
 apart:∀i r j q b,am rs i=some r→am rs j=some q→r.blk (B i) (T i)=some b→q.blk (B j) (T j)=some b→i=j
def oppK (k:Int):Int:=bif k == 1 then 2 else bif k == 2 then 1 else bif k == 3 then 4 else bif k == 4 then 3 else 0
def LaidG (w:World):Prop:=(∃zs fr,w.heap[0]?=some (.cells zs 224 fr))∧∀i:Nat,i < 5→w.cell? ⟨0,i,none⟩=some (.int .i64 (oppK (i:Int)))
theorem LaidG.lt {w:World} (h:LaidG w):0 < w.heap.size:=by
 have:=h.2 0 dx;rcases Nat.eq_zero_or_pos w.heap.size with e | e
 ·exfalso
  have h0:w.heap[0]?=none:=zR om;simp[World.cell?,h0] at this
 ·exact e
theorem LaidG.keep {w w':World} (h:LaidG w) (hk:w'.heap[0]?=w.heap[0]?):LaidG w':=⟨by obtain⟨zs,fr,e⟩:=h.1;exact⟨zs,fr,hk.trans e⟩,fun i hi=>(World.cell?_of_block hk).trans (h.2 i hi)⟩
theorem LaidG.cx {C:Cx} {B:Nat→Nat} {w:World} (h:LaidG C.w0) (hM:¬C.M 0) (g:GrC C B w):LaidG w:=h.keep (g.fr.keep 0 h.lt hM)
theorem LaidG.lo {C:Cx} (h:LaidG C.w0) (hM:¬C.M 0):¬C.lo 0:=fun hl=>hl.elim (fun g=>by have:=h.lt;omega) hM
def MCalls (P:Program) (Tg:List Nat) (f:FuncId) (args:List SV) (rs rs':List (Nat×Res)) (res:PV):Prop:=fv P f=true∧
 ∀(w:World) (X:Nat→Prop) (B:Nat→Nat) (T:Nat→Sv) (us:List Value),(∀b,X b→b < w.heap.size)→(∀b cs t fr,X b→w.heap[b]?=some (.cells cs t fr)→t ∉ Tg)→(∀b,X b→¬d5 rs B T b)→LaidG w→¬d5 rs B T 0→MPre w X B T rs→SV.RepL w (OwnZ X rs B T) B T args us→(∀i∈SV.idsL args,(am rs i).isSome=true)→
  Calls P f us.toArray w fun e w'=>∃v T',e=.returned v∧res.Rep w' X v∧MPre w' X B T' rs'∧Fr (d5 rs B T) w w'∧∀b,d5 rs' B T' b→d5 rs B T b∨w.heap.size≤b
theorem Res.In.wide {lo lo':Nat→Prop} {w:World} {X X':Nat→Prop} {B:Nat→Nat} {T:Nat→Sv} {i:Nat} {r:Res} (h:r.In lo w X B T i) (hl:∀b,r.blk (B i) (T i)=some b→lo b→lo' b) (hX:∀b,X' b→X b):r.In lo' w X' B T i:=by
 have S:∀ts,Still w w X X' ts:=fun ts=>⟨nr _,fun b cs t fr hx hh ht=>⟨rfl,fun hb=>hx (hX b hb)⟩⟩
 cases r with
 | box ty cells=>
  obtain⟨h1,us,h2,h3⟩:=h;exact⟨hl _ rfl h1,us,h2,h3.still (S _) fun _ _=>⟨rfl,rfl⟩⟩
 | tok e k ts xs=>
  obtain⟨us,h1,h2,h3,h4,h5,h6⟩:=h;exact⟨us,h1,PV.RepLL.still (ts:=ts) h2 (S _) fun r hr c hc=>((h3 r hr).2 c hc).2,h3,h4,h5,fun b hb=>hl b hb (h6 b hb)⟩
theorem Res.In.reB {lo:Nat→Prop} {w:World} {X:Nat→Prop} {B B':Nat→Nat} {T T':Nat→Sv} {i:Nat} {r:Res} (h:r.In lo w X B T i) (hB:B' i=B i) (hT:T' i=T i) (hs:∀j∈r.ids,B' j=B j∧T' j=T j):r.In lo w X B' T' i:=by
 have S:∀ts,Still w w X X ts:=fun ts=>⟨nr _,fun b cs t fr hx hh ht=>⟨rfl,hx⟩⟩
 cases r with
 | box ty cells=>
  obtain⟨h1,us,h2,h3⟩:=h;exact⟨by rw[hB];exact h1,us,by rw[hB];exact h2,h3.still (S _) hs⟩
 | tok e k ts xs=>
  obtain⟨us,h1,h2,h3,h4,h5,h6⟩:=h;exact⟨us,by rw[hT];exact h1,h2,h3,by rw[hT];exact h4,h5,by rw[hT];exact h6⟩
theorem Res.In.lo {lo:Nat→Prop} {w:World} {X:Nat→Prop} {B:Nat→Nat} {T:Nat→Sv} {i:Nat} {r:Res} (h:r.In lo w X B T i) {b:Nat} (hb:r.blk (B i) (T i)=some b):lo b∧b < w.heap.size:=by
 cases r with
 | box ty cells=>
  obtain⟨h1,us,h2,_⟩:=h;simp only[Res.blk,oq] at hb;rw[← hb];exact⟨h1,h2.lt⟩
 | tok e k ts xs=>
  obtain⟨us,h1,_,_,_,_,h6⟩:=h;exact⟨h6 b hb,(ma h1 b hb).2⟩
theorem Res.In.typ {lo:Nat→Prop} {w:World} {X:Nat→Prop} {B:Nat→Nat} {T:Nat→Sv} {i:Nat} {r:Res} (h:r.In lo w X B T i) {b:Nat} (hb:r.blk (B i) (T i)=some b) {cs:Array Value} {t:Nat} {fr:Nat×Nat} (hh:w.heap[b]?=some (.cells cs t fr)):t=r.typ:=by
 cases r with
 | box ty cells=>
  obtain⟨h1,us,h2,_⟩:=h;simp only[Res.blk,oq] at hb;exact h2.typ (hb▸hh)
 | tok e k ts xs=>
  obtain⟨us,h1,_⟩:=h;obtain⟨cur,h2⟩:=a8h h1 b hb;rw[h2] at hh;injection hh with hh;injection hh with _ hh _;exact hh.symm
mutual
def SV.tids:SV→List Nat
 | .tok i=>[i]
 | .elt i _=>[i]
 | .agg cs=>SV.tidsL cs
 | .tup cs=>SV.tidsL cs
 | .fn _ cs=>SV.tidsL cs
 | _=>[]
def SV.tidsL:List SV→List Nat
 | []=>[]
 | c::cs=>SV.tids c++SV.tidsL cs
end
mutual
theorem SV.Rep.reT {w:World} {X:Nat→Prop} {B:Nat→Nat} {T T':Nat→Sv}:∀{s:SV} {v:Value},SV.Rep w X B T s v→(∀i∈s.tids,T' i=T i)→SV.Rep w X B T' s v
 | .pv p,v,h,_=>by rw[SV.Rep] at h ⊢;exact h
 | .any,v,h,_=>by rw[SV.Rep];trivial
 | .emp,v,h,_=>by rw[SV.Rep] at h ⊢;exact h
 | .nil _ _ _,v,h,_=>by rw[SV.Rep] at h ⊢;exact h
 | .tok i,v,h,k=>by
  rw[SV.Rep] at h ⊢;rw[k i (by rw[SV.tids];exact zH.2 rfl)];exact h
 | .box i off,v,h,_=>by rw[SV.Rep] at h ⊢;exact h
 | .elt i off,v,h,k=>by
  rw[SV.Rep] at h ⊢;rw[k i (by rw[SV.tids];exact zH.2 rfl)];exact h
 | .ref e cs,v,h,_=>by rw[SV.Rep] at h ⊢;exact h
 | .agg cs,v,h,k=>by
  rw[SV.Rep] at h ⊢;obtain⟨us,rfl,h1⟩:=h;exact⟨us,rfl,SV.RepL.reT h1 (by rwa [SV.tids] at k)⟩
 | .tup cs,v,h,k=>by
  rw[SV.Rep] at h ⊢;obtain⟨us,rfl,h1⟩:=h;exact⟨us,rfl,SV.RepL.reT h1 (by rwa [SV.tids] at k)⟩
 | .fn f cs,v,h,k=>by
  rw[SV.Rep] at h ⊢;obtain⟨us,rfl,h1⟩:=h;exact⟨us,rfl,SV.RepL.reT h1 (by rwa [SV.tids] at k)⟩
theorem SV.RepL.reT {w:World} {X:Nat→Prop} {B:Nat→Nat} {T T':Nat→Sv}:∀{cs:List SV} {us:List Value},SV.RepL w X B T cs us→(∀i∈SV.tidsL cs,T' i=T i)→SV.RepL w X B T' cs us
 | [],us,h,_=>by rw[SV.RepL] at h ⊢;exact h
 | c::cs,us,h,k=>by
  rw[SV.RepL] at h ⊢;obtain⟨u,us',rfl,h1,h2⟩:=h;rw[SV.tidsL] at k;exact⟨u,us',rfl,SV.Rep.reT h1 (fun i hi=>k i (zL _ hi)),SV.RepL.reT h2 (fun i hi=>k i (zV _ hi))⟩
end
def Res.tids:Res→List Nat
 | .box _ cs=>SV.tidsL cs
 | .tok ..=>[]
def Res.isTok:Res→Bool
 | .tok ..=>true
 | .box ..=>false
theorem qw {α:Type}:∀{l m:List (Nat×α)} {t:Nat},am (l++m) t=(match am l t with
  | some v=>some v
  | none=>am m t)
 | [],m,t=>rfl
 | (i,x)::l,m,t=>by
  rw[zY,am,am];cases Nat.beq t i with
  | true=>rfl
  | false=>exact qw
def ac4 (dst:Option Nat) (sl:List (Nat×SV)) (keep rs rs':List (Nat×Res)) (tys:List Nat):Bool:=
 (match dst with
 | some d=>(am sl d).isNone
 | none=>true)&&(sl.all fun p=>p.2.tids.all fun i=>(am rs i).isNone)&&(keep.all fun p=>(am rs p.1).isNone&&p.2.tids.all fun i=>(am rs i).isNone)&&(rs'.all fun p=>(am rs p.1).isSome&&tys.contains p.2.typ)&&ofB sl (keep++rs') tys
section
variable {C:Cx} {o:Oper} {st:St} {a:Act} {w:World} {rs:List (Nat×Res)}
theorem af5 {w':World} {B:Nat→Nat} {T T':Nat→Sv} {rs' keep:List (Nat×Res)} {sl:List (Nat×SV)} {tys:List Nat} {dst:Option Nat} {v:Value} (hi:InvB C st a w B T) (hrs:AllL st.res rs) (hsl:AllL st.slot sl) (hkeep:AllL st.res keep) (hb:ac4 dst sl keep rs rs' tys=true)
  (hm:MPre w' (fun b=>Own0 C st B T b∧¬d5 rs B T b) B T' rs') (F:Fr (d5 rs B T) w w') (hnew:∀b,d5 rs' B T' b→d5 rs B T b∨w.heap.size≤b) (hd:∀d,dst=some d→C.dk d):Inv C (St.of sl (keep++rs') tys) (a.put dst v) w':=by
 simp only[ac4,be,zG,Option.isNone_iff_eq_none] at hb;obtain⟨⟨⟨⟨hb1,hb2⟩,hb3⟩,hb4⟩,hb5⟩:=hb;simp only[ofB,be,zG,lw] at hb5
 let T2:Nat→Sv:=fun i=>if (am rs i).isSome then T' i else T i
 have hT1:∀i,am rs i=none→T2 i=T i:=fun i h=>by simp only[T2,h];rfl
 have hT2:∀i,(am rs i).isSome=true→T2 i=T' i:=fun i h=>by simp only[T2,h];rfl
 have rs'at:∀i r,am rs' i=some r→(am rs i).isSome=true:=fun i r h=>by
  have:∀{l:List (Nat×Res)} {i:Nat} {r:Res},am l i=some r→∃p∈l,p.1=i∧p.2=r:=fun {l}=>by
   induction l with
   | nil=>intro i r e;cases e
   | cons p l ih=>
    intro i r e;obtain⟨j,x⟩:=p;rw[am] at e;cases hbq:Nat.beq i j with
    | true=>rw[hbq] at e;injection e with e;exact⟨_,mf ..,(zF hbq).symm,e⟩
    | false=>
     rw[hbq] at e;obtain⟨p,h1,h2⟩:=ih e;exact⟨p,zC _ h1,h2⟩
  obtain⟨p,h1,h2,h3⟩:=this h;rw[← h2];exact (hb4 p h1).1
 have keepat:∀i r,am keep i=some r→am rs i=none∧(∀j∈r.tids,am rs j=none)∧st.res i=some r:=fun i r h=>by
  have:∀{l:List (Nat×Res)} {i:Nat} {r:Res},am l i=some r→∃p∈l,p.1=i∧p.2=r:=fun {l}=>by
   induction l with
   | nil=>intro i r e;cases e
   | cons p l ih=>
    intro i r e;obtain⟨j,x⟩:=p;rw[am] at e;cases hbq:Nat.beq i j with
    | true=>rw[hbq] at e;injection e with e;exact⟨_,mf ..,(zF hbq).symm,e⟩
    | false=>
     rw[hbq] at e;obtain⟨p,h1,h2⟩:=ih e;exact⟨p,zC _ h1,h2⟩
  obtain⟨p,h1,h2,h3⟩:=this h;have h4:=hb3 p h1;rw[h2,h3] at h4;exact⟨h4.1,h4.2,hkeep.at h⟩
 have split:∀i r,am (keep++rs') i=some r→am keep i=some r∨(am keep i=none∧am rs' i=some r):=fun i r h=>by
  rw[qw] at h;cases hk:am keep i with
  | some q=>rw[hk] at h;exact .inl h
  | none=>rw[hk] at h;exact .inr ⟨rfl,h⟩
 have old:∀i r,am rs i=some r→st.res i=some r:=fun i r h=>hrs.at h
 have lentOwn:∀b,d5 rs B T b→Own0 C st B T b:=fun b ⟨i,r,h1,h2⟩=>.inr ⟨i,r,old i r h1,h2⟩
 have blkOld:∀i r b,st.res i=some r→r.blk (B i) (T i)=some b→b < w.heap.size:=fun i r b h1 h2=>((hi.inn i r h1).lo h2).2
 have notLent:∀i r b,st.res i=some r→am rs i=none→r.blk (B i) (T i)=some b→¬d5 rs B T b:=fun i r b h1 h2 h3 ⟨j,q,h4,h5⟩=>by
  have:=hi.apart i r j q b h1 (old j q h4) h3 h5;rw[← this,h2] at h4;cases h4
 have hX:∀b,Own0 C (St.of sl (keep++rs') tys) B T2 b→(Own0 C st B T b∧¬d5 rs B T b)∨d5 rs' B T' b:=fun b hb=>by
  rcases hb with hb | ⟨i,r,h1,h2⟩
  ·exact .inl ⟨.inl hb,fun ⟨i,r,h1,h2⟩=>by
    rcases ((hi.inn i r (old i r h1)).lo h2).1 with h3 | h3
    ·have:=C.old b hb;omega
    ·exact C.hM b hb h3⟩
  ·rcases split i r h1 with h3 | ⟨_,h3⟩
   ·obtain⟨g1,g2,g3⟩:=keepat i r h3;rw[hT1 i g1] at h2;exact .inl ⟨.inr ⟨i,r,g3,h2⟩,notLent i r b g3 g1 h2⟩
   ·rw[hT2 i (rs'at i r h3)] at h2;exact .inr ⟨i,r,h3,h2⟩
 have S:∀ts,Still w w' (Own0 C st B T) (Own0 C (St.of sl (keep++rs') tys) B T2) ts:=fun ts=>⟨F.size,fun b cs t fr hx hh ht=>by
  have hlt:b < w.heap.size:=by
   rcases zU b w.heap.size with h | h
   ·exact h
   ·rw[zR h] at hh;cases hh
  refine⟨F.keep b hlt fun e=>hx (lentOwn b e),fun hb=>?_⟩;rcases hX b hb with h1 | h1
  ·exact hx h1.1
  ·rcases hnew b h1 with h2 | h2
   ·exact hx (lentOwn b h2)
   ·omega⟩
 have S':∀ts,Still w' w' (OwnZ (fun b=>Own0 C st B T b∧¬d5 rs B T b) rs' B T') (Own0 C (St.of sl (keep++rs') tys) B T2) ts:=fun ts=>⟨nr _,fun b cs t fr hx hh ht=>⟨rfl,fun hb=>hx (hX b hb)⟩⟩
 have reS:∀{s:SV} {u:Value},SV.Rep w (Own0 C st B T) B T s u→(∀i∈s.tids,am rs i=none)→SV.Rep w' (Own0 C (St.of sl (keep++rs') tys) B T2) B T2 s u:=fun h1 h2=>(h1.still (S _) (B':=B) (T':=T) fun _ _=>⟨rfl,rfl⟩).reT fun i hi=>hT1 i (h2 i hi)
 refine⟨B,T2,y6 hi.size hd,put_dfr.trans hi.dfr,hi.gr.step F fun b _ ⟨i,r,h1,h2⟩=>((hi.inn i r (old i r h1)).lo h2).1,fun t s e=>?_,fun t s e i hi2=>?_,fun i r e=>?_,fun i r e j hj=>?_,fun i r j q b h1 h2 h3 h4=>?_⟩
 ·have e':am sl t=some s:=e;have h1:=hi.slot t s (hsl.at e');have h2:(a.put dst v).tmps.getD t undef=a.tmps.getD t undef:=by
   cases dst with
   | none=>rfl
   | some d=>
    refine gc fun e3=>?_
    rw[e3,show am sl d=none from by simpa using hb1] at e';cases e'
  rw[h2];obtain⟨p,hp,rfl⟩:=eg e';exact reS h1 (hb2 p hp)
 ·have e':am sl t=some s:=e;obtain⟨p,hp,rfl⟩:=eg e';exact hb5.1 p hp i hi2
 ·rcases split i r e with h3 | ⟨_,h3⟩
  ·obtain⟨g1,g2,g3⟩:=keepat i r h3;have hin:=hi.inn i r g3;have oth:∀b,r.blk (B i) (T i)=some b→w'.heap[b]?=w.heap[b]?:=fun b hb=>F.keep b (blkOld i r b g3 hb) (notLent i r b g3 g1 hb)
   cases r with
   | box ty cells=>
    obtain⟨k1,us,k2,k3⟩:=hin;exact⟨k1,us,k2.keep (oth _ rfl),(k3.still (S _) (B':=B) (T':=T) fun _ _=>⟨rfl,rfl⟩).reT fun j hj=>hT1 j (g2 j hj)⟩
   | tok e k ts xs=>
    obtain⟨us,k1,k2,k3,k4,k5,k6⟩:=hin;refine⟨us,?_,PV.RepLL.still (ts:=ts) k2 (S _) fun r hr c hc=>((k3 r hr).2 c hc).2,k3,?_,k5,?_⟩
    ·rw[hT1 i g1];exact md k1 oth
    ·rw[hT1 i g1];exact k4
    ·rw[hT1 i g1];exact k6
  ·have hin:=hm.inn i r h3;have hin2:r.In C.lo w' (Own0 C (St.of sl (keep++rs') tys) B T2) B T' i:=hin.wide (fun b hb _=>by
    rcases hnew b ⟨i,r,h3,hb⟩ with ⟨j,q,g1,g2⟩ | g1
    ·exact ((hi.inn j q (old j q g1)).lo g2).1
    ·exact .inl (nt hi.gr.size g1)) fun b hb=>hX b hb
   exact hin2.reB rfl (hT2 i (rs'at i r h3)) fun j hj=>⟨rfl,hT2 j (by
    obtain⟨q,hq⟩:=Option.isSome_iff_exists.1 (hm.alive i r h3 j hj);exact rs'at j q hq)⟩
 ·obtain⟨p,hp,rfl⟩:=eg e;exact (hb5.2 p hp).1 j hj
 ·have bl:∀i r,am (keep++rs') i=some r→r.blk (B i) (T2 i)=some b→(st.res i=some r∧am rs i=none∧r.blk (B i) (T i)=some b)∨(am rs' i=some r∧r.blk (B i) (T' i)=some b):=fun i r h1 h2=>by
   rcases split i r h1 with h3 | ⟨_,h3⟩
   ·obtain⟨g1,g2,g3⟩:=keepat i r h3;rw[hT1 i g1] at h2;exact .inl ⟨g3,g1,h2⟩
   ·rw[hT2 i (rs'at i r h3)] at h2;exact .inr ⟨h3,h2⟩
  have cross:∀i r j q,st.res i=some r→am rs i=none→r.blk (B i) (T i)=some b→am rs' j=some q→q.blk (B j) (T' j)=some b→False:=fun i r j q g1 g2 g3 g4 g5=>by
   rcases hnew b ⟨j,q,g4,g5⟩ with g6 | g6
   ·exact notLent i r b g1 g2 g3 g6
   ·have:=blkOld i r b g1 g3;omega
  rcases bl i r h1 h3 with ⟨g1,g2,g3⟩ | ⟨g1,g2⟩
  ·rcases bl j q h2 h4 with ⟨g4,g5,g6⟩ | ⟨g4,g5⟩
   ·exact hi.apart i r j q b g1 g4 g3 g6
   ·exact (cross i r j q g1 g2 g3 g4 g5).elim
  ·rcases bl j q h2 h4 with ⟨g4,g5,g6⟩ | ⟨g4,g5⟩
   ·exact (cross j q i r g4 g5 g6 g1 g2).elim
   ·exact hm.apart i r j q b g1 g4 g2 g5
theorem zj {B:Nat→Nat} {T:Nat→Sv} (hi:InvB C st a w B T) (hrs:AllL st.res rs) (hal:(rs.all fun p=>lw rs p.2.ids)=true):MPre w (fun b=>Own0 C st B T b∧¬d5 rs B T b) B T rs∧∀b,OwnZ (fun b=>Own0 C st B T b∧¬d5 rs B T b) rs B T b→Own0 C st B T b:=by
 have sub:∀b,OwnZ (fun b=>Own0 C st B T b∧¬d5 rs B T b) rs B T b→Own0 C st B T b:=fun b hb=>by
  rcases hb with hb | ⟨i,r,h1,h2⟩
  ·exact hb.1
  ·exact .inr ⟨i,r,hrs.at h1,h2⟩
 refine⟨⟨fun i r h=>(hi.inn i r (hrs.at h)).wide (fun _ _ _=>trivial) sub,fun i r h j hj=>?_,fun i r j q b h1 h2 h3 h4=>hi.apart i r j q b (hrs.at h1) (hrs.at h2) h3 h4⟩,sub⟩;obtain⟨p,hp,rfl⟩:=eg h;exact zG.1 (zG.1 hal p hp) j hj
theorem ah8 {c:Call} {f:FuncId} {args:List SV} {res:PV} {rs' keep:List (Nat×Res)} {sl:List (Nat×SV)} {Tg:List Nat} (hG:LaidG C.w0) (hM:¬C.M 0) (hp:MCalls C.P Tg f args rs rs' res) (ho:o.op=.call c) (run:∀us:List Value,c.args.toList.map a.eval=us→∃us2:List Value,(execOp a.eval o).run C.P w=.ok (.enter f (us++us2).toArray) w∧∀B T,InvB C st a w B T→SV.RepL w (Own0 C st B T) B T args (us++us2)∧∀i∈SV.idsL args,(am rs i).isSome=true)
  (hrs:AllL st.res rs) (hsl:AllL st.slot sl) (hkeep:AllL st.res keep) (hal:(rs.all fun p=>lw rs p.2.ids)=true) (hb:ac4 o.dst sl keep rs rs' st.tys=true) (hT:Tg.all (fun t=>C.T.contains t)=true) (hty:Tg.all (fun t=>!st.tys.contains t)=true) (hd:∀d,o.dst=some d→C.dk d) (ht:em st st.tys) (hi:Inv C st a w):dj C.P o a w fun v w'=>em (St.of sl (keep++rs') st.tys) st.tys∧Inv C (St.of sl (keep++rs') st.tys) (a.put o.dst v) w':=by
 obtain⟨B,T,hi⟩:=hi;obtain⟨us2,hrun,hargs⟩:=run _ rfl;obtain⟨ha,hids⟩:=hargs B T hi;obtain⟨hpre,sub⟩:=zj hi hrs hal;have old:∀b,Own0 C st B T b→b < w.heap.size:=fun b hb=>by
  rcases hb with hb | ⟨i,r,hr,hb⟩
  ·exact nk (C.old b hb) hi.gr.size
  ·exact ((hi.inn i r hr).lo hb).2
 have hcall:=hp.2 w (fun b=>Own0 C st B T b∧¬d5 rs B T b) B T _ (fun b hb=>old b hb.1) (fun b cs t fr hb hh htg=>by
  have htc:=zG.1 hT t htg;have hty':=zG.1 hty t htg;rcases hb.1 with hb1 | ⟨i,r,hr,hb1⟩
  ·have hh':C.w0.heap[b]?=some (.cells cs t fr):=by rw[← hi.gr.old hb1];exact hh
   exact C.hT b cs t fr hb1 hh' (zE.1 htc)
  ·have h1:=(hi.inn i r hr).typ hb1 hh;have h2:=ht i r hr;rw[← h1] at h2;rw[zE.2 h2] at hty';cases hty') (fun b hb=>hb.2) (hG.cx hM hi.gr) (fun ⟨i,r,h1,h2⟩=>hG.lo hM ((hi.inn i r (hrs.at h1)).lo h2).1) hpre (ha.still (B':=B) (T':=T) ⟨nr _,fun b cs t fr hx hh ht=>⟨rfl,fun hb=>hx (sub b hb)⟩⟩ fun _ _=>⟨rfl,rfl⟩) hids
 refine eo hrun (hcall.mono fun e w' ⟨v,T',he,_,hm,F,hnew⟩=>⟨v,he,fun i r hr=>?_,af5 hi hrs hsl hkeep hb hm F hnew hd⟩);simp only[ac4,be] at hb;have hb5:=hb.2;simp only[ofB,be,zG] at hb5;obtain⟨p,hp,rfl⟩:=eg hr;exact zE.1 (hb5.2 p hp).2
end
def St.initM (args:List SV) (rs:List (Nat×Res)) (tys:List Nat):St:=⟨fun t=>args[t]?,am rs,tys⟩
def RetM (P:Program) (tab:Tab) (fn:Func) (res:PV) (rs':List (Nat×Res)):Exit→St→Prop
 | .ret,st | .normal,st=>a2x P tab fn st res∧AllL st.res rs'
 | _,_=>False
def mcB (rs rs':List (Nat×Res)) (tys:List Nat) (N:Nat):Bool:=(rs.all fun p=>Nat.ble N p.1&&tys.contains p.2.typ)&&rs'.all fun p=>(am rs p.1).isSome&&p.2.ids.all fun i=>(am rs' i).isSome
section
variable {P:Program} {tab:Tab}
theorem MCalls.of {T:List Nat} {f:FuncId} {args:List SV} {rs rs':List (Nat×Res)} {res:PV} {fn:Func} {c:Code} (tys:List Nat) (hT:ie P tab) (hm:P.follows .mixedOrders=true) (hcall:fv P f=true) (hf:P.funcs[f]?=some fn) (hb:fn.body=some c) (hn:Nat.ble args.length fn.ntmps=true) (hck:mcB rs rs' tys fn.ntmps=true) (h:∀D:Dom P T 0,LaidG D.w0→¬D.M 0→PW (D.cx fn.ntmps) c (St.initM args rs tys) (RetM P tab fn res rs')):MCalls P T f args rs rs' res:=by
 refine⟨hcall,fun w X B Tk us hX hXT hXL hG hM0 hpre hr hids=>?_⟩;have hn:=zD hn;simp only[mcB,be,zG] at hck
 let D:Dom P T 0:=⟨w,X,hX,hm,hXT,d5 rs B Tk,hXL,fun i=>(am rs i).isSome=true,B,fun _=>undef⟩
 have mem:∀{l:List (Nat×Res)} {i:Nat} {r:Res},am l i=some r→∃p∈l,p.1=i∧p.2=r:=fun {l}=>by
  induction l with
  | nil=>intro i r e;cases e
  | cons p l ih=>
   intro i r e;obtain⟨j,x⟩:=p;rw[am] at e;cases hbq:Nat.beq i j with
   | true=>rw[hbq] at e;injection e with e;exact⟨_,mf ..,(zF hbq).symm,e⟩
   | false=>
    rw[hbq] at e;obtain⟨p,h1,h2⟩:=ih e;exact⟨p,zC _ h1,h2⟩
 refine calls_of_wp hf hb ?_;have hlen:=hr.len;have hinv:Inv (D.cx fn.ntmps) (St.initM args rs tys) { tmps:=us.toArray++Array.replicate (fn.ntmps - us.toArray.size) undef,defers:=[] } w:=by
  refine⟨B,Tk,⟨⟨by simp;omega,fun t h=>absurd h (Nat.not_lt_zero t)⟩,rfl,⟨Fr.refl _ w,fun i h=>rfl⟩,fun t s e=>?_,fun t s e i hi=>?_,fun i r e=>?_,fun i r e=>hpre.alive i r e,fun i r j q b e1 e2=>hpre.apart i r j q b e1 e2⟩⟩
  ·obtain⟨u,hu,hpr⟩:=hr.at (show args[t]?=some s from e);have hut:(us.toArray++Array.replicate (fn.ntmps - us.toArray.size) undef).getD t undef=u:=by
    have hlt:=(gs hu).1;rw[Array.getD_eq_getD_getElem?,Array.getElem?_append_left (by simpa using hlt)];simp[hu]
   rw[hut];exact hpr
  ·exact hids i (gz (mg (show args[t]?=some s from e)) hi)
  ·exact (hpre.inn i r e).wide (fun b hb _=>.inr ⟨i,r,e,hb⟩) fun b hb=>hb
 refine Code.wp_mono (fun e a w' hq=>?_) (h D hG hM0 _ w (fun i r e=>by
  obtain⟨p,h1,h2,h3⟩:=mem (show am rs i=some r from e);have:=(hck.1 p h1).2;rw[h3] at this;exact zE.1 this) hinv)
 obtain⟨st,h1,_,h3⟩:=hq;have fin:a2x P tab fn st res∧AllL st.res rs'→∃v,(results fn a.tmps).run P w'=.ok v w'∧a.defers=[]∧∃T',res.Rep w' X v∧MPre w' X B T' rs'∧Fr (d5 rs B Tk) w w'∧∀b,d5 rs' B T' b→d5 rs B Tk b∨w.heap.size≤b:=fun ⟨h1,h2⟩=>by
  obtain⟨v,g1,g2⟩:=og (C:=D.cx fn.ntmps) hT h3 h1;obtain⟨B',T',hi⟩:=h3;have inrs:∀i,(am rs' i).isSome=true→(am rs i).isSome=true∧fn.ntmps≤i:=fun i hi=>by
   obtain⟨r,hr⟩:=Option.isSome_iff_exists.1 hi;obtain⟨p,k1,k2,k3⟩:=mem hr;have k4:=(hck.2 p k1).1;obtain⟨q,hq⟩:=Option.isSome_iff_exists.1 k4;obtain⟨p2,k5,k6,k7⟩:=mem hq;rw[← k2];exact⟨k4,by rw[← k6];exact zD (hck.1 p2 k5).1⟩
  have fixB:∀i,(am rs' i).isSome=true→B i=B' i:=fun i hi2=>(hi.gr.fix i (inrs i hi2)).symm
  have some':∀{i r},am rs' i=some r→(am rs' i).isSome=true:=fun h=>by rw[h];rfl
  have sub:∀b,OwnZ X rs' B T' b→Own0 (D.cx fn.ntmps) st B' T' b:=fun b hb=>by
   rcases hb with hb | ⟨i,r,k1,k2⟩
   ·exact .inl hb
   ·rw[fixB i (some' k1)] at k2;exact .inr ⟨i,r,h2.at k1,k2⟩
  have hal:∀i r,am rs' i=some r→∀j∈r.ids,(am rs' j).isSome=true:=fun i r k1 j hj=>by
   obtain⟨p,k2,k3,k4⟩:=mem k1;have:=(hck.2 p k2).2 j (by rw[k4];exact hj);exact this
  refine⟨v,g1,hi.dfr,T',g2,⟨fun i r k1=>?_,hal,fun i r j q b k1 k2 k3 k4=>?_⟩,hi.gr.fr,fun b ⟨i,r,k1,k2⟩=>?_⟩
  ·exact ((hi.inn i r (h2.at k1)).wide (fun _ _ _=>trivial) sub).reB (fixB i (some' k1)) rfl fun j hj=>⟨fixB j (hal i r k1 j hj),rfl⟩
  ·rw[fixB i (some' k1)] at k3;rw[fixB j (some' k2)] at k4;exact hi.apart i r j q b (h2.at k1) (h2.at k2) k3 k4
  ·rw[fixB i (some' k1)] at k2;exact ((hi.inn i r (h2.at k1)).lo k2).1.symm
 cases e with
 | ret=>
  obtain⟨v,g1,g2,T',g3⟩:=fin h1;exact bodyPost_ret g1 g2 ⟨v,T',rfl,g3⟩
 | normal=>
  obtain⟨v,g1,g2,T',g3⟩:=fin h1;exact bodyPost_end g1 g2 ⟨v,T',rfl,g3⟩
 | _=>exact h1.elim
end
def f6 (P:Program) (T:List Nat) (f:FuncId) (args:List PV) (res:PV):Prop:=fv P f=true∧
 ∀(w:World) (X:Nat→Prop) (us:List Value),LaidG w→(∀b,X b→b < w.heap.size)→(∀b cs t fr,X b→w.heap[b]?=some (.cells cs t fr)→t ∉ T)→PV.RepL w X args us→
  Calls P f us.toArray w fun e w'=>∃v,e=.returned v∧res.Rep w' X v∧Gr w w'
def NCalls (P:Program) (Tg:List Nat) (f:FuncId) (args:List PV) (e k:Nat) (ts:List Nat) (xs:List (List PV)):Prop:=fv P f=true∧
 ∀(w:World) (X:Nat→Prop) (us:List Value),(∀b,X b→b < w.heap.size)→(∀b cs t fr,X b→w.heap[b]?=some (.cells cs t fr)→t ∉ Tg)→PV.RepL w X args us→
  Calls P f us.toArray w fun ex w'=>∃(x:Sv) (vs:List (List Value)),ex=.returned x.v∧w'.ownsRow 0 e k x.v x.n vs.flatten∧(∀b,x.v.ownBlock=some b→w.heap.size≤b)∧PV.RepLL w' (fun b=>X b∨x.v.ownBlock=some b) xs vs∧pn k ts xs∧x.n=xs.length∧0 < k∧Gr w w'
theorem NCalls.p {P:Program} {Tg:List Nat} {f:FuncId} {args:List PV} {e k:Nat} {ts:List Nat} {xs:List (List PV)} (h:NCalls P Tg f args e k ts xs):PCalls P Tg f args (.rows e k ts xs):=
 ⟨h.1,fun w X us hX hXT hr=>(h.2 w X us hX hXT hr).mono fun ex w' ⟨x,vs,h1,h2,h3,h4,h5,h6,h7,G⟩=>⟨x.v,h1,by
  obtain⟨g1,g2⟩:=agi h2 rfl rfl h7;rw[PV.Rep];exact⟨x,vs,rfl,h6,g1,g2,fun ad ha hn hx=>absurd (hX _ hx) (Nat.not_lt.2 (h3 ad.block (by show (Value.slice x.A x.n x.c).ownBlock=_;rw[ha];rfl))),PV.RepLL.still (ts:=ts) h4 ⟨nr _,fun b cs t fr hx hh ht=>⟨rfl,fun hb=>hx (.inl hb)⟩⟩ fun r hr c hc=>((h5 r hr).2 c hc).2,h5⟩,G⟩⟩
def RetN (fn:Func) (e k:Nat) (ts:List Nat) (xs:List (List PV)):Exit→St→Prop
 | .ret,st=>∃t,fn.results.toList=[.tmp t]∧0 < k∧((∃i,st.slot t=some (.tok i)∧st.res i=some (.tok e k ts xs))∨∃s,st.slot t=some s∧s.nul=true∧xs=[])
 | _,_=>False
theorem NCalls.of {P:Program} {T:List Nat} {f:FuncId} {args:List PV} {e k:Nat} {ts:List Nat} {xs:List (List PV)} {fn:Func} {c:Code} (tys:List Nat) (hm:P.follows .mixedOrders=true) (hcall:fv P f=true) (hf:P.funcs[f]?=some fn) (hb:fn.body=some c) (hn:Nat.ble args.length fn.ntmps=true) (h:∀D:Dom P T 0,(∀b,¬D.M b)→PW (D.cx fn.ntmps) c (St.init args tys) (RetN fn e k ts xs)):NCalls P T f args e k ts xs:=by
 refine⟨hcall,fun w X us hX hXT hr=>?_⟩;have hn:=zD hn
 let D:Dom P T 0:=⟨w,X,hX,hm,hXT,fun _=>False,(fun _ _ h=>h),fun _=>False,fun _=>0,fun _=>undef⟩
 refine calls_of_wp hf hb ?_;have hlen:=hr.len;have hinv:Inv (D.cx fn.ntmps) (St.init args tys) { tmps:=us.toArray++Array.replicate (fn.ntmps - us.toArray.size) undef,defers:=[] } w:=by
  refine⟨fun _=>0,fun _=>Sv.none,⟨⟨by simp;omega,fun t h=>absurd h (Nat.not_lt_zero t)⟩,rfl,⟨Fr.refl _ w,fun i h=>h.1.elim⟩,fun t s e=>?_,fun t s e i hi=>?_,(fun i r e=>by cases e),(fun i r e=>by cases e),fun i r j q b e=>by cases e⟩⟩
  ·simp only[St.init] at e;obtain⟨p,hp,rfl⟩:=Option.map_eq_some_iff.1 e;obtain⟨u,hu,hpr⟩:=hr.at hp;rw[SV.Rep];have hut:(us.toArray++Array.replicate (fn.ntmps - us.toArray.size) undef).getD t undef=u:=by
    have hlt:=(gs hu).1;rw[Array.getD_eq_getD_getElem?,Array.getElem?_append_left (by simpa using hlt)];simp[hu]
   rw[hut];exact hpr.still ⟨nr _,fun b cs t fr hx hh ht=>⟨rfl,fun hb=>by
    rcases hb with hb | ⟨i,r,hr,_⟩
    ·exact hx hb
    ·cases hr⟩⟩
  ·simp only[St.init] at e;obtain⟨p,hp,rfl⟩:=Option.map_eq_some_iff.1 e;cases (show i∈([]:List Nat) from hi)
 refine Code.wp_mono (fun ex a w' hq=>?_) (h D (fun _ h=>h) _ w (fun i r e=>by cases e) hinv);obtain⟨st,h1,_,⟨B,T',hi⟩⟩:=hq;cases ex with
 | ret=>
  obtain⟨t,ht,hk0,h1⟩:=h1;have hres:(results fn a.tmps).run P w'=.ok (a.tmps.getD t undef) w':=by
   unfold results;rw[show fn.results=#[.tmp t] from by rw[← ht]];rw[Sem.run_bind,Array.mapM_eq_mapM_toList,map_eq_pure_bind,Sem.run_bind];simp[List.mapM_cons,Sem.run_bind]
  have G:Gr w w':=Gr.of_fr hi.gr.fr;rcases h1 with ⟨i,h2,h3⟩ | ⟨s,h2,h3,rfl⟩
  ·have h4:=hi.slot t _ h2;rw[SV.Rep] at h4;obtain⟨vs,g1,g2,g3,g4,g5,g6⟩:=hi.inn i _ h3;refine bodyPost_ret hres hi.dfr ⟨T' i,vs,by rw[h4],g1,fun b hb=>(g6 b hb).elim id (fun h=>h.elim),PV.RepLL.still (ts:=ts) g2 ⟨nr _,fun b cs t fr hx hh ht=>⟨rfl,fun hb=>hx (hb.elim .inl fun h=>.inr ⟨i,_,h3,h⟩)⟩⟩ fun r hr c hc=>((g3 r hr).2 c hc).2,g3,g4,g5,G⟩
  ·have h4:=a3m h3 (hi.slot t s h2);exact bodyPost_ret hres hi.dfr ⟨Sv.none,[],by rw[h4],World.ownsRow_nil w' _ _ _,(fun b hb=>by cases hb),PV.RepLL.nil,(fun r hr=>by cases hr),rfl,hk0,G⟩
 | _=>exact h1.elim
section
variable {C:Cx} {tys:List Nat} {o:Oper} {st:St}
theorem aah {c:Call} {f:FuncId} {ss:List SV} {ps:List PV} {e k id:Nat} {ts:List Nat} {xs:List (List PV)} {Tg:List Nat} (hp:NCalls C.P Tg f ps e k ts xs) (ho:o.op=.call c) (hc:c.callee=.value (.func f)) (ha:evL st c.args.toList=some ss) (hco:lz st ss=some ps) (hids:(SV.idsL ss).isEmpty=true) (hre:st.res id=none) (he:st.tys.contains e=true) (hT:Tg.all (fun t=>C.T.contains t)=true) (hty:Tg.all (fun t=>!st.tys.contains t)=true) (hd:∀d,o.dst=some d→C.dk d):
  OpE C st.tys o st ⟨.tok id,some (id,.tok e k ts xs),[id],true⟩:=by
 have hids:=List.isEmpty_iff.1 hids;refine⟨fun i r e1=>by injection e1 with e1;injection e1 with e1 e2;subst e1 e2;exact⟨zH.2 rfl,zE.1 he⟩,fun st1 h1 h2 h3 a w ⟨B,T,hi⟩=>?_⟩;rw[← h2 id (zH.2 rfl)] at hre;have ha':=ha;rw[← jp (o:=o) (st1:=st1) (rb:=[]) ⟨h1,fun i hi=>by cases hi⟩ fun x hx=>by
  rw[ho];simp only[Op.operands,Call.operands,hc,Array.mem_append];exact .inr (Array.mem_toList_iff.1 hx)] at ha'
 obtain⟨g1,g2⟩:=kj hi ha';have hco':=(i8 hco).move (st1:=st1) fun i hi=>by rw[hids] at hi;cases hi
 have old:∀b,Own0 C st1 B T b→b < w.heap.size:=fun b hb=>by
  rcases hb with hb | ⟨i,r,hr,hb⟩
  ·exact nk (C.old b hb) hi.gr.size
  ·exact ((hi.inn i r hr).lo hb).2
 have hrep:PV.RepL w (Own0 C st1 B T) ps (c.args.toList.map a.eval):=CoL.rep hi hco' g1 fun b hb=>⟨hb,fun ⟨i,hi,k⟩=>by rw[hids] at hi;cases hi⟩
 have run:(execOp a.eval o).run C.P w=.ok (.enter f (c.args.map a.eval)) w:=by
  simp only[execOp,ho,resolve,hc,Sem.run_bind];have hf:a.eval (.func f)=.func (.func f) #[] #[]:=rfl;rw[hf];simp only[Deferred.ofValue];simp[invoke,j6 hp.1]
 refine eo run ?_;have hcall:=hp.2 w (Own0 C st1 B T) (c.args.toList.map a.eval) old (fun b cs t fr hb hh ht=>by
  have htc:=zG.1 hT t ht;have hty':=zG.1 hty t ht;rcases hb with hb1 | ⟨i,r,hr,hb1⟩
  ·have hh':C.w0.heap[b]?=some (.cells cs t fr):=by rw[← hi.gr.old hb1];exact hh
   exact C.hT b cs t fr hb1 hh' (zE.1 htc)
  ·have h4:=(hi.inn i r hr).typ hb1 hh;have h5:=h3 i r hr;rw[← h4] at h5;rw[zE.2 h5] at hty';cases hty') hrep
 rw[show (c.args.map a.eval)=(c.args.toList.map a.eval).toArray from by rw[← Array.toList_map,Array.toArray_toList]];refine hcall.mono fun ex w' ⟨x,vs,hv,k1,k2,k3,k4,k5,k6,G⟩=>⟨x.v,hv,?_⟩
 exact a60 (own:=none) hi (fun r hr=>by rw[hre] at hr;cases hr) (fun _=>rfl) (G.fr.wide fun _ _ h=>h.elim) k1 (by
  cases hb:x.v.ownBlock with
  | none=>exact .inr (.inr rfl)
  | some b=>exact .inr (.inl ⟨b,rfl,k2 b hb⟩)) k3 k4 k5 k6 hd
end
end Go.Proofs.YtbhbainhmfjpdaaGreatDoor
