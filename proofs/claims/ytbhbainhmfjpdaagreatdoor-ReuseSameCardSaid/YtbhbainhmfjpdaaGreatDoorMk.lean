/- Walks of the search and of what it calls, part 11. -/
import Derived.Test.YtbhbainhmfjpdaaGreatDoorMj
import Derived.Laws.StructEq
set_option linter.unusedVariables false
set_option linter.unusedSimpArgs false
set_option maxRecDepth 100000
set_option maxHeartbeats 8000000
namespace Go.Proofs.YtbhbainhmfjpdaaGreatDoor
open Go.RowKit
theorem a8x {l:List Q} (hl:l.length≤1000) (h:∀q∈l,q.Sm∧q.Ok):PCalls Tryz.prog [] 141 [dg l] (bP true):=by
 refine pcA [] Tryz.func141 (fun D=>?_);refine au ?_;refine pl (ι:={i:Nat // i≤l.length}) (fun i=>[(0,.pv (dg l)),(2,.pv (bP false)),(3,.pv (iP i.1))]) (fun _=>[]) [] (fun i=>l.length - i.1) ⟨0,nq _⟩ (ai Y (ai Y (ai Y trivial))) trivial (fun _=>rfl) ?_;intro ⟨i,hi⟩;refine a2 (fun e7=>?_) (fun e7=>?_)
 ·refine ax (c:=(ae (ge (dw e7)))) ?_;refine ac (c:=mm (h _ (mg (ge (dw e7)))).1 (h _ (mg (ge (dw e7)))).2) ?_;refine aa (c:=a8 (by have:i < l.length:=dw e7;show i≤_;omega)) ?_;refine au ?_;exact pe ⟨i+1,dw e7⟩ (ai Y (ai Y (ai Y trivial))) trivial Y (by have:i < l.length:=dw e7;show l.length - (i+1) < l.length - i;omega)
 ·exact ar (c:=rfl)
structure Rgm.Va (r:Rgm) (n s:Nat):Prop where
 i0:1≤n
 i9:n≤256
 lo:r.lo.length=n
 hi:r.hi.length=n
 los:∀q∈r.lo,q.S s
 his:∀q∈r.hi,q.S s
 le:∀(i:Nat) (a b:Q),r.lo[i]?=some a→r.hi[i]?=some b→isg (Q.add a b.neg').neg (Q.add a b.neg').num≤0∧Q.cmpQ a b≤0
 r9:r.rows.length≤256
 rows:∀f∈r.rows,f.Ok n∧f.S s n
 s9:s≤1000
structure Qr.Va (q:Qr) (s:Nat):Prop where
 g:q.g.Va
 us:∀f∈q.g.units,f.S s (q.g.inputs+q.g.units.length)
 rg:q.rg.Va q.g.inputs s
 ok:q.goal.Ok (q.g.inputs+q.g.units.length)
 goal:q.goal.S 100 (q.g.inputs+q.g.units.length)
theorem Fm.S.fsm {s l v:Nat} {f:Fm} (h:f.S s l) (hs:s≤10000) (k:f.Ok v):f.Sm v:=⟨k,fun t ht=>(h.each t ht).sm hs,h.const.sm hs⟩
theorem a90 {r:Rgm} {n s:Nat} (h:r.Va n s):PCalls Tryz.prog TU 86 [rgP r,iP n] (bP true):=by
 refine pcA [30] Tryz.func86 (fun D=>?_);refine akF (c:=by exact (show _=false from df (by have:=h.i0;omega))) ?_;refine akF (c:=by exact (show _=false from df (by have:=h.i9;omega))) ?_;refine akF (c:=by exact (show _=false from by rw[zB,h.lo];exact bne_self_eq_false _)) ?_;refine akF (c:=by exact (show _=false from by rw[zB,h.hi];exact bne_self_eq_false _)) ?_;refine akF (c:=by exact (show _=false from df (by have:=h.r9;rw[zB];omega))) ?_;refine ac (c:=a8x (by have:=h.lo;have:=h.i9;omega) fun q hq=>⟨(h.los q hq).sm (by have:=h.s9;omega),(h.los q hq).ok⟩) ?_;refine ac (c:=a8x (by have:=h.hi;have:=h.i9;omega) fun q hq=>⟨(h.his q hq).sm (by have:=h.s9;omega),(h.his q hq).ok⟩) ?_;refine ac (c:=a8w fun f hf=>(h.rows f hf).2.fsm (by have:=h.s9;omega) (h.rows f hf).1) ?_;refine au ?_;refine pl (ι:={i:Nat // i≤n}) (fun i=>[(1,.pv (iP n)),(2,.box 2 0),(5,.pv (iP i.1))]) (fun _=>[(2,.box 30 [.pv (dg r.lo),.pv (dg r.hi),.pv (bc r.rows)])]) [30] (fun i=>n - i.1) ⟨0,nq _⟩ (ai Y (ai Y (ai Y trivial))) (ai Y trivial) (fun _=>rfl) ?_;intro ⟨i,hi⟩;refine a2 (fun e51=>?_) (fun e51=>?_)
 ·have h1:i < r.lo.length:=by have:i < n:=i_lt e51;have:=h.lo;omega
  have h2:i < r.hi.length:=by have:i < n:=i_lt e51;have:=h.hi;omega
  have hlo:=h.los _ (mg (ab h1));have hhi:=h.his _ (mg (ab h2));have hs9:=h.s9;refine ax (c:=(ae (ab h1))) ?_;refine ax (c:=(ae (ab h2))) ?_;refine ac (c:=a3a (hlo.sm om) (hhi.sm om) hlo.ok hhi.neg.ok ((hlo.add hhi.neg).sm om)) ?_;refine akF (c:=by exact (show _=false from df (by have:=(h.le i _ _ (ab h1) (ab h2)).1;omega))) ?_;refine aa (c:=a8 (by have:i < n:=i_lt e51;have:=h.i9;show i≤_;omega)) ?_;refine au ?_;exact pe ⟨i+1,i_lt e51⟩ (ai Y (ai Y (ai Y trivial))) (ai Y trivial) Y (by have:i < n:=i_lt e51;show n - (i+1) < n - i;omega)
 ·exact ar (c:=rfl)
theorem al6 {g:Gm} (h:g.Va):PCalls Tryz.prog [] 88 [gmP g] (iP ((g.inputs+g.units.length:Nat):Int)):=by
 refine pcA [27] Tryz.func88 (fun D=>?_);refine ac (c:=a51 h) ?_;refine aa (c:=j9 (by have:=h.i9;omega) (by have:=h.i9;omega) om (by have:=h.u9;rw[zB];omega)) ?_;exact ar (c:=by rw[zB];rfl)
theorem tv {q:Qr} {s:Nat} (h:q.Va s):PCalls Tryz.prog TU 40 [qyP q] (bP true):=by
 refine pcA [39] Tryz.func40 (fun D=>?_);refine ac (c:=a51 h.g) ?_;refine ac (c:=a90 h.rg) ?_;refine ac (c:=al6 h.g) ?_;refine ac (c:=r_v7 (h.goal.fsm (by have:=h.rg.s9;omega) h.ok)) ?_;exact ar (c:=rfl)
abbrev sgQ (q:Q):Int:=isg q.neg q.num
def cz (q:Qr) (d:Dc):Bool:=
 bif d.kind == 1||d.kind == 2 then decide (0≤d.index)&&(decide (d.index < (q.g.units.length:Int))&&decide (d.at_=Q.zero))
 else bif d.kind == 3||d.kind == 4 then decide (0≤d.index)&&decide (d.index < (q.g.inputs:Int)) else false
def hitQ (q:Qr) (kind unit:Int) (d:Dc):Bool:=d.kind == kind&&(d.index == unit&&cz q d)
def je (s:Sc) (kind unit:Int):Bool:=s.path.any (hitQ s.q kind unit)
def aw (ls:List Lm) (n unit:Int) (upper:Bool):Q×Bool:=
 bif decide (n < 1)||(decide ((ls.length:Int) < n)||(((atZ ls (n - 1)).unit != unit)||((atZ ls (n - 1)).upper != upper))) then (Q.zero,false)
 else (ci (atZ ls (n - 1)).value,true)
def onQ (s:Sc) (r:Rw) (l:Q×Bool):Bool:=r.hi == 0&&((r.lo == 0&&je s 1 r.index)||(l.2&&decide (0≤sgQ l.1)))
def offQ (s:Sc) (r:Rw) (u:Q×Bool):Bool:=r.lo == 0&&((r.hi == 0&&je s 2 r.index)||(u.2&&decide (sgQ u.1≤0)))
def bz (v p:Fm) (l u:Q×Bool) (on off:Bool) (r:Rw):Fm×Bool:=
 bif r.kind == 5 then (v,r.lo == 0&&r.hi == 0)
 else bif r.kind == 6 then (Fm.subR v p,r.lo == 0&&r.hi == 0)
 else bif r.kind == 7 then (p,on)
 else bif r.kind == 8 then (Fm.subR p v,on)
 else bif r.kind == 9 then (Fm.scaleR p Q.mone,off)
 else bif r.kind == 10 then (Fm.scaleR v Q.mone,off)
 else bif r.kind == 11 then (Fm.subR p (numR l.1),l.2&&r.hi == 0)
 else bif r.kind == 12 then (Fm.subR (numR u.1) p,u.2&&r.lo == 0)
 else bif r.kind == 13 then (Fm.subR (Fm.scaleR (Fm.subR p (numR l.1)) u.1) (Fm.scaleR v (Q.add u.1 l.1.neg')),l.2&&(u.2&&(decide (sgQ l.1 < 0)&&decide (0 < sgQ u.1))))
 else (Fm.zero,false)
def ce (s:Sc) (r:Rw):Fm×Bool:=
 bif decide (r.index < 0)||decide ((s.q.g.units.length:Int)≤r.index) then (Fm.zero,false)
 else
  bif (bz (varR (s.q.g.inputs+r.index)) (atZ s.q.g.units r.index) (aw s.lems r.lo r.index false) (aw s.lems r.hi r.index true) (onQ s r (aw s.lems r.lo r.index false)) (offQ s r (aw s.lems r.hi r.index true)) r).2
  then ((bz (varR (s.q.g.inputs+r.index)) (atZ s.q.g.units r.index) (aw s.lems r.lo r.index false) (aw s.lems r.hi r.index true) (onQ s r (aw s.lems r.lo r.index false)) (offQ s r (aw s.lems r.hi r.index true)) r).1,true)
  else (Fm.zero,false)
def gk (d:Dc):Fm×Bool:=bif d.kind == 3 then (Fm.subR (varR d.index) (numR d.at_),true) else bif d.kind == 4 then (Fm.scaleR (Fm.subR (varR d.index) (numR d.at_)) Q.mone,true) else (Fm.zero,false)
def bo (s:Sc) (r:Rw):Fm×Bool:=
 bif decide (5≤r.kind) then ce s r
 else bif (r.lo != 0)||((r.hi != 0)||decide (r.index < 0)) then (Fm.zero,false)
 else bif r.kind == 1 then (bif decide (r.index < (s.q.rg.lo.length:Int)) then (Fm.subR (varR r.index) (numR (atZ s.q.rg.lo r.index)),true) else (Fm.zero,false))
 else bif r.kind == 2 then (bif decide (r.index < (s.q.rg.hi.length:Int)) then (Fm.subR (numR (atZ s.q.rg.hi r.index)) (varR r.index),true) else (Fm.zero,false))
 else bif r.kind == 3 then (bif decide (r.index < (s.q.rg.rows.length:Int)) then (atZ s.q.rg.rows r.index,true) else (Fm.zero,false))
 else bif r.kind == 4 then (bif decide ((s.path.length:Int)≤r.index)||!cz s.q (atZ s.path r.index) then (Fm.zero,false) else gk (atZ s.path r.index))
 else (Fm.zero,false)
structure Sc.Va (s:Sc) (a b:Nat):Prop where
 q:s.q.Va a
 path:∀d∈s.path,d.at_.S a
 p9:s.path.length≤1000
 lems:∀m∈s.lems,m.value.S b
 l9:s.lems.length≤1000
 b1:1≤b
 b9:b≤8
 a9:a≤2
 n9:s.q.g.inputs+s.q.g.units.length≤8
theorem a0r {α:Type} [Inhabited α] {f:α→Bool} {l:List α} {i:Nat} (h:(l.take i).any f=false) (hi:i < l.length) (hf:f (atZ l i)=false):(l.take (i+1)).any f=false:=by
 rw[List.take_add_one,List.any_append,h,ab hi];simp[hf]
theorem akq {α:Type} {f:α→Bool} {l:List α} {i:Nat} (h:(l.take i).any f=false) (hi:l.length≤i):l.any f=false:=by rwa [List.take_of_length_le hi] at h
theorem akp {α:Type} [Inhabited α] {f:α→Bool} {l:List α} {i:Nat} (hi:i < l.length) (hf:f (atZ l i)=true):l.any f=true:=List.any_eq_true.2 ⟨_,mg (ab hi),hf⟩
theorem np {ls:List Lm} {n unit:Int} {up:Bool} {b:Nat} (h:∀m∈ls,m.value.S b) (hb:1≤b):(aw ls n unit up).1.S b:=by
 unfold aw;cases h1:decide (n < 1) with
 | true=>exact sz_zero.up hb
 | false=>
  cases h2:decide ((ls.length:Int) < n) with
  | true=>exact sz_zero.up hb
  | false=>
   have h3:=zM h1;have h4:=zM h2;cases ((atZ ls (n - 1)).unit != unit)||((atZ ls (n - 1)).upper != up) with
   | true=>exact sz_zero.up hb
   | false=>
    have:=h _ (bg (l:=ls) (z:=n - 1) om om);show (ci _).S b;rw[this.canon];exact this
def gx (a b:Rw):Bool:=bif a.kind != b.kind then decide (a.kind < b.kind) else bif a.index != b.index then decide (a.index < b.index) else bif a.lo != b.lo then decide (a.lo < b.lo) else decide (a.hi < b.hi)
def jr (a b:Rw):Bool:=a.kind == b.kind&&(a.index == b.index&&(a.lo == b.lo&&a.hi == b.hi))
theorem z8 {a b:Rw}:jr a b=decide (a=b):=by
 obtain⟨a1,a2,a3,a4⟩:=a;obtain⟨b1,b2,b3,b4⟩:=b;simp[jr,Bool.decide_and];rfl
abbrev rwA (a:Rw):Array Value:=#[.int .i64 a.kind,.int .i64 a.index,.int .i64 a.lo,.int .i64 a.hi]
theorem a08 (us:Array Value) (off:Nat) (v:Value) (w:World) (h:us[off]?=some v):(part 3 us off).run Tryz.prog w=.ok v w:=
 (pw (us:=us.toList) (t:=3) (n:=1) (d:=.int .i64) (by kernel_rfl) (by kernel_rfl)).1 rfl v (by simpa using h)
theorem an8 (d:Nat) (m n:Int) (w:World):(Op.equalIn (d+1) 3 (.int .i64 m) (.int .i64 n)).run Tryz.prog w=.ok (m == n) w:=run_equalIn_int w d _ .i64 .i64 m n (by kernel_rfl)
theorem a6w : (Tryz.prog.fieldsOf 96).toList.map (fun f => (f.name == "_", f.type, f.offset)) = [(false, 3, 0), (false, 3, 1), (false, 3, 2), (false, 3, 3)] := by kernel_rfl
theorem eqF (a b:Rw) (w:World):(Op.eqFields 9999 (rwA a) (rwA b) (Tryz.prog.fieldsOf 96).toList).run Tryz.prog w=.ok (jr a b) w:=by
 have h:=a6w;generalize (Tryz.prog.fieldsOf 96).toList=fs at h
 match fs,h with
 | [],h=>simp at h
 | [_],h=>simp at h
 | [_,_],h=>simp at h
 | [_,_,_],h=>simp at h
 | _::_::_::_::_::_,h=>simp at h
 | [f0,f1,f2,f3],h=>
  simp only[List.map_cons,List.map_nil,List.cons.injEq,Prod.mk.injEq,beq_eq_false_iff_ne,and_true] at h;obtain⟨⟨n0,t0,o0⟩,⟨n1,t1,o1⟩,⟨n2,t2,o2⟩,n3,t3,o3⟩:=h;have step : ∀ (f : Field) (fs : List Field) (m n : Int), f.name ≠ "_" → f.type = 3 → (rwA a)[f.offset]? = some (.int .i64 m) → (rwA b)[f.offset]? = some (.int .i64 n) → (Op.eqFields 9999 (rwA a) (rwA b) (f :: fs)).run Tryz.prog w = if m == n then (Op.eqFields 9999 (rwA a) (rwA b) fs).run Tryz.prog w else .ok false w := fun f fs m n h1 h2 h3 h4 => by
   rw[Op.eqFields,if_pos h1,h2];rw[Sem.run_bind,a08 _ _ _ _ h3,Result.andThen_ok,Sem.run_bind,a08 _ _ _ _ h4,Result.andThen_ok,Sem.run_bind,an8 9998,Result.andThen_ok];cases m == n<;>rfl
  rw[step f0 _ a.kind b.kind n0 t0 (by rw[o0];rfl) (by rw[o0];rfl),step f1 _ a.index b.index n1 t1 (by rw[o1];rfl) (by rw[o1];rfl),step f2 _ a.lo b.lo n2 t2 (by rw[o2];rfl) (by rw[o2];rfl),step f3 _ a.hi b.hi n3 t3 (by rw[o3];rfl) (by rw[o3];rfl)];unfold jr;cases a.kind == b.kind<;>cases a.index == b.index<;>cases a.lo == b.lo<;>cases a.hi == b.hi<;>rfl
section
variable {T:List Nat} {Z:Nat} {D:Dom Tryz.prog T Z} {N:Nat} {st:St} {Q:Exit→St→Prop} {ops:List Oper} {draw:Bool} {acc:List Itm}
theorem aj9 {C:Cx} (hP:C.P=Tryz.prog) {o:Oper} {op:BinOp} {t2:Nat} {x y:Operand} {sx sy:SV} {a b:Rw} (r:Bool) (ho:o.op=.binOp op 96 x y t2) (hx:ev st x=some sx) (hy:ev st y=some sy) (cx:coSV st sx=some (rwP a)) (cy:coSV st sy=some (rwP b)) (ix:sx.ids=[]) (iy:sy.ids=[]) (hop:(op=.eql∧r=jr a b)∨(op=.neq∧r=!jr a b)) (hd:∀d,o.dst=some d→C.dk d):OpE C st.tys o st (valE (.pv (.raw (.bool r))) []):=by
 refine bj hd fun st1 ag a1 w B T hi=>?_
 have hx':=hx;have hy':=hy;rw[← ag.ev (by rw[ho];simp[Op.operands])] at hx' hy';have mv:∀{s:SV} {p:PV},coSV st s=some p→s.ids=[]→Co st1 s p:=fun h h0=>(io h).move fun i hi=>by rw[h0] at hi;cases hi
 have key:∀{s:SV} {c:Rw} {v:Value},Co st1 s (rwP c)→s.ids=[]→SV.Rep w (Own0 C st1 B T) B T s v→v=.agg (rwA c):=fun {s c v} h h0 h1=>by
  have:=Co.rep hi h h1 (X:=Own0 C st1 B T) fun b hb=>⟨hb,fun ⟨i,hi2,_⟩=>by rw[h0] at hi2;cases hi2⟩
  rw[PV.Rep] at this;obtain⟨us,rfl,h2⟩:=this;unfold rwC at h2;simp only[PV.RepL,PV.Rep] at h2;obtain⟨u1,l1,rfl,rfl,u2,l2,rfl,rfl,u3,l3,rfl,rfl,u4,l4,rfl,rfl,rfl⟩:=h2;rfl
 have h1:=key (mv cx ix) ix (az hi hx').1;have h2:=key (mv cy iy) iy (az hi hy').1;refine⟨.bool r,?_,by rw[SV.Rep,PV.Rep],fun i hi=>by cases (show i∈([]:List Nat) from hi)⟩;have hm:C.P.eqGuardType C.P.depth 96=false:=by rw[hP];kernel_rfl
 simp only[execOp,ho,h1,h2];rw[Sem.run_bind,Sem.run_bind,run_eqGuard_agg w op _ x y _ _ hm,Result.andThen_ok];have e:(Op.equalIn 10000 96 (.agg (rwA a)) (.agg (rwA b))).run C.P w=.ok (jr a b) w:=by
  rw[hP,run_equalIn_agg w 9999 _ _ _ (by kernel_rfl) (by kernel_rfl)];exact eqF a b w
 rcases hop with ⟨rfl,rfl⟩ | ⟨rfl,rfl⟩
 ·rw[run_eql_struct,e];rfl
 ·rw[run_neq_struct,e];rfl
theorem rr0 {k:Nat} {ks:List Nat} {dst:Option Nat} {op:BinOp} {t2:Nat} {x y:Operand} {sx sy:SV} {a b:Rw} {ty:TypeId} {ps:String} {af:Array Edge} {gd:Option (Nat×Bool)} (r:Bool) (hk:nthL ops k=some ⟨dst,.binOp op 96 x y t2,ty,ps,af,gd⟩) (hw:co ops.toArray ⟨dst,.binOp op 96 x y t2,ty,ps,af,gd⟩ st=some true) (hd:dstB ⟨dst,.binOp op 96 x y t2,ty,ps,af,gd⟩ N Z=true) (hx:ev st x=some sx) (hy:ev st y=some sy) (cx:coSV st sx=some (rwP a)) (cy:coSV st sy=some (rwP b)) (ix:sx.ids=[]) (iy:sy.ids=[]) (hop:(op=.eql∧r=jr a b)∨(op=.neq∧r=!jr a b))
  (next:Reg (D.cx N) ops draw Q (acc++[⟨k,true,valE (.pv (.raw (.bool r))) [],lkOf ops k st (valE (.pv (.raw (.bool r))) [])⟩]) ks ((valE (.pv (.raw (.bool r))) []).app dst st)):Reg (D.cx N) ops draw Q acc (k::ks) st:=
 dh hk hw hd (fun hd=>aj9 (C:=D.cx N) rfl r rfl hx hy cx cy ix iy hop hd) next
end
section
variable {C:Cx} {o:Oper} {st:St}
theorem amm {f:FuncId} {caps:Array Operand} {ss:List SV} (ho:o.op=.makeFunc (.func f) #[] caps) (ha:evL st caps.toList=some ss) (hd:∀d,o.dst=some d→C.dk d):OpE C st.tys o st (valE (.fn f ss) []):=by
 refine bj hd fun st1 ag a w B T hi=>?_
 rw[← jp ag fun x hx=>by
  rw[ho];simp only[Op.operands];first | exact Array.mem_toList_iff.1 hx | (simp;exact Array.mem_toList_iff.1 hx)] at ha
 obtain⟨g1,g2⟩:=kj hi ha;refine⟨.func (.func f) #[] (caps.toList.map a.eval).toArray,?_,by rw[SV.Rep];exact⟨_,rfl,g1⟩,fun i hi=>g2 i (by rw[SV.ids] at hi;exact hi)⟩;simp only[execOp,ho];rw[show (caps.toList.map a.eval).toArray=caps.map a.eval from by rw[← Array.toList_map,Array.toArray_toList]];simp[Instr.makeFunc]
end
section
variable {C:Cx} {tys:List Nat} {o:Oper} {st:St}
theorem a1q {c:Call} {f:FuncId} {ss:List SV} {ps:List PV} {res:PV} {Tg:List Nat} (ho:o.op=.call c) {x:Operand} {sf:SV} {ps2:List PV} (hc:c.callee=.value x) (hx:ev st x=some sf) (hcf:Co st sf (.fn f ps2)) (ha:evL st c.args.toList=some ss) (hco:CoL st ss ps) (hp:PCalls C.P Tg f (ps++ps2) res) (hT:Tg.all (fun t=>C.T.contains t)=true) (hty:Tg.all (fun t=>!st.tys.contains t)=true) (hl:ta st (SV.idsL ss++sf.ids) res.ty=true) (hd:∀d,o.dst=some d→C.dk d):
  OpE C st.tys o st (valE (.pv res) (SV.idsL ss++sf.ids)):=by
 refine⟨fun i r e=>(by cases e),fun st1 h1 h2 h3 a w ⟨B,T,hi⟩=>?_⟩;have h2':∀i∈SV.idsL ss++sf.ids,st1.res i=st.res i:=fun i hi=>h2 i (zL _ hi)
 have ha':=ha;rw[← jp (o:=o) (st1:=st1) (rb:=[]) ⟨h1,fun i hi=>by cases hi⟩ fun x hx=>by
  rw[ho];simp only[Op.operands,Call.operands,hc,Array.mem_append];exact .inr (Array.mem_toList_iff.1 hx)] at ha'
 obtain⟨g1,g2⟩:=kj hi ha';have hco':=hco.move fun i hi=>h2' i (zL _ hi)
 have hcf':=hcf.move fun i hi=>h2' i (zV _ hi)
 have hx':=hx;rw[← (show Agree o [] st st1 from ⟨h1,fun i hi=>by cases hi⟩).ev (by rw[ho];simp[Op.operands,Call.operands,hc])] at hx';have gf:=(az hi hx').1
 let X:Nat→Prop:=fun b=>Own0 C st1 B T b∧¬lent st1 B T (SV.idsL ss++sf.ids) b
 have old:∀b,Own0 C st1 B T b→b < w.heap.size:=fun b hb=>by
  rcases hb with hb | ⟨i,r,hr,hb⟩
  ·exact nk (C.old b hb) hi.gr.size
  ·have hin:=hi.inn i r hr;cases r with
   | box ty' cells'=>
    obtain⟨h1,vs,h2,h3⟩:=hin;simp only[Res.blk,oq] at hb;rw[← hb];exact h2.lt
   | tok e' k ts xs=>
    obtain⟨vs,h1,_⟩:=hin;exact (ma h1 b hb).2
 have hrep:PV.RepL w X ps (c.args.toList.map a.eval):=CoL.rep hi hco' g1 fun b hb=>⟨hb.1,fun ⟨i,hi,k⟩=>hb.2 ⟨i,zL _ hi,k⟩⟩
 obtain⟨us2,hf2,hrep2⟩:∃us2:List Value,a.eval x=.func (.func f) #[] us2.toArray∧PV.RepL w X ps2 us2:=by
  have:=Co.rep hi hcf' gf (X:=X) fun b hb=>⟨hb.1,fun ⟨i,hi,k⟩=>hb.2 ⟨i,zV _ hi,k⟩⟩
  rw[PV.Rep] at this;exact this
 have run:(execOp a.eval o).run C.P w=.ok (.enter f (c.args.map a.eval++us2.toArray)) w:=by
  simp only[execOp,ho,resolve,hc,Sem.run_bind];rw[hf2];simp only[Deferred.ofValue];simp[invoke,j6 hp.1]
 refine eo run ?_;have hcall:=hp.2 w X (c.args.toList.map a.eval++us2) (fun b hb=>old b hb.1) (fun b cs t fr hb hh ht=>by
  have htc:=zG.1 hT t ht;have hty':=zG.1 hty t ht;rcases hb.1 with hb1 | ⟨i,r,hr,hb1⟩
  ·have hlt:=C.old b hb1;have hh':C.w0.heap[b]?=some (.cells cs t fr):=by rw[← hi.gr.old hb1];exact hh
   exact C.hT b cs t fr hb1 hh' (zE.1 htc)
  ·have hrt:=h3 i r hr;have:r.typ=t:=by
    have hin:=hi.inn i r hr;cases r with
    | box ty' cells'=>
     obtain⟨k1,vs,k2,k3⟩:=hin;simp only[Res.blk,oq] at hb1;exact (k2.typ (hb1▸hh)).symm
    | tok e' k ts xs=>
     obtain⟨vs,k1,_⟩:=hin;obtain⟨cur,k2⟩:=a8h k1 b hb1;rw[k2] at hh;injection hh with hh;injection hh with _ hh _
   rw[this] at hrt;simp only[Bool.not_eq_true'] at hty';have:=zE.2 hrt;rw[hty'] at this;cases this) (PV.RepL.append hrep hrep2)
 rw[show (c.args.map a.eval++us2.toArray)=(c.args.toList.map a.eval++us2).toArray from by rw[← Array.toList_map];simp];refine hcall.mono fun e w' ⟨v,he,hv,G⟩=>⟨v,he,?_⟩
 refine ow hi G ?_ (fun i hi=>by cases (show i∈([]:List Nat) from hi)) hd;rw[SV.Rep];refine hv.still ⟨nr _,fun b cs t fr hx hh ht=>⟨rfl,fun hb=>?_⟩⟩;by_cases hlent:lent st1 B T (SV.idsL ss++sf.ids) b
 ·obtain⟨i,hi1,r,hr,hb2⟩:=hlent;have hl1:=zG.1 hl i hi1;rw[← h2' i hi1,hr] at hl1;simp only[Bool.not_eq_true'] at hl1;have hin:=hi.inn i _ hr;rw[G.below.block b (old b (.inr ⟨i,r,hr,hb2⟩))] at hh;have htyp:t=r.typ:=by
   cases r with
   | box ty' cells'=>
    obtain⟨k1,vs,k2,k3⟩:=hin;simp only[Res.blk,oq] at hb2;exact k2.typ (hb2▸hh)
   | tok e' k ts xs=>
    obtain⟨us,q1,_⟩:=hin;obtain⟨cur,q2⟩:=a8h q1 b hb2;rw[q2] at hh;injection hh with hh;injection hh with _ hh _;exact hh.symm
  subst htyp;rw[zE.2 ht] at hl1;cases hl1
 ·exact hx ⟨hb,hlent⟩
end
section
variable {T:List Nat} {Z:Nat} {D:Dom Tryz.prog T Z} {N:Nat} {st:St} {Q:Exit→St→Prop} {ops:List Oper} {draw:Bool} {acc:List Itm}
theorem rmk {k:Nat} {ks:List Nat} {dst:Option Nat} {f:FuncId} {caps:Array Operand} {ss:List SV} {ty:TypeId} {ps:String} {af:Array Edge} {gd:Option (Nat×Bool)} (hk:nthL ops k=some ⟨dst,.makeFunc (.func f) #[] caps,ty,ps,af,gd⟩) (hw:co ops.toArray ⟨dst,.makeFunc (.func f) #[] caps,ty,ps,af,gd⟩ st=some true) (hd:dstB ⟨dst,.makeFunc (.func f) #[] caps,ty,ps,af,gd⟩ N Z=true) (ha:evL st caps.toList=some ss)
  (next:Reg (D.cx N) ops draw Q (acc++[⟨k,true,valE (.fn f ss) [],lkOf ops k st (valE (.fn f ss) [])⟩]) ks ((valE (.fn f ss) []).app dst st)):Reg (D.cx N) ops draw Q acc (k::ks) st:=dh hk hw hd (fun hd=>amm (C:=D.cx N) rfl ha hd) next
theorem rcv {k:Nat} {ks:List Nat} {c:Call} {f:FuncId} {x:Operand} {sf:SV} {ss:List SV} {ps ps2:List PV} {res:PV} {Tg:List Nat} {dst:Option Nat} {ty:TypeId} {pos:String} {af:Array Edge} {gd:Option (Nat×Bool)} (hp:PCalls Tryz.prog Tg f (ps++ps2) res) (hk:nthL ops k=some ⟨dst,.call c,ty,pos,af,gd⟩) (hw:co ops.toArray ⟨dst,.call c,ty,pos,af,gd⟩ st=some true) (hd:dstB ⟨dst,.call c,ty,pos,af,gd⟩ N Z=true) (hc:c.callee=.value x) (hx:ev st x=some sf) (hcf:coSV st sf=some (.fn f ps2)) (ha:evL st c.args.toList=some ss) (hco:lz st ss=some ps) (hT:(Tg.all (fun t=>T.contains t)&&(Tg.all (fun t=>!st.tys.contains t)&&ta st (SV.idsL ss++sf.ids) res.ty))=true) (next:Reg (D.cx N) ops draw Q (acc++[⟨k,true,valE (.pv res) (SV.idsL ss++sf.ids),lkOf ops k st (valE (.pv res) (SV.idsL ss++sf.ids))⟩]) ks ((valE (.pv res) (SV.idsL ss++sf.ids)).app dst st)):Reg (D.cx N) ops draw Q acc (k::ks) st:=by
 simp only[be] at hT;exact dh hk hw hd (fun hd=>a1q (C:=D.cx N) rfl hc hx (io hcf) ha (i8 hco) hp hT.1 hT.2.1 hT.2.2 hd) next
end
section
variable {C:Cx} {o:Oper} {st:St} {x:Operand} {k:IntKind} {m:Int}
theorem aaa {t t2:Nat} {y:Operand} {n:Int} (ho:o.op=.binOp .rem t x y t2) (hx:ev st x=some (.pv (.raw (.int k m)))) (hy:ev st y=some (.pv (.raw (.int k n)))) (hn:n≠0) (hd:∀d,o.dst=some d→C.dk d):OpE C st.tys o st (valE (.pv (.raw (.int k (m.tmod n)))) []):=by
 refine ou ho hx hy (fun w=>?_) hd;simp[binOp,Op.intDiv,eqGuard,hn]
theorem a5m {s d:Nat} {j:IntKind} {ds:TypeDesc} (ho:o.op=.convert s d x) (hx:ev st x=some (.pv (.raw (.int k m)))) (hs:C.P.underlying s=some ds) (hu:C.P.underlying d=some (.int j)) (hd:∀d,o.dst=some d→C.dk d):OpE C st.tys o st (valE (.pv (.raw (.int j (j.wrap m)))) []):=by
 refine bj hd fun st1 ag a w B T hi=>?_
 rw[← ag.ev (by rw[ho];simp[Op.operands])] at hx;have h1:=(az hi hx).1;rw[SV.Rep,PV.Rep] at h1;refine⟨.int j (j.wrap m),?_,by rw[SV.Rep,PV.Rep],fun i hi=>by cases (show i∈([]:List Nat) from hi)⟩;simp[execOp,ho,h1,convert,run_underlying hs,run_underlying hu,Conv.intToInt]
theorem ajb {c:Call} {y:Operand} {n:Int} (ho:o.op=.call c) (hc:c={ callee:=.builtin .min,args:=#[x,y],argTypes:=c.argTypes }) (hx:ev st x=some (.pv (.raw (.int k m)))) (hy:ev st y=some (.pv (.raw (.int k n)))) (hd:∀d,o.dst=some d→C.dk d):OpE C st.tys o st (valE (.pv (.raw (.int k (if n < m then n else m)))) []):=by
 refine bj hd fun st1 ag a w B T hi=>?_
 rw[hc] at ho;rw[← ag.ev (by rw[ho];simp[Op.operands,Call.operands])] at hx hy;have h1:=(az hi hx).1;have h2:=(az hi hy).1;rw[SV.Rep,PV.Rep] at h1 h2;refine⟨.int k (if n < m then n else m),?_,by rw[SV.Rep,PV.Rep],fun i hi=>by cases (show i∈([]:List Nat) from hi)⟩;unfold execOp;simp only[ho,resolve,invoke,builtin,Sem.run_bind,Sem.run_pure,Result.andThen_ok,List.map_toArray,List.map_cons,List.map_nil,h1,h2];simp[Builtin.min_,Builtin.min2]
end
section
variable {C:Cx} {o:Oper} {st:St} {t:Nat}
theorem a1o {tab:Tab} (hT:ie C.P tab) {x:Operand} {l:Lay} {id ty off:Nat} {cs:List SV} {s:SV} (ho:o.op=.load t x) (hl:tab.get t=some l) (hag:l.agg=false) (hx:ev st x=some (.box id off)) (hre:st.res id=some (.box ty cs)) (hs:cs[off]?=some s) (hd:∀d,o.dst=some d→C.dk d) (hb:(Nat.ble cs.length 1000000&&Nat.blt ty 1000000)=true:=by exact rfl):OpE C st.tys o st (valE s [id]):=by
 have lk:=Tab.get_ok hT hl;obtain⟨d,hu,hdr⟩:=lk.agg;refine bj hd fun st1 ag a w B T hi=>?_
 rw[← ag.ev (by rw[ho];simp[Op.operands])] at hx;rw[← ag.2 id (zL _ (zH.2 rfl))] at hre;have h1:=(az hi hx).1;rw[be] at hb;have hlt:=(gs hs).1;have hof:Nat.blt off 1000000=true:=Nat.ble_eq_true_of_le (nk hlt (zD hb.1));rw[SV.Rep,mw hof] at h1;obtain⟨g1,us,g2,g3⟩:=hi.inn id _ hre;have g2:=g2.bk hb.2;obtain⟨u,hu1,hu2⟩:=g3.at hs;have hc:w.cell? ⟨B id,off,none⟩=some u:=by rw[g2.cell];simpa using hu1
 refine⟨u,?_,hu2,fun i hi2=>hi.alive id _ hre i (gz (mg hs) hi2)⟩;simp only[execOp,ho,h1,Instr.loadAt,Instr.sureAddr,Sem.run_bind,Sem.run_pure,Result.andThen_ok];have:=iw (P:=C.P) (w:=w) hu (hdr.trans hag) hc;simp only[this,Result.andThen_ok]
theorem a5l {n e:Nat} {x y:Operand} {id off i:Nat} {kd:IntKind} {z:Int} (ho:o.op=.indexAddr t x y) (hu:C.P.underlying t=some (.array n e)) (hsz:(C.P.info? e).map (·.size)=some 1) (hx:ev st x=some (.box id off)) (hy:ev st y=some (.pv (.raw (.int kd z)))) (hz:z=(i:Int)) (hi:i < n) (hd:∀d,o.dst=some d→C.dk d) (hb:Nat.ble (off+n) 1000000=true:=by exact rfl):OpE C st.tys o st (valE (.box id (off+i)) []):=by
 refine bj hd fun st1 ag a w B T hi'=>?_
 rw[← ag.ev (by rw[ho];simp[Op.operands])] at hx hy;obtain⟨h1,h3⟩:=az hi' hx;have h2:=(az hi' hy).1;have hb:=zD hb;have ho1:Nat.blt off 1000000=true:=Nat.ble_eq_true_of_le om;have ho2:Nat.blt (off+i) 1000000=true:=Nat.ble_eq_true_of_le om;rw[SV.Rep,mw ho1] at h1;rw[SV.Rep,PV.Rep] at h2;refine⟨.pointer (some ((⟨B id,off,none⟩:Addr).add i)),?_,by rw[SV.Rep,mw ho2,ij],h3⟩;have hlt:(i:Int) < (n:Int):=by omega
 simp[execOp,ho,h1,h2,hz,Instr.indexAt,Instr.sureAddr,asIntOf,run_underlying hu,hlt,ke hsz];intro h;omega
theorem w9 {n e:Nat} {parts:Array (Nat×Operand)} {zs us:List Value} (ho:o.op=.build t parts) (hu:C.P.underlying t=some (.array n e)) (hsz:(C.P.info? e).map (·.size)=some 1) (hz:(C.P.info? t).bind (·.zero)=some (.agg zs.toArray)) (hparts:parts.toList.all (fun p=>match p.2 with
  | .func _ | .const _=>true
  | _=>false)=true) (hfill:Instr.fill (fun i=>some (i,1)) zs.toArray (parts.toList.map fun p=>(p.1,match p.2 with
  | .func f=>.func (.func f) #[] #[]
  | .const v=>v
  | _=>undef))=some us.toArray) (hd:∀d,o.dst=some d→C.dk d):OpE C st.tys o st (valE (.agg (us.map fun v=>.pv (.raw v))) []):=by
 refine bj hd fun st1 ag a w B T hi=>?_
 have hpm:(parts.map fun x=>match x with | (i,x)=>(i,a.eval x)).toList=parts.toList.map fun p=>(p.1,match p.2 with
  | .func f=>.func (.func f) #[] #[]
  | .const v=>v
  | _=>undef):=by
  rw[Array.toList_map];refine List.map_congr_left fun p hp=>?_
  have h1:=zG.1 hparts p hp;obtain⟨i,x⟩:=p;cases x with
  | func f=>rfl
  | const v=>rfl
  | _=>cases h1
 refine⟨.agg us.toArray,?_,?_,fun i hi=>?_⟩
 ·simp only[execOp,ho,Instr.build,Sem.run_bind,a34 hz,Result.andThen_ok,run_underlying hu,ke hsz,Value.cells,hpm];have h2:(fun i=>some (i*1,1))=fun i=>some (i,1):=funext fun i=>by rw[Nat.mul_one]
  first
   | (simp only[Nat.mul_one,hfill];rfl)
   | (simp[h2,hfill])
 ·rw[SV.Rep];refine⟨us,rfl,?_⟩;clear hfill ag
  induction us with
  | nil=>rw[List.map_nil,SV.RepL]
  | cons u us ih=>rw[List.map_cons];exact SV.RepL.cons (by rw[SV.Rep,PV.Rep]) ih
 ·obtain⟨c,hc,hi2⟩:=wz (show i∈SV.idsL (us.map fun v=>.pv (.raw v)) from hi);obtain⟨v,_,rfl⟩:=List.mem_map.1 hc;cases (show i∈([]:List Nat) from hi2)
end
section
variable {T:List Nat} {Z:Nat} {D:Dom Tryz.prog T Z} {N:Nat} {st:St} {Q:Exit→St→Prop} {ops:List Oper} {draw:Bool} {acc:List Itm}
theorem rcr {k:Nat} {ks:List Nat} {c:Call} {f:FuncId} {x:Operand} {sf:SV} {ss:List SV} {ps:List PV} {res:PV} {Tg:List Nat} {dst:Option Nat} {ty:TypeId} {pos:String} {af:Array Edge} {gd:Option (Nat×Bool)} (hp:PCalls Tryz.prog Tg f ps res) (hk:nthL ops k=some ⟨dst,.call c,ty,pos,af,gd⟩) (hw:co ops.toArray ⟨dst,.call c,ty,pos,af,gd⟩ st=some true) (hd:dstB ⟨dst,.call c,ty,pos,af,gd⟩ N Z=true) (hc:c.callee=.value x) (hx:ev st x=some sf) (hsf:sf=.pv (.raw (.func (.func f) #[] #[]))) (ha:evL st c.args.toList=some ss) (hco:lz st ss=some ps) (hT:(Tg.all (fun t=>T.contains t)&&(Tg.all (fun t=>!st.tys.contains t)&&ta st (SV.idsL ss) res.ty))=true) (next:Reg (D.cx N) ops draw Q (acc++[⟨k,true,valE (.pv res) (SV.idsL ss),lkOf ops k st (valE (.pv res) (SV.idsL ss))⟩]) ks ((valE (.pv res) (SV.idsL ss)).app dst st)):Reg (D.cx N) ops draw Q acc (k::ks) st:=by
 simp only[be] at hT;subst hsf;have h0:SV.idsL ss++(SV.pv (.raw (.func (.func f) #[] #[]))).ids=SV.idsL ss:=List.append_nil _;have h:=fun hd=>a1q (C:=D.cx N) (o:=⟨dst,.call c,ty,pos,af,gd⟩) (ps2:=[]) (f:=f) rfl hc hx (.fnr f) ha (i8 hco) (by rw[List.append_nil];exact hp) hT.1 hT.2.1 (by rw[h0];exact hT.2.2) hd
 rw[h0] at h;exact dh hk hw hd h next
end
theorem aeo {C:Cx} {o:Oper} {st:St} {y:Operand} {kd:IntKind} {z:Int} (hP:C.P=Tryz.prog) (hG:LaidG C.w0∧¬C.M 0) (ho:o.op=.indexAddr 224 (.global 0) y) (hy:ev st y=some (.pv (.raw (.int kd z)))) (h0:0≤z) (h5:z < 5) (hT:(C.T.contains 224)=true) (hd:∀d,o.dst=some d→C.dk d):OpE C st.tys o st (valE (.ref 224 [.raw (.int .i64 (oppK z))]) []):=by
 refine bj hd fun st1 ag a w B T hi=>?_
 rw[← ag.ev (by rw[ho];simp[Op.operands])] at hy;have h2:=(az hi hy).1;rw[SV.Rep,PV.Rep] at h2;have hl:=hG.1.cx hG.2 hi.gr;obtain⟨zs,fr,hz⟩:=hl.1;obtain⟨n,rfl⟩:∃n:Nat,z=(n:Int):=⟨z.toNat,by omega⟩;have hn:n < 5:=by omega
 have hu:C.P.underlying 224=some (.array 5 3):=by rw[hP];kernel_rfl
 have hsz:(C.P.info? 3).map (·.size)=some 1:=by rw[hP];kernel_rfl
 refine⟨.pointer (some ((⟨0,0,none⟩:Addr).add n)),?_,?_,fun i hi=>by cases (show i∈([]:List Nat) from hi)⟩
 ·have hlt:(n:Int) < 5:=by omega
  have hg:a.eval (.global 0)=.pointer (some ⟨0,0,none⟩):=rfl;simp[execOp,ho,hg,h2,Instr.indexAt,Instr.sureAddr,asIntOf,run_underlying hu,hlt,ke hsz];intro h;omega
 ·rw[SV.Rep];refine⟨(⟨0,0,none⟩:Addr).add n,[.int .i64 (oppK (n:Int))],rfl,PV.RepL.cons (by rw[PV.Rep]) PV.RepL.nil,fun _=>?_,fun j u hu=>?_⟩
  ·rw[dq];refine⟨fun hx=>?_,zs,fr,hz⟩;rcases hx with hx | ⟨i,r,h1,h3⟩
   ·have h4:=C.hT 0 zs _ fr hx (by rw[← hi.gr.old hx];exact hz);exact h4 (zE.1 hT)
   ·exact hG.1.lo hG.2 ((hi.inn i r h1).lo h3).1
  ·rw[ij,Nat.zero_add];cases j with
   | zero=>simp at hu;subst hu;rw[add_zero];exact hl.2 n hn
   | succ j=>simp at hu
theorem MCalls.nil {P:Program} {Tg:List Nat} {f:FuncId} {pre post:List SV} {e k:Nat} {ts:List Nat} {rs rs':List (Nat×Res)} {res:PV} (h:MCalls P Tg f (pre++.pv (.rows e k ts [])::post) rs rs' res):MCalls P Tg f (pre++.pv (.raw (.slice none 0 0))::post) rs rs' res:=by
 refine⟨h.1,fun w X B T us h1 h2 h3 h4 h5 h6 h7 h8=>h.2 w X B T us h1 h2 h3 h4 h5 h6 ?_ ?_⟩
 ·have key:∀(pre:List SV) (us:List Value),SV.RepL w (OwnZ X rs B T) B T (pre++.pv (.raw (.slice none 0 0))::post) us→SV.RepL w (OwnZ X rs B T) B T (pre++.pv (.rows e k ts [])::post) us:=fun pre=>by
   induction pre with
   | nil=>
    intro us h;rw[zX,SV.RepL] at h;obtain⟨u,us',rfl,g1,g2⟩:=h;rw[SV.Rep,PV.Rep] at g1;subst g1;refine SV.RepL.cons ?_ g2;rw[SV.Rep,PV.Rep];exact⟨Sv.none,[],rfl,rfl,Sv.Is.none w k,(fun ad h=>by cases h),(fun ad h=>by cases h),by rw[PV.RepLL],fun r hr=>by cases hr⟩
   | cons p pre ih=>
    intro us h;rw[zY,SV.RepL] at h;obtain⟨u,us',rfl,g1,g2⟩:=h;exact SV.RepL.cons g1 (ih us' g2)
  exact key pre us h7
 ·have ids:∀(pre:List SV),SV.idsL (pre++.pv (.raw (.slice none 0 0))::post)=SV.idsL (pre++.pv (.rows e k ts [])::post):=fun pre=>by
   induction pre with
   | nil=>rfl
   | cons p pre ih=>rw[zY,zY,SV.idsL,SV.idsL,ih]
  rw[← ids];exact h8
theorem a97 {q:Qr} {d:Dc} {s:Nat} (h:d.at_.S s) (hs:s≤10000):PCalls Tryz.prog [] 146 [qyP q,dcP d] (bP (cz q d)):=by
 refine pcA [39,42] Tryz.func146 (fun D=>?_);refine a2 (fun e7=>?_) (fun e7=>?_)
 ·refine a2 (fun e13=>?_) (fun e13=>?_)
  ·refine a2 (fun e22=>?_) (fun e22=>?_)
   ·refine ac (c:=a1d (x:=d.at_) (y:=Q.zero)) ?_;exact ar (c:=by (try simp only[zB] at *);simp only[cz,e7,e13,e22,sb]<;>rfl)
   ·exact ar (c:=by (try simp only[zB] at *);simp only[cz,e7,e13,e22,sb]<;>rfl)
  ·exact ar (c:=by (try simp only[zB] at *);simp only[cz,e7,e13,sb]<;>rfl)
 ·refine a2 (fun e7'=>?_) (fun e7'=>?_)
  ·refine a2 (fun e13=>?_) (fun e13=>?_)
   ·refine a2 (fun e22=>?_) (fun e22=>?_)
    ·refine ac (c:=a1d (x:=d.at_) (y:=Q.zero)) ?_;exact ar (c:=by (try simp only[zB] at *);simp only[cz,e7,e7',e13,e22,sb]<;>rfl)
    ·exact ar (c:=by (try simp only[zB] at *);simp only[cz,e7,e7',e13,e22,sb]<;>rfl)
   ·exact ar (c:=by (try simp only[zB] at *);simp only[cz,e7,e7',e13,sb]<;>rfl)
  ·refine a2 (fun e28=>?_) (fun e28=>?_)
   ·refine a2 (fun e34=>?_) (fun e34=>?_)
    ·refine a2 (fun e42=>?_) (fun e42=>?_)
     ·refine ac (c:=mm (h.sm hs) h.ok) ?_;exact ar (c:=by (try simp only[zB] at *);simp only[cz,e7,e7',e28,e34,e42,sb]<;>rfl)
     ·exact ar (c:=by (try simp only[zB] at *);simp only[cz,e7,e7',e28,e34,e42,sb]<;>rfl)
    ·exact ar (c:=by (try simp only[zB] at *);simp only[cz,e7,e7',e28,e34,sb]<;>rfl)
   ·refine a2 (fun e28'=>?_) (fun e28'=>?_)
    ·refine a2 (fun e34=>?_) (fun e34=>?_)
     ·refine a2 (fun e42=>?_) (fun e42=>?_)
      ·refine ac (c:=mm (h.sm hs) h.ok) ?_;exact ar (c:=by (try simp only[zB] at *);simp only[cz,e7,e7',e28,e28',e34,e42,sb]<;>rfl)
      ·exact ar (c:=by (try simp only[zB] at *);simp only[cz,e7,e7',e28,e28',e34,e42,sb]<;>rfl)
     ·exact ar (c:=by (try simp only[zB] at *);simp only[cz,e7,e7',e28,e28',e34,sb]<;>rfl)
    ·exact ar (c:=by (try simp only[zB] at *);simp only[cz,e7,e7',e28,e28',sb]<;>rfl)
theorem a1f {s:Sc} {a b:Nat} {kind unit:Int} (h:s.Va a b):PCalls Tryz.prog [] 264 [scP s,iP kind,iP unit] (bP (je s kind unit)):=by
 refine pcA [85] Tryz.func264 (fun D=>?_);refine au ?_;refine pl (ι:={i:Nat // i≤s.path.length∧(s.path.take i).any (hitQ s.q kind unit)=false}) (fun i=>[(1,.pv (iP kind)),(2,.pv (iP unit)),(3,.box 3 0),(6,.pv (bP false)),(7,.pv (iP i.1))]) (fun _=>[(3,.box 85 [.pv (iP s.q.g.inputs),.pv (bc s.q.g.units),.pv (bc s.q.g.outputs),.pv (dg s.q.rg.lo),.pv (dg s.q.rg.hi),.pv (bc s.q.rg.rows),.pv (cf s.q.goal.terms),.pv (bP s.q.goal.const.neg),.pv (.nat s.q.goal.const.num),.pv (.nat s.q.goal.const.den),.pv (dcsP s.path),.pv (lmsP s.lems)])]) [85] (fun i=>s.path.length - i.1) ⟨0,nq _,rfl⟩ (c5 Y Y Y Y Y trivial) (ai Y trivial) (fun _=>rfl) ?_;intro ⟨i,hi0,hn⟩;refine a2 (fun e12=>?_) (fun e12=>?_)
 ·have hi:i < s.path.length:=dw e12;refine ax (c:=(ae (ab hi))) ?_;refine a2 (fun e23=>?_) (fun e23=>?_)
  ·refine ax (c:=(ae (ab hi))) ?_;refine a2 (fun e33=>?_) (fun e33=>?_)
   ·refine ax (c:=(ae (ab hi))) ?_;refine ac (c:=a97 (h.path _ (mg (ab hi))) (by have:=h.a9;omega)) ?_;refine a2 (fun e42=>?_) (fun e42=>?_)
    ·have hh:hitQ s.q kind unit (atZ s.path i)=true:=by simp only[hitQ,e12,e23,e33,e42,sb]
     exact ar (c:=by rw[show je s kind unit=true from akp hi hh])
    ·refine aa (c:=a8 (by have:=h.p9;show i≤_;omega)) ?_;refine au ?_;exact pe ⟨i+1,hi,a0r hn hi (by simp only[hitQ,e12,e23,e33,e42,sb])⟩ (c5 Y Y Y Y Y trivial) (ai Y trivial) Y (by show s.path.length - (i+1) < s.path.length - i;omega)
   ·refine aa (c:=a8 (by have:=h.p9;show i≤_;omega)) ?_;refine au ?_;exact pe ⟨i+1,hi,a0r hn hi (by simp only[hitQ,e12,e23,e33,sb])⟩ (c5 Y Y Y Y Y trivial) (ai Y trivial) Y (by show s.path.length - (i+1) < s.path.length - i;omega)
  ·refine aa (c:=a8 (by have:=h.p9;show i≤_;omega)) ?_;refine au ?_;exact pe ⟨i+1,hi,a0r hn hi (by simp only[hitQ,e12,e23,sb])⟩ (c5 Y Y Y Y Y trivial) (ai Y trivial) Y (by show s.path.length - (i+1) < s.path.length - i;omega)
 ·have hj:s.path.length≤i:=fx e12;exact ar (c:=by rw[show je s kind unit=false from akq hn hj])
theorem a95 {s:Sc} {a b:Nat} {n unit:Int} {upper:Bool} (h:s.Va a b):PCalls Tryz.prog TU 263 [scP s,iP n,iP unit,bP upper] (.tup [ratP (aw s.lems n unit upper).1,bP (aw s.lems n unit upper).2]):=by
 refine pcA [85,35] Tryz.func263 (fun D=>?_);refine a2 (fun e12=>?_) (fun e12=>?_)
 ·exact ar (c:=by (try simp only[zB] at *);simp only[aw,e12,sb]<;>rfl)
 ·have g1:1≤n:=by have:=zM e12;omega
  refine a2 (fun e19=>?_) (fun e19=>?_)
  ·exact ar (c:=by (try simp only[zB] at *);simp only[aw,e12,e19,sb]<;>rfl)
  ·have g2:n≤s.lems.length:=by have:=zM e19;rw[zB] at this;omega
   have h1:0≤n - 1:=by omega
   have h2:n - 1 < s.lems.length:=by omega
   have h9:=h.l9;refine aa (c:=da om om om om) ?_;refine ay (z:=toN h1) (c:=(ae (dp h1 h2))) ?_;refine a2 (fun e30=>?_) (fun e30=>?_)
   ·exact ar (c:=by (try simp only[zB] at *);simp only[aw,e12,e19,e30,sb]<;>rfl)
   ·refine aa (c:=da om om om om) ?_;refine ay (z:=toN h1) (c:=(ae (dp h1 h2))) ?_;refine au ?_;refine re0 (((atZ s.lems (n - 1)).upper != upper)) Y Y Y Y Y Y (.inr ⟨rfl,rfl⟩) ?_;refine a2 (fun e40=>?_) (fun e40=>?_)
    ·exact ar (c:=by (try simp only[zB] at *);simp only[aw,e12,e19,e30,e40,sb]<;>rfl)
    ·refine aa (c:=da om om om om) ?_;refine ay (z:=toN h1) (c:=(ae (dp h1 h2))) ?_;refine ac (c:=kg ((h.lems _ (bg h1 h2)).sm (by have:=h.b9;omega))) ?_;exact ar (c:=by (try simp only[zB] at *);simp only[aw,e12,e19,e30,e40,sb]<;>rfl)
theorem al7 {s:Sc} {a b:Nat} {r:Rw} (h:s.Va a b):PCalls Tryz.prog TF 215 [scP s,rwP r] (.tup [fmP (ce s r).1,bP (ce s r).2]):=by
 refine pcA [85,96,37,27,35] Tryz.func215 (fun D=>?_);refine a2 (fun e25=>?_) (fun e25=>?_)
 ·exact ar (c:=by (try simp only[zB] at *);simp only[ce,bz,e25,sb]<;>rfl)
 ·have g0:=t5 e25;refine a2 (fun e32=>?_) (fun e32=>?_)
  ·exact ar (c:=by (try simp only[zB] at *);simp only[ce,bz,e25,e32,sb]<;>rfl)
  ·have g1:=wu e32;have hn:=h.n9;have hv:(varR (s.q.g.inputs+r.index)).S 1 1:=ff _;have hp:(atZ s.q.g.units r.index).S 2 8:=(h.q.us _ (bg g0 g1)).up h.a9 h.n9;have hl:(aw s.lems r.lo r.index false).1.S 8:=(np h.lems h.b1).up h.b9;have hu:(aw s.lems r.hi r.index true).1.S 8:=(np h.lems h.b1).up h.b9;refine aa (c:=j9 om om om om) ?_;refine ac (c:=a38 _) ?_;refine ay (z:=toN g0) (c:=(ae (dp g0 g1))) ?_;refine ac (c:=a95 h) ?_;refine ac (c:=a95 h) ?_;refine ac (c:=r_of (-1) dx dx) ?_;refine qg 2 ?_;refine rn Y ?_
   apply pcut (sl:=[(2,_),(3,_),(4,_),(6,_),(7,_),(8,_),(9,_),(11,_),(13,_),(5,_),(10,_),(12,_),(14,.pv (bP (onQ s r (aw s.lems r.lo r.index false))))]) (rs:=[(2,_),(3,_),(4,_),(6,_),(7,_),(8,_),(9,_),(11,_),(13,_)])
   case h1=>
    refine a2 (fun e68=>?_) (fun e68=>?_)
    ·refine a2 (fun e72=>?_) (fun e72=>?_)
     ·refine ac (c:=a1f h) ?_;refine a2 (fun e78=>?_) (fun e78=>?_)
      ·refine au ?_;refine Sub.of ?_ ?_ ?_
       ·exact (c12 Y Y Y Y Y Y Y Y Y Y Y Y (ai (congrArg (fun b=>some (SV.pv (PV.raw (Value.bool b)))) (by (try simp only[zB] at *);simp only[onQ,e25,e32,e68,e72,e78,sb]<;>rfl)) trivial))
       ·exact (c9 Y Y Y Y Y Y Y Y Y trivial)
       ·rfl
      ·refine a2 (fun e80=>?_) (fun e80=>?_)
       ·refine ac (c:=ig (hl.sm dx)) ?_;refine au ?_;refine Sub.of ?_ ?_ ?_
        ·exact (c12 Y Y Y Y Y Y Y Y Y Y Y Y (ai (congrArg (fun b=>some (SV.pv (PV.raw (Value.bool b)))) (by (try simp only[zB] at *);simp only[onQ,e25,e32,e68,e72,e78,e80,sb]<;>rfl)) trivial))
        ·exact (c9 Y Y Y Y Y Y Y Y Y trivial)
        ·rfl
       ·refine au ?_;refine Sub.of ?_ ?_ ?_
        ·exact (c12 Y Y Y Y Y Y Y Y Y Y Y Y (ai (congrArg (fun b=>some (SV.pv (PV.raw (Value.bool b)))) (by (try simp only[zB] at *);simp only[onQ,e25,e32,e68,e72,e78,e80,sb]<;>rfl)) trivial))
        ·exact (c9 Y Y Y Y Y Y Y Y Y trivial)
        ·rfl
     ·refine a2 (fun e80=>?_) (fun e80=>?_)
      ·refine ac (c:=ig (hl.sm dx)) ?_;refine au ?_;refine Sub.of ?_ ?_ ?_
       ·exact (c12 Y Y Y Y Y Y Y Y Y Y Y Y (ai (congrArg (fun b=>some (SV.pv (PV.raw (Value.bool b)))) (by (try simp only[zB] at *);simp only[onQ,e25,e32,e68,e72,e80,sb]<;>rfl)) trivial))
       ·exact (c9 Y Y Y Y Y Y Y Y Y trivial)
       ·rfl
      ·refine au ?_;refine Sub.of ?_ ?_ ?_
       ·exact (c12 Y Y Y Y Y Y Y Y Y Y Y Y (ai (congrArg (fun b=>some (SV.pv (PV.raw (Value.bool b)))) (by (try simp only[zB] at *);simp only[onQ,e25,e32,e68,e72,e80,sb]<;>rfl)) trivial))
       ·exact (c9 Y Y Y Y Y Y Y Y Y trivial)
       ·rfl
    ·refine au ?_;refine Sub.of ?_ ?_ ?_
     ·exact (c12 Y Y Y Y Y Y Y Y Y Y Y Y (ai (congrArg (fun b=>some (SV.pv (PV.raw (Value.bool b)))) (by (try simp only[zB] at *);simp only[onQ,e25,e32,e68,sb]<;>rfl)) trivial))
     ·exact (c9 Y Y Y Y Y Y Y Y Y trivial)
     ·rfl
   case h2=>
    apply pcut (sl:=[(2,_),(3,_),(4,_),(6,_),(7,_),(8,_),(9,_),(11,_),(13,_),(5,_),(10,_),(12,_),(14,_),(15,.pv (bP (offQ s r (aw s.lems r.hi r.index true))))]) (rs:=[(2,_),(3,_),(4,_),(6,_),(7,_),(8,_),(9,_),(11,_),(13,_)])
    case h1=>
     refine a2 (fun e90=>?_) (fun e90=>?_)
     ·refine a2 (fun e94=>?_) (fun e94=>?_)
      ·refine ac (c:=a1f h) ?_;refine a2 (fun e100=>?_) (fun e100=>?_)
       ·refine au ?_;refine Sub.of ?_ ?_ ?_
        ·exact (c12 Y Y Y Y Y Y Y Y Y Y Y Y (ai (rfl) (ai (congrArg (fun b=>some (SV.pv (PV.raw (Value.bool b)))) (by (try simp only[zB] at *);simp only[offQ,e25,e32,e90,e94,e100,sb]<;>rfl)) trivial)))
        ·exact (c9 Y Y Y Y Y Y Y Y Y trivial)
        ·rfl
       ·refine a2 (fun e102=>?_) (fun e102=>?_)
        ·refine ac (c:=ig (hu.sm dx)) ?_;refine au ?_;refine Sub.of ?_ ?_ ?_
         ·exact (c12 Y Y Y Y Y Y Y Y Y Y Y Y (ai (rfl) (ai (congrArg (fun b=>some (SV.pv (PV.raw (Value.bool b)))) (by (try simp only[zB] at *);simp only[offQ,e25,e32,e90,e94,e100,e102,sb]<;>rfl)) trivial)))
         ·exact (c9 Y Y Y Y Y Y Y Y Y trivial)
         ·rfl
        ·refine au ?_;refine Sub.of ?_ ?_ ?_
         ·exact (c12 Y Y Y Y Y Y Y Y Y Y Y Y (ai (rfl) (ai (congrArg (fun b=>some (SV.pv (PV.raw (Value.bool b)))) (by (try simp only[zB] at *);simp only[offQ,e25,e32,e90,e94,e100,e102,sb]<;>rfl)) trivial)))
         ·exact (c9 Y Y Y Y Y Y Y Y Y trivial)
         ·rfl
      ·refine a2 (fun e102=>?_) (fun e102=>?_)
       ·refine ac (c:=ig (hu.sm dx)) ?_;refine au ?_;refine Sub.of ?_ ?_ ?_
        ·exact (c12 Y Y Y Y Y Y Y Y Y Y Y Y (ai (rfl) (ai (congrArg (fun b=>some (SV.pv (PV.raw (Value.bool b)))) (by (try simp only[zB] at *);simp only[offQ,e25,e32,e90,e94,e102,sb]<;>rfl)) trivial)))
        ·exact (c9 Y Y Y Y Y Y Y Y Y trivial)
        ·rfl
       ·refine au ?_;refine Sub.of ?_ ?_ ?_
        ·exact (c12 Y Y Y Y Y Y Y Y Y Y Y Y (ai (rfl) (ai (congrArg (fun b=>some (SV.pv (PV.raw (Value.bool b)))) (by (try simp only[zB] at *);simp only[offQ,e25,e32,e90,e94,e102,sb]<;>rfl)) trivial)))
        ·exact (c9 Y Y Y Y Y Y Y Y Y trivial)
        ·rfl
     ·refine au ?_;refine Sub.of ?_ ?_ ?_
      ·exact (c12 Y Y Y Y Y Y Y Y Y Y Y Y (ai (rfl) (ai (congrArg (fun b=>some (SV.pv (PV.raw (Value.bool b)))) (by (try simp only[zB] at *);simp only[offQ,e25,e32,e90,sb]<;>rfl)) trivial)))
      ·exact (c9 Y Y Y Y Y Y Y Y Y trivial)
      ·rfl
    case h2=>
     refine a2 (fun e112=>?_) (fun e112=>?_)
     ·refine a2 (fun e118=>?_) (fun e118=>?_)
      ·refine a2 (fun e212=>?_) (fun e212=>?_)
       ·replace e212:=il e212;exact ar (c:=by (try simp only[zB] at *);simp only[ce,bz,e25,e32,e112,e118,e212,sb]<;>rfl)
       ·replace e212:=j0 e212;exact ar (c:=by (try simp only[zB] at *);simp only[ce,bz,e25,e32,e112,e118,e212,sb]<;>rfl)
      ·exact ar (c:=by (try simp only[zB] at *);simp only[ce,bz,e25,e32,e112,e118,sb]<;>rfl)
     ·refine a2 (fun e123=>?_) (fun e123=>?_)
      ·refine ac (c:=m9 hv hp dx dx) ?_;refine a2 (fun e131=>?_) (fun e131=>?_)
       ·refine a2 (fun e212=>?_) (fun e212=>?_)
        ·replace e212:=il e212;exact ar (c:=by (try simp only[zB] at *);simp only[ce,bz,e25,e32,e112,e123,e131,e212,sb]<;>rfl)
        ·replace e212:=j0 e212;exact ar (c:=by (try simp only[zB] at *);simp only[ce,bz,e25,e32,e112,e123,e131,e212,sb]<;>rfl)
       ·exact ar (c:=by (try simp only[zB] at *);simp only[ce,bz,e25,e32,e112,e123,e131,sb]<;>rfl)
      ·refine a2 (fun e136=>?_) (fun e136=>?_)
       ·refine a2 (fun e212=>?_) (fun e212=>?_)
        ·replace e212:=il e212;exact ar (c:=by (try simp only[zB] at *);simp only[ce,bz,e25,e32,e112,e123,e136,e212,sb]<;>rfl)
        ·replace e212:=j0 e212;exact ar (c:=by (try simp only[zB] at *);simp only[ce,bz,e25,e32,e112,e123,e136,e212,sb]<;>rfl)
       ·refine a2 (fun e140=>?_) (fun e140=>?_)
        ·refine ac (c:=m9 hp hv dx dx) ?_;refine a2 (fun e212=>?_) (fun e212=>?_)
         ·replace e212:=il e212;exact ar (c:=by (try simp only[zB] at *);simp only[ce,bz,e25,e32,e112,e123,e136,e140,e212,sb]<;>rfl)
         ·replace e212:=j0 e212;exact ar (c:=by (try simp only[zB] at *);simp only[ce,bz,e25,e32,e112,e123,e136,e140,e212,sb]<;>rfl)
        ·refine a2 (fun e146=>?_) (fun e146=>?_)
         ·refine ac (c:=ip (q:=Q.mone) hp er dx dx dx) ?_;refine a2 (fun e212=>?_) (fun e212=>?_)
          ·replace e212:=il e212;exact ar (c:=by (try simp only[zB] at *);simp only[ce,bz,e25,e32,e112,e123,e136,e140,e146,e212,sb]<;>rfl)
          ·replace e212:=j0 e212;exact ar (c:=by (try simp only[zB] at *);simp only[ce,bz,e25,e32,e112,e123,e136,e140,e146,e212,sb]<;>rfl)
         ·refine a2 (fun e152=>?_) (fun e152=>?_)
          ·refine ac (c:=ip (q:=Q.mone) hv er dx dx dx) ?_;refine a2 (fun e212=>?_) (fun e212=>?_)
           ·replace e212:=il e212;exact ar (c:=by (try simp only[zB] at *);simp only[ce,bz,e25,e32,e112,e123,e136,e140,e146,e152,e212,sb]<;>rfl)
           ·replace e212:=j0 e212;exact ar (c:=by (try simp only[zB] at *);simp only[ce,bz,e25,e32,e112,e123,e136,e140,e146,e152,e212,sb]<;>rfl)
          ·refine a2 (fun e158=>?_) (fun e158=>?_)
           ·refine ac (c:=a1e) ?_;refine ac (c:=m9 hp (db hl) dx dx) ?_;refine a2 (fun e165=>?_) (fun e165=>?_)
            ·refine a2 (fun e212=>?_) (fun e212=>?_)
             ·replace e212:=il e212;exact ar (c:=by (try simp only[zB] at *);simp only[ce,bz,e25,e32,e112,e123,e136,e140,e146,e152,e158,e165,e212,sb]<;>rfl)
             ·replace e212:=j0 e212;exact ar (c:=by (try simp only[zB] at *);simp only[ce,bz,e25,e32,e112,e123,e136,e140,e146,e152,e158,e165,e212,sb]<;>rfl)
            ·exact ar (c:=by (try simp only[zB] at *);simp only[ce,bz,e25,e32,e112,e123,e136,e140,e146,e152,e158,e165,sb]<;>rfl)
           ·refine a2 (fun e170=>?_) (fun e170=>?_)
            ·refine ac (c:=a1e) ?_;refine ac (c:=m9 (db hu) hp dx dx) ?_;refine a2 (fun e177=>?_) (fun e177=>?_)
             ·refine a2 (fun e212=>?_) (fun e212=>?_)
              ·replace e212:=il e212;exact ar (c:=by (try simp only[zB] at *);simp only[ce,bz,e25,e32,e112,e123,e136,e140,e146,e152,e158,e170,e177,e212,sb]<;>rfl)
              ·replace e212:=j0 e212;exact ar (c:=by (try simp only[zB] at *);simp only[ce,bz,e25,e32,e112,e123,e136,e140,e146,e152,e158,e170,e177,e212,sb]<;>rfl)
             ·exact ar (c:=by (try simp only[zB] at *);simp only[ce,bz,e25,e32,e112,e123,e136,e140,e146,e152,e158,e170,e177,sb]<;>rfl)
            ·refine a2 (fun e182=>?_) (fun e182=>?_)
             ·refine ac (c:=a1e) ?_;refine ac (c:=m9 hp (db hl) dx dx) ?_;refine ac (c:=ip (hp.subR (db hl)) hu dx dx dx) ?_;refine ac (c:=ad8 (hu.sm dx) (hl.sm dx) hu.ok hl.neg.ok) ?_;refine ac (c:=ip hv (hu.add hl.neg) dx dx dx) ?_;refine ac (c:=m9 ((hp.subR (db hl)).scaleR hu) (hv.scaleR (hu.add hl.neg)) dx dx) ?_;refine a2 (fun e198=>?_) (fun e198=>?_)
              ·refine a2 (fun e201=>?_) (fun e201=>?_)
               ·refine ac (c:=ig (hl.sm dx)) ?_;refine a2 (fun e206=>?_) (fun e206=>?_)
                ·refine ac (c:=ig (hu.sm dx)) ?_;refine a2 (fun e212=>?_) (fun e212=>?_)
                 ·replace e212:=il e212;exact ar (c:=by (try simp only[zB] at *);simp only[ce,bz,e25,e32,e112,e123,e136,e140,e146,e152,e158,e170,e182,e198,e201,e206,e212,sb]<;>rfl)
                 ·replace e212:=j0 e212;exact ar (c:=by (try simp only[zB] at *);simp only[ce,bz,e25,e32,e112,e123,e136,e140,e146,e152,e158,e170,e182,e198,e201,e206,e212,sb]<;>rfl)
                ·exact ar (c:=by (try simp only[zB] at *);simp only[ce,bz,e25,e32,e112,e123,e136,e140,e146,e152,e158,e170,e182,e198,e201,e206,sb]<;>rfl)
               ·exact ar (c:=by (try simp only[zB] at *);simp only[ce,bz,e25,e32,e112,e123,e136,e140,e146,e152,e158,e170,e182,e198,e201,sb]<;>rfl)
              ·exact ar (c:=by (try simp only[zB] at *);simp only[ce,bz,e25,e32,e112,e123,e136,e140,e146,e152,e158,e170,e182,e198,sb]<;>rfl)
             ·exact ar (c:=by (try simp only[zB] at *);simp only[ce,bz,e25,e32,e112,e123,e136,e140,e146,e152,e158,e170,e182,sb]<;>rfl)
theorem ali {s:Sc} {a b:Nat} {r:Rw} (h:s.Va a b):PCalls Tryz.prog TF 174 [scP s,rwP r] (.tup [fmP (bo s r).1,bP (bo s r).2]):=by
 refine pcA [85,96,37,30,42] Tryz.func174 (fun D=>?_);refine ac (c:=tv h.q) ?_;refine a2 (fun e16=>?_) (fun e16=>?_)
 ·refine ac (c:=al7 h) ?_;exact ar (c:=by (try simp only[zB] at *);simp only[bo,gk,e16,sb]<;>rfl)
 ·refine a2 (fun e25=>?_) (fun e25=>?_)
  ·exact ar (c:=by (try simp only[zB] at *);simp only[bo,gk,e16,e25,sb]<;>rfl)
  ·refine a2 (fun e30=>?_) (fun e30=>?_)
   ·exact ar (c:=by (try simp only[zB] at *);simp only[bo,gk,e16,e25,e30,sb]<;>rfl)
   ·refine a2 (fun e34=>?_) (fun e34=>?_)
    ·exact ar (c:=by (try simp only[zB] at *);simp only[bo,gk,e16,e25,e30,e34,sb]<;>rfl)
    ·have g0:=t5 e34;refine a2 (fun e41=>?_) (fun e41=>?_)
     ·refine a2 (fun e48=>?_) (fun e48=>?_)
      ·have g1:=wv e48;refine ac (c:=a38 _) ?_;refine ay (z:=toN g0) (c:=(ae (dp g0 g1))) ?_;refine ac (c:=a1e) ?_;refine ac (c:=m9 (ff _) (db ((h.q.rg.los _ (bg g0 g1)).up h.a9)) dx dx) ?_;exact ar (c:=by (try simp only[zB] at *);simp only[bo,gk,e16,e25,e30,e34,e41,e48,sb]<;>rfl)
      ·exact ar (c:=by (try simp only[zB] at *);simp only[bo,gk,e16,e25,e30,e34,e41,e48,sb]<;>rfl)
     ·refine a2 (fun e60=>?_) (fun e60=>?_)
      ·refine a2 (fun e67=>?_) (fun e67=>?_)
       ·have g1:=wv e67;refine ay (z:=toN g0) (c:=(ae (dp g0 g1))) ?_;refine ac (c:=a1e) ?_;refine ac (c:=a38 _) ?_;refine ac (c:=m9 (db ((h.q.rg.his _ (bg g0 g1)).up h.a9)) (ff _) dx dx) ?_;exact ar (c:=by (try simp only[zB] at *);simp only[bo,gk,e16,e25,e30,e34,e41,e60,e67,sb]<;>rfl)
       ·exact ar (c:=by (try simp only[zB] at *);simp only[bo,gk,e16,e25,e30,e34,e41,e60,e67,sb]<;>rfl)
      ·refine a2 (fun e79=>?_) (fun e79=>?_)
       ·refine a2 (fun e86=>?_) (fun e86=>?_)
        ·have g1:=wv e86;refine ay (z:=toN g0) (c:=(ae (dp g0 g1))) ?_;exact ar (c:=by (try simp only[zB] at *);simp only[bo,gk,e16,e25,e30,e34,e41,e60,e79,e86,sb]<;>rfl)
        ·exact ar (c:=by (try simp only[zB] at *);simp only[bo,gk,e16,e25,e30,e34,e41,e60,e79,e86,sb]<;>rfl)
       ·refine a2 (fun e93=>?_) (fun e93=>?_)
        ·refine a2 (fun e101=>?_) (fun e101=>?_)
         ·exact ar (c:=by (try simp only[zB] at *);simp only[bo,gk,e16,e25,e30,e34,e41,e60,e79,e93,e101,sb]<;>rfl)
         ·have g1:=wu e101;refine ay (z:=toN g0) (c:=(ae (dp g0 g1))) ?_;refine ac (c:=a97 (h.path _ (bg g0 g1)) (by have:=h.a9;omega)) ?_;refine a2 (fun e112=>?_) (fun e112=>?_)
          ·exact ar (c:=by (try simp only[zB] at *);simp only[bo,gk,e16,e25,e30,e34,e41,e60,e79,e93,e101,e112,sb]<;>rfl)
          ·refine ay (z:=toN g0) (c:=(ae (dp g0 g1))) ?_;refine ac (c:=a38 _) ?_;refine ac (c:=a1e) ?_;refine ac (c:=m9 (ff _) (db ((h.path _ (bg g0 g1)).up h.a9)) dx dx) ?_;refine a2 (fun e129=>?_) (fun e129=>?_)
           ·exact ar (c:=by (try simp only[zB] at *);simp only[bo,gk,e16,e25,e30,e34,e41,e60,e79,e93,e101,e112,e129,sb]<;>rfl)
           ·refine a2 (fun e133=>?_) (fun e133=>?_)
            ·refine ac (c:=r_of (-1) dx dx) ?_;refine ac (c:=ip (q:=Q.mone) ((ff _).subR (db ((h.path _ (bg g0 g1)).up h.a9))) er dx dx dx) ?_;exact ar (c:=by (try simp only[zB] at *);simp only[bo,gk,e16,e25,e30,e34,e41,e60,e79,e93,e101,e112,e129,e133,sb]<;>rfl)
            ·exact ar (c:=by (try simp only[zB] at *);simp only[bo,gk,e16,e25,e30,e34,e41,e60,e79,e93,e101,e112,e129,e133,sb]<;>rfl)
        ·exact ar (c:=by (try simp only[zB] at *);simp only[bo,gk,e16,e25,e30,e34,e41,e60,e79,e93,sb]<;>rfl)
theorem agn {a b:Rw}:PCalls Tryz.prog [] 214 [rwP a,rwP b] (bP (gx a b)):=by
 refine pcA [96] Tryz.func214 (fun D=>?_);refine a2 (fun e5=>?_) (fun e5=>?_)
 ·exact ar (c:=by (try simp only[zB] at *);simp only[gx,e5,sb]<;>rfl)
 ·refine a2 (fun e16=>?_) (fun e16=>?_)
  ·exact ar (c:=by (try simp only[zB] at *);simp only[gx,e5,e16,sb]<;>rfl)
  ·refine a2 (fun e27=>?_) (fun e27=>?_)
   ·exact ar (c:=by (try simp only[zB] at *);simp only[gx,e5,e16,e27,sb]<;>rfl)
   ·exact ar (c:=by (try simp only[zB] at *);simp only[gx,e5,e16,e27,sb]<;>rfl)
theorem ir {n:Nat} (h:decide (0 < (n:Int))=true) (h9:n≤1000000000):ariO .sub .i64 (n:Int) 1=some (((n - 1:Nat)):Int):=by
 have:=zK h;show some (IntKind.wrap .i64 ((n:Int) - 1))=_;rw[fd om om]
 congr 1;omega
def badM (l:List Mm) (i:Nat):Bool:=decide (sgQ (atZ l (i:Int)).2≤0)||(decide (0 < (i:Int))&&!gx (atZ l ((i - 1:Nat):Int)).1 (atZ l (i:Int)).1)
def fj (l:List Mm):Bool:=(List.range l.length).all fun i=>!badM l i
theorem ra {l:List Mm} {i:Nat} (hi:i < l.length) (h:badM l i=true):fj l=false:=by
 unfold fj;rw[List.all_eq_false];exact⟨i,List.mem_range.2 hi,by rw[h];decide⟩
theorem rd {l:List Mm} {i:Nat} (h:∀j,j < i→badM l j=false) (hi:l.length≤i):fj l=true:=by
 unfold fj;rw[zG];intro j hj;rw[h j (by have:=List.mem_range.1 hj;omega)];rfl
theorem m7 {p:Nat→Prop} {i:Nat} (h:∀j,j < i→p j) (hi:p i):∀j,j < i+1→p j:=fun j hj=>by
 rcases zU j i with g | g
 ·exact h j g
 ·have:j=i:=by omega
  subst this;exact hi
def posR (r:Rw):List Mm→Nat
 | []=>0
 | m::l=>bif gx m.1 r then posR r l+1 else 0
theorem kq {r:Rw}:∀{l:List Mm} {k:Nat},k≤l.length→(∀j,j < k→gx (atZ l (j:Int)).1 r=true)→(l.length≤k∨gx (atZ l (k:Int)).1 r=false)→posR r l=k
 | [],k,hk,_,_=>by simp at hk;rw[hk];rfl
 | m::l,0,hk,_,h=>by
  rcases h with h | h
  ·simp at h
  ·rw[bm (l:=m::l) (i:=0) (a:=m) rfl] at h;rw[posR,h];rfl
 | m::l,k+1,hk,ha,h=>by
  have sh:∀j,j < l.length→atZ (m::l) ((j+1:Nat):Int)=atZ l (j:Int):=fun j hj=>by
   rw[bm (l:=m::l) (i:=j+1) (a:=l[j]) (by simp[hj]),bm (ge hj)]
  have h0:=ha 0 om;rw[bm (l:=m::l) (i:=0) (a:=m) rfl] at h0;rw[posR,h0];have hk':k≤l.length:=by simpa using hk
  rw[kq (l:=l) (k:=k) hk' (fun j hj=>by rw[← sh j om];exact ha (j+1) om) ?_];rfl;rcases h with h | h
  ·left;simpa using h
  ·rcases zU k l.length with g | g
   ·right;rw[← sh k g];exact h
   ·left;exact g
def ku (l:List Mm) (r:Rw) (c:Q):List Mm:=
 bif sgQ c == 0 then l
 else bif decide ((posR r l:Int) < (l.length:Int))&&jr (atZ l (posR r l:Int)).1 r then l.take (posR r l)++[(r,Q.add (atZ l (posR r l:Int)).2 c)]++l.drop (posR r l+1)
 else l.take (posR r l)++[(r,ci c)]++l.drop (posR r l)
def eu (s:Sc):List Mm→Fm→Option Fm
 | [],acc=>some acc
 | m::l,acc=>bif (bo s m.1).2 then eu s l (Fm.addR acc (Fm.scaleR (bo s m.1).1 m.2)) else none
def sumR (s:Sc) (l:List Mm):Fm×Int:=bif fj l then (match eu s l Fm.zero with
 | some f=>(f,0)
 | none=>(Fm.zero,12)) else (Fm.zero,1)
def fq (c:Q):List Mm→List Mm→List Mm
 | a,[]=>a
 | a,m::b=>fq c (ku a m.1 (Q.mul m.2 c)) b
theorem Sc.Va.unitS {s:Sc} {a b:Nat} {r:Rw} (h:s.Va a b):(ce s r).1.S 40 9:=by
 have hz:Fm.zero.S 40 9:=fm_zero_S.up dx dx;unfold ce;cases h1:decide (r.index < 0) with
 | true=>exact hz
 | false=>
  cases h2:decide ((s.q.g.units.length:Int)≤r.index) with
  | true=>exact hz
  | false=>
   have g0:0≤r.index:=t5 h1;have g1:r.index < s.q.g.units.length:=by have:=zM h2;omega
   have hv:(varR (s.q.g.inputs+r.index)).S 1 1:=ff _;have hp:(atZ s.q.g.units r.index).S 2 8:=(h.q.us _ (bg g0 g1)).up h.a9 h.n9;have hl:(aw s.lems r.lo r.index false).1.S 8:=(np h.lems h.b1).up h.b9;have hu:(aw s.lems r.hi r.index true).1.S 8:=(np h.lems h.b1).up h.b9;simp only[Bool.false_or,cond_false];generalize varR (s.q.g.inputs+r.index)=v at hv;generalize atZ s.q.g.units r.index=p at hp;generalize onQ s r (aw s.lems r.lo r.index false)=on;generalize offQ s r (aw s.lems r.hi r.index true)=off;generalize aw s.lems r.lo r.index false=l at hl;generalize aw s.lems r.hi r.index true=u at hu;have key:(bz v p l u on off r).1.S 40 9:=by
    unfold bz
    repeat' (cases h3:(r.kind == _)<;>simp only[cond_true,cond_false])
    all_goals first
     | exact hz
     | exact hv.up dx dx
     | exact hp.up dx dx
     | exact (hv.subR hp).up dx dx
     | exact (hp.subR hv).up dx dx
     | exact (hp.scaleR er).up dx dx
     | exact (hv.scaleR er).up dx dx
     | exact (hp.subR (db hl)).up dx dx
     | exact ((db hu).subR hp).up dx dx
     | exact (((hp.subR (db hl)).scaleR hu).subR (hv.scaleR (hu.add hl.neg))).up dx dx
   cases (bz v p l u on off r).2
   ·exact hz
   ·exact key
theorem Sc.Va.formS {s:Sc} {a b:Nat} {r:Rw} (h:s.Va a b):(bo s r).1.S 40 9:=by
 have hz:Fm.zero.S 40 9:=fm_zero_S.up dx dx;have ha:=h.a9;unfold bo;cases h5:decide (5≤r.kind) with
 | true=>exact h.unitS
 | false=>
  simp only[cond_false];cases r.lo != 0 with
  | true=>exact hz
  | false=>
   cases r.hi != 0 with
   | true=>exact hz
   | false=>
    cases h1:decide (r.index < 0) with
    | true=>exact hz
    | false=>
     have g0:0≤r.index:=t5 h1;simp only[Bool.false_or,cond_false];cases r.kind == 1 with
     | true=>
      cases h2:decide (r.index < (s.q.rg.lo.length:Int)) with
      | false=>exact hz
      | true=>exact ((ff _).subR (db ((h.q.rg.los _ (bg g0 (zK h2))).up ha))).up dx dx
     | false=>
      cases r.kind == 2 with
      | true=>
       cases h2:decide (r.index < (s.q.rg.hi.length:Int)) with
       | false=>exact hz
       | true=>exact ((db ((h.q.rg.his _ (bg g0 (zK h2))).up ha)).subR (ff _)).up dx dx
      | false=>
       cases r.kind == 3 with
       | true=>
        cases h2:decide (r.index < (s.q.rg.rows.length:Int)) with
        | false=>exact hz
        | true=>exact (h.q.rg.rows _ (bg g0 (zK h2))).2.up om (by have:=h.n9;omega)
       | false=>
        cases r.kind == 4 with
        | false=>exact hz
        | true=>
         cases h2:decide ((s.path.length:Int)≤r.index) with
         | true=>exact hz
         | false=>
          cases h3:cz s.q (atZ s.path r.index) with
          | false=>exact hz
          | true=>
           have hd:=(h.path _ (bg g0 (by have:=zM h2;omega))).up ha;simp only[Bool.false_or,Bool.not_true,cond_true,cond_false];unfold gk;cases (atZ s.path r.index).kind == 3 with
           | true=>exact ((ff _).subR (db hd)).up dx dx
           | false=>
            cases (atZ s.path r.index).kind == 4 with
            | true=>exact (((ff _).subR (db hd)).scaleR er).up dx dx
            | false=>exact hz
theorem a9l {l:List Mm} {r:Rw} {c:Q} (h:(sgQ c == 0)=true):ku l r c=l:=by unfold ku;rw[h];rfl
theorem n7 {l:List Mm} {r:Rw} {c:Q} {i:Nat} (h:(sgQ c == 0)=false) (hp:posR r l=i) (hi:i < l.length) (he:jr (atZ l (i:Int)).1 r=true):ku l r c=l.take i++[(r,Q.add (atZ l (i:Int)).2 c)]++l.drop (i+1):=by
 unfold ku;rw[h,hp,he,dt (by omega:(i:Int) < (l.length:Int))];rfl
theorem kr {l:List Mm} {r:Rw} {c:Q} {i:Nat} (h:(sgQ c == 0)=false) (hp:posR r l=i) (he:l.length≤i∨jr (atZ l (i:Int)).1 r=false):ku l r c=l.take i++[(r,ci c)]++l.drop i:=by
 unfold ku;rw[h,hp];have:(decide ((i:Int) < (l.length:Int))&&jr (atZ l (i:Int)).1 r)=false:=by
  rcases he with he | he
  ·rw[df om];rfl
  ·rw[he,Bool.and_false]
 rw[this];rfl
theorem g8 {l:List Mm} {i k:Nat} {m:Mm} {row:List PV} (e:row=mmC m):PV.rows 98 7 [200] (([]++List.drop 0 (List.take i (l.map mmC))++[row])++List.drop k (List.take (l.map mmC).length (l.map mmC)))=mmsP (l.take i++[m]++l.drop k):=by
 subst e;rw[List.take_length];show _=PV.rows _ _ _ ((l.take i++[m]++l.drop k).map mmC);simp only[zX,List.drop_zero,zN,List.map_take,List.map_drop,List.map_cons,List.map_nil]
theorem a3b {l:List Mm} {n:Nat} (h:∀m∈l,m.2.S n) (hn:n≤10000) (hl:l.length≤1000):PCalls Tryz.prog [] 173 [mmsP l] (bP (fj l)):=by
 refine pcA [] Tryz.func173 (fun D=>?_);refine au ?_;refine pl (ι:={i:Nat // i≤l.length∧∀j,j < i→badM l j=false}) (fun i=>[(0,.pv (mmsP l)),(2,.pv (bP false)),(3,.pv (iP i.1))]) (fun _=>[]) [] (fun i=>l.length - i.1) ⟨0,nq _,fun j hj=>by omega⟩ (c3 Y Y Y trivial) trivial (fun _=>rfl) ?_;intro ⟨i,hi0,hnb⟩;refine a2 (fun e7=>?_) (fun e7=>?_)
 ·have hi:i < l.length:=dw e7;have hm:=h _ (mg (ab hi));refine ax (c:=(ae (ab hi))) ?_;refine ac (c:=mm (hm.sm hn) hm.ok) ?_;refine ax (c:=(ae (ab hi))) ?_;refine ac (c:=ig (hm.sm hn)) ?_;refine a2 (fun e26=>?_) (fun e26=>?_)
  ·exact ar (c:=by rw[ra hi (by simp only[badM,e7,e26,sb])])
  ·refine a2 (fun e29=>?_) (fun e29=>?_)
   ·refine aa (c:=ir e29 (by show i≤_;omega)) ?_;refine ax (c:=(ae (ab (show i - 1 < l.length by omega)))) ?_;refine ax (c:=(ae (ab hi))) ?_;refine ac (c:=agn) ?_;refine a2 (fun e44=>?_) (fun e44=>?_)
    ·exact ar (c:=by rw[ra hi (by simp only[badM,e7,e26,e29,e44,sb])])
    ·refine aa (c:=a8 (by show i≤_;omega)) ?_;refine au ?_;exact pe ⟨i+1,hi,m7 hnb (by simp only[badM,e7,e26,e29,e44,sb])⟩ (c3 Y Y Y trivial) trivial Y (by show l.length - (i+1) < l.length - i;omega)
   ·refine aa (c:=a8 (by show i≤_;omega)) ?_;refine au ?_;exact pe ⟨i+1,hi,m7 hnb (by simp only[badM,e7,e26,e29,sb])⟩ (c3 Y Y Y trivial) trivial Y (by show l.length - (i+1) < l.length - i;omega)
 ·have hj:l.length≤i:=fx e7;exact ar (c:=by rw[rd hnb hj])
theorem alb {l:List Mm} {r:Rw} {c:Q} {n m:Nat} (h:∀m∈l,m.2.S n) (hc:c.S m) (hn:n+m+1≤10000) (hl:l.length≤1000):PCalls Tryz.prog TU 172 [mmsP l,rwP r,ratP c] (mmsP (ku l r c)):=by
 refine pcA [96,35,98] Tryz.func172 (fun D=>?_);refine ac (c:=ig (hc.sm om)) ?_;refine a2 (fun e11=>?_) (fun e11=>?_)
 ·exact ar (c:=by rw[a9l e11])
 ·refine au ?_;refine pl (ι:={i:Nat // i≤l.length∧∀j,j < i→gx (atZ l (j:Int)).1 r=true}) (fun i=>[(0,.pv (mmsP l)),(4,.box 4 0),(5,.box 5 0),(7,.pv (iP i.1))]) (fun _=>[(4,.box 96 [.pv (iP r.kind),.pv (iP r.index),.pv (iP r.lo),.pv (iP r.hi)]),(5,.box 35 [.pv (bP c.neg),.pv (.nat c.num),.pv (.nat c.den)])]) [96,35,98] (fun i=>l.length - i.1) ⟨0,nq _,fun j hj=>by omega⟩ (c4 Y Y Y Y trivial) (c2 Y Y trivial) (fun _=>rfl) ?_;intro ⟨i,hi0,hnb⟩;refine a2 (fun e17=>?_) (fun e17=>?_)
  ·have hi:i < l.length:=dw e17;refine ax (c:=(ae (ab hi))) ?_;refine ac (c:=agn) ?_;refine a2 (fun e25=>?_) (fun e25=>?_)
   ·refine aa (c:=a8 (by show i≤_;omega)) ?_;refine au ?_;exact pe ⟨i+1,hi,m7 hnb e25⟩ (c4 Y Y Y Y trivial) (c2 Y Y trivial) Y (by show l.length - (i+1) < l.length - i;omega)
   ·refine au ?_;refine ro0 Y Y Y (fun hd=>ct ah Y Y Y (.inl ⟨rfl,rfl⟩) (.inr ⟨_,rfl,rfl⟩) (nq _) (by rw[zB];exact hi0) Y dx hd) ?_;refine rp0 gg (by simp;omega) Y Y Y Y Y Y Y Y ?_;refine a2 (fun e37=>?_) (fun e37=>?_)
    ·have hi:i < l.length:=dw e37;have hm:=h _ (mg (ab hi));refine ax (c:=(ae (ab hi))) ?_;refine au ?_;refine rr0 (jr (atZ l (i:Int)).1 r) Y Y Y Y Y Y Y Y Y (.inl ⟨rfl,rfl⟩) ?_;refine a2 (fun e45=>?_) (fun e45=>?_)
     ·refine ax (c:=(ae (ab hi))) ?_;refine ac (c:=a72 (hm.sm om) (hc.sm om) hm.ok hc.ok) ?_;refine au ?_;refine rp0 gg (by simp;omega) Y Y Y Y Y Y Y Y ?_;refine aa (c:=a8 (by show i≤_;omega)) ?_;refine au ?_;refine ro0 Y Y Y (fun hd=>ct ah Y Y Y (.inr ⟨_,rfl,rfl⟩) (.inl ⟨rfl,rfl⟩) (by rw[zB];first | exact hi | exact hi0) (nr _) Y dx hd) ?_;refine rp0 gg (by simp;omega) Y Y Y Y Y Y Y Y ?_;exact ar (c:=by first | (exfalso;omega) | (rw[n7 e11 (kq hi0 hnb (by first | exact .inl hj | exact .inr e25)) hi e45];exact g8 rfl) | (rw[kr e11 (kq hi0 hnb (by first | exact .inl hj | exact .inr e25)) (by first | exact .inr e45 | exact .inl (fx e37))];exact g8 rfl))
     ·refine ac (c:=kg (hc.sm om)) ?_;refine au ?_;refine rp0 gg (by simp;omega) Y Y Y Y Y Y Y Y ?_;refine au ?_;refine ro0 Y Y Y (fun hd=>ct ah Y Y Y (.inr ⟨_,rfl,rfl⟩) (.inl ⟨rfl,rfl⟩) (by rw[zB];first | exact hi | exact hi0) (nr _) Y dx hd) ?_;refine rp0 gg (by simp;omega) Y Y Y Y Y Y Y Y ?_;exact ar (c:=by first | (exfalso;omega) | (rw[n7 e11 (kq hi0 hnb (by first | exact .inl hj | exact .inr e25)) hi e45];exact g8 rfl) | (rw[kr e11 (kq hi0 hnb (by first | exact .inl hj | exact .inr e25)) (by first | exact .inr e45 | exact .inl (fx e37))];exact g8 rfl))
    ·refine ac (c:=kg (hc.sm om)) ?_;refine au ?_;refine rp0 gg (by simp;omega) Y Y Y Y Y Y Y Y ?_;refine au ?_;refine ro0 Y Y Y (fun hd=>ct ah Y Y Y (.inr ⟨_,rfl,rfl⟩) (.inl ⟨rfl,rfl⟩) (by rw[zB];first | exact hi | exact hi0) (nr _) Y dx hd) ?_;refine rp0 gg (by simp;omega) Y Y Y Y Y Y Y Y ?_;exact ar (c:=by first | (exfalso;omega) | (rw[n7 e11 (kq hi0 hnb (by first | exact .inl hj | exact .inr e25)) hi e45];exact g8 rfl) | (rw[kr e11 (kq hi0 hnb (by first | exact .inl hj | exact .inr e25)) (by first | exact .inr e45 | exact .inl (fx e37))];exact g8 rfl))
  ·have hj:l.length≤i:=fx e17;refine au ?_;refine ro0 Y Y Y (fun hd=>ct ah Y Y Y (.inl ⟨rfl,rfl⟩) (.inr ⟨_,rfl,rfl⟩) (nq _) (by rw[zB];exact hi0) Y dx hd) ?_;refine rp0 gg (by simp;omega) Y Y Y Y Y Y Y Y ?_;refine a2 (fun e37=>?_) (fun e37=>?_)
   ·have hi:i < l.length:=dw e37;have hm:=h _ (mg (ab hi));refine ax (c:=(ae (ab hi))) ?_;refine au ?_;refine rr0 (jr (atZ l (i:Int)).1 r) Y Y Y Y Y Y Y Y Y (.inl ⟨rfl,rfl⟩) ?_;refine a2 (fun e45=>?_) (fun e45=>?_)
    ·refine ax (c:=(ae (ab hi))) ?_;refine ac (c:=a72 (hm.sm om) (hc.sm om) hm.ok hc.ok) ?_;refine au ?_;refine rp0 gg (by simp;omega) Y Y Y Y Y Y Y Y ?_;refine aa (c:=a8 (by show i≤_;omega)) ?_;refine au ?_;refine ro0 Y Y Y (fun hd=>ct ah Y Y Y (.inr ⟨_,rfl,rfl⟩) (.inl ⟨rfl,rfl⟩) (by rw[zB];first | exact hi | exact hi0) (nr _) Y dx hd) ?_;refine rp0 gg (by simp;omega) Y Y Y Y Y Y Y Y ?_;exact ar (c:=by first | (exfalso;omega) | (rw[n7 e11 (kq hi0 hnb (by first | exact .inl hj | exact .inr e25)) hi e45];exact g8 rfl) | (rw[kr e11 (kq hi0 hnb (by first | exact .inl hj | exact .inr e25)) (by first | exact .inr e45 | exact .inl (fx e37))];exact g8 rfl))
    ·refine ac (c:=kg (hc.sm om)) ?_;refine au ?_;refine rp0 gg (by simp;omega) Y Y Y Y Y Y Y Y ?_;refine au ?_;refine ro0 Y Y Y (fun hd=>ct ah Y Y Y (.inr ⟨_,rfl,rfl⟩) (.inl ⟨rfl,rfl⟩) (by rw[zB];first | exact hi | exact hi0) (nr _) Y dx hd) ?_;refine rp0 gg (by simp;omega) Y Y Y Y Y Y Y Y ?_;exact ar (c:=by first | (exfalso;omega) | (rw[n7 e11 (kq hi0 hnb (by first | exact .inl hj | exact .inr e25)) hi e45];exact g8 rfl) | (rw[kr e11 (kq hi0 hnb (by first | exact .inl hj | exact .inr e25)) (by first | exact .inr e45 | exact .inl (fx e37))];exact g8 rfl))
   ·refine ac (c:=kg (hc.sm om)) ?_;refine au ?_;refine rp0 gg (by simp;omega) Y Y Y Y Y Y Y Y ?_;refine au ?_;refine ro0 Y Y Y (fun hd=>ct ah Y Y Y (.inr ⟨_,rfl,rfl⟩) (.inl ⟨rfl,rfl⟩) (by rw[zB];first | exact hi | exact hi0) (nr _) Y dx hd) ?_;refine rp0 gg (by simp;omega) Y Y Y Y Y Y Y Y ?_;exact ar (c:=by first | (exfalso;omega) | (rw[n7 e11 (kq hi0 hnb (by first | exact .inl hj | exact .inr e25)) hi e45];exact g8 rfl) | (rw[kr e11 (kq hi0 hnb (by first | exact .inl hj | exact .inr e25)) (by first | exact .inr e45 | exact .inl (fx e37))];exact g8 rfl))
theorem a4j {s:Sc} {l:List Mm} {i:Nat} {acc:Fm} (hc:fj l=true) (hi:i < l.length) (h:eu s (l.drop i) acc=eu s l Fm.zero) (hf:(bo s (atZ l (i:Int)).1).2=false):sumR s l=(Fm.zero,12):=by
 have e:l.drop i=atZ l (i:Int)::l.drop (i+1):=by rw[bm (ge hi),zQ hi]
 rw[e,eu,hf] at h;unfold sumR;rw[hc,← h];rfl
theorem a4i {s:Sc} {l:List Mm} {i:Nat} {acc:Fm} (hi:i < l.length) (h:eu s (l.drop i) acc=eu s l Fm.zero) (hf:(bo s (atZ l (i:Int)).1).2=true):eu s (l.drop (i+1)) (Fm.addR acc (Fm.scaleR (bo s (atZ l (i:Int)).1).1 (atZ l (i:Int)).2))=eu s l Fm.zero:=by
 have e:l.drop i=atZ l (i:Int)::l.drop (i+1):=by rw[bm (ge hi),zQ hi]
 rw[e,eu,hf] at h;exact h
theorem a81 {s:Sc} {l:List Mm} {i:Nat} {acc:Fm} (hc:fj l=true) (hi:l.length≤i) (h:eu s (l.drop i) acc=eu s l Fm.zero):sumR s l=(acc,0):=by
 rw[List.drop_of_length_le hi,eu] at h;unfold sumR;rw[hc,← h];rfl
theorem a11 {s:Sc} {l:List Mm} (hc:fj l=false):sumR s l=(Fm.zero,1):=by unfold sumR;rw[hc];rfl
theorem a83 {s:Sc} {a b n:Nat} (hs:s.Va a b):∀{l:List Mm} {acc:Fm} {k m:Nat},(∀x∈l,x.2.S n)→acc.S k m→∀f,eu s l acc=some f→f.S (k+l.length*(41+n)) (m+l.length*9)
 | [],acc,k,m,_,h,f,e=>by rw[eu] at e;injection e with e;subst e;exact h.up om om
 | x::l,acc,k,m,hl,h,f,e=>by
  rw[eu] at e;cases hf:(bo s x.1).2 with
  | false=>rw[hf] at e;cases e
  | true=>
   rw[hf] at e;have:=a83 hs (fun y hy=>hl y (zC _ hy)) (h.addR ((hs.formS (r:=x.1)).scaleR (hl x (mf ..)))) f e;refine this.up ?_ ?_
   ·rw[zW,Nat.add_mul,Nat.one_mul];omega
   ·rw[zW,Nat.add_mul];omega
theorem a82 {s:Sc} {a b n:Nat} (hs:s.Va a b) {l:List Mm} (hl:∀x∈l,x.2.S n):(sumR s l).1.S (1+l.length*(41+n)) (l.length*9):=by
 unfold sumR;have hz:Fm.zero.S (1+l.length*(41+n)) (l.length*9):=fm_zero_S.up om om;cases fj l with
 | false=>exact hz
 | true=>
  cases e:eu s l Fm.zero with
  | none=>exact hz
  | some f=>have:=a83 hs hl fm_zero_S f e;exact this.up om om
theorem a7f {c:Q} {a:List Mm}:∀{b:List Mm} {i:Nat},i < b.length→fq c a (b.drop i)=fq c (ku a (atZ b (i:Int)).1 (Q.mul (atZ b (i:Int)).2 c)) (b.drop (i+1)):=fun {b i} hi=>by
 have e:b.drop i=atZ b (i:Int)::b.drop (i+1):=by rw[bm (ge hi),zQ hi]
 rw[e,fq]
theorem ags {l:List Mm} {r:Rw} {c:Q} {n m:Nat} (h:∀x∈l,x.2.S n) (hc:c.S m):(∀x∈ku l r c,x.2.S (n+m+1))∧(ku l r c).length≤l.length+1:=by
 have hu:∀x∈l,x.2.S (n+m+1):=fun x hx=>(h x hx).up om
 have tk:∀(k:Nat) x,x∈l.take k→x.2.S (n+m+1):=fun k x hx=>hu x (List.mem_of_mem_take hx)
 have dr:∀(k:Nat) x,x∈l.drop k→x.2.S (n+m+1):=fun k x hx=>hu x (List.mem_of_mem_drop hx)
 unfold ku;cases sgQ c == 0 with
 | true=>exact⟨hu,by simp⟩
 | false=>
  simp only[cond_false];cases h1:decide ((posR r l:Int) < (l.length:Int))&&jr (atZ l (posR r l:Int)).1 r with
  | true=>
   rw[be] at h1;have hp:=zK h1.1;have hm:=h _ (bg (l:=l) (z:=(posR r l:Int)) om hp);refine⟨fun x hx=>?_,by simp only[cond_true,zI,List.length_take,List.length_drop,List.length_singleton];omega⟩;simp only[cond_true,zJ,zH] at hx;rcases hx with (hx | hx) | hx
   ·exact tk _ x hx
   ·rw[hx];exact hm.add hc
   ·exact dr _ x hx
  | false=>
   refine⟨fun x hx=>?_,by simp only[cond_false,zI,List.length_take,List.length_drop,List.length_singleton];omega⟩;simp only[cond_false,zJ,zH] at hx;rcases hx with (hx | hx) | hx
   ·exact tk _ x hx
   ·rw[hx];show (ci c).S _;rw[hc.canon];exact hc.up om
   ·exact dr _ x hx
theorem zw {c:Q} {n m k:Nat} (hc:c.S k):∀{b a:List Mm},(∀x∈a,x.2.S n)→(∀x∈b,x.2.S m)→(∀x∈fq c a b,x.2.S (n+b.length*(m+k+1)))∧(fq c a b).length≤a.length+b.length
 | [],a,ha,_=>⟨by simpa [fq] using ha,by simp[fq]⟩
 | x::b,a,ha,hb=>by
  obtain⟨h1,h2⟩:=ags (r:=x.1) ha ((hb x (mf ..)).mul hc);obtain⟨h3,h4⟩:=zw hc (a:=ku a x.1 (Q.mul x.2 c)) h1 fun y hy=>hb y (zC _ hy)
  rw[fq];refine⟨fun y hy=>(h3 y hy).up ?_,by rw[zW];omega⟩;rw[zW,Nat.add_mul,Nat.one_mul];omega
theorem Q.S.abs {s:Nat} {q:Q} (h:q.S s):q.abs.S s:=⟨h.num,h.den,⟨h.ok.one,h.ok.cop,fun h0=>⟨rfl,(h.ok.pos h0).2⟩⟩⟩
theorem jf {n:Nat} (h:n≤1000000000):ariO .sub .i64 ((n+1:Nat):Int) 1=some (n:Int):=by
 show some (IntKind.wrap .i64 (((n+1:Nat):Int) - 1))=_;rw[fd om om]
 congr 1;omega
theorem wd {n:Nat} (h:((n:Int) == 0)=false):decide (0 < (n:Int))=true:=by
 refine dt ?_;have:n≠0:=fun e=>by subst e;simp at h
 omega
theorem aop {α β:Type} {f:α→β} {l:List α} {i:Nat} (h:decide (((i+1:Nat):Int)≤((l.map f).length:Int))=true):i < l.length:=by
 have:=zK h;rw[zB] at this;omega
theorem aoq {α β:Type} {f:α→β} {l:List α} {i:Nat} (h:decide (((i+1:Nat):Int)≤((l.map f).length:Int))=false):l.length≤i:=by
 have:=zM h;rw[zB] at this;omega
abbrev cmpR (x y:Q):Int:=sgQ (Q.add x y.neg')
def fb (ls:List Lm) (unit:Int) (p:Nat×Nat) (n:Nat):Nat×Nat:=
 bif (atZ ls (n:Int)).unit != unit then p
 else (bif !(atZ ls (n:Int)).upper&&(((p.1:Int) == 0)||decide (0 < cmpR (atZ ls (n:Int)).value (atZ ls ((p.1 - 1:Nat):Int)).value)) then n+1 else p.1,
  bif (atZ ls (n:Int)).upper&&(((p.2:Int) == 0)||decide (cmpR (atZ ls (n:Int)).value (atZ ls ((p.2 - 1:Nat):Int)).value < 0)) then n+1 else p.2)
def gh (ls:List Lm) (unit:Int):Nat×Nat:=(List.range ls.length).foldl (fb ls unit) (0,0)
theorem d4 {ls:List Lm} {unit:Int} {i lo hi lo' hi':Nat} (h:(List.range i).foldl (fb ls unit) (0,0)=(lo,hi)) (hs:fb ls unit (lo,hi) i=(lo',hi')):(List.range (i+1)).foldl (fb ls unit) (0,0)=(lo',hi'):=by
 rw[List.range_succ,List.foldl_append,h];exact hs
theorem aft {ls:List Lm} {unit:Int} {i lo hi:Nat} (h:(List.range i).foldl (fb ls unit) (0,0)=(lo,hi)) (h1:i≤ls.length) (h2:ls.length≤i):gh ls unit=(lo,hi):=by
 have:i=ls.length:=by omega
 subst this;exact h
theorem afw {ls:List Lm} {unit:Int} {p:Nat×Nat} {n:Nat} (hn:n < ls.length) (h1:p.1≤ls.length) (h2:p.2≤ls.length):(fb ls unit p n).1≤ls.length∧(fb ls unit p n).2≤ls.length:=by
 unfold fb;cases (atZ ls (n:Int)).unit != unit with
 | true=>exact⟨h1,h2⟩
 | false=>
  simp only[cond_false]
  constructor
  ·cases !(atZ ls (n:Int)).upper&&(((p.1:Int) == 0)||decide (0 < cmpR (atZ ls (n:Int)).value (atZ ls ((p.1 - 1:Nat):Int)).value)) with
   | true=>exact hn
   | false=>exact h1
  ·cases (atZ ls (n:Int)).upper&&(((p.2:Int) == 0)||decide (cmpR (atZ ls (n:Int)).value (atZ ls ((p.2 - 1:Nat):Int)).value < 0)) with
   | true=>exact hn
   | false=>exact h2
theorem a0p (ls:List Lm) (unit:Int):(gh ls unit).1≤ls.length∧(gh ls unit).2≤ls.length:=by
 have:∀i,i≤ls.length→((List.range i).foldl (fb ls unit) (0,0)).1≤ls.length∧((List.range i).foldl (fb ls unit) (0,0)).2≤ls.length:=fun i=>by
  induction i with
  | zero=>intro _;exact⟨nq _,nq _⟩
  | succ i ih=>
   intro h;rw[List.range_succ,List.foldl_append];obtain⟨h1,h2⟩:=ih om;exact afw om h1 h2
 exact this _ (nr _)
def ic (s:Sc) (v:Int):List Mm:=bif decide (v < (s.q.g.inputs:Int)) then [(⟨1,v,0,0⟩,Q.one)] else [(⟨5,v - s.q.g.inputs,0,0⟩,Q.one)]
def f5 (s:Sc) (v:Int):List Mm×Bool:=
 bif decide (v < (s.q.g.inputs:Int)) then ([(⟨2,v,0,0⟩,Q.one)],true)
 else bif (((gh s.lems (v - s.q.g.inputs)).1:Int) == 0)||(((gh s.lems (v - s.q.g.inputs)).2:Int) == 0) then ([],false)
 else bif decide (sgQ (atZ s.lems (((gh s.lems (v - s.q.g.inputs)).2 - 1:Nat):Int)).value≤0) then ([(⟨10,v - s.q.g.inputs,0,((gh s.lems (v - s.q.g.inputs)).2:Int)⟩,Q.one)],true)
 else bif decide (0≤sgQ (atZ s.lems (((gh s.lems (v - s.q.g.inputs)).1 - 1:Nat):Int)).value) then ([(⟨8,v - s.q.g.inputs,((gh s.lems (v - s.q.g.inputs)).1:Int),0⟩,Q.one),(⟨12,v - s.q.g.inputs,0,((gh s.lems (v - s.q.g.inputs)).2:Int)⟩,Q.one)],true)
 else ([(⟨12,v - s.q.g.inputs,0,((gh s.lems (v - s.q.g.inputs)).2:Int)⟩,Q.mul (Q.div Q.one (Q.add (atZ s.lems (((gh s.lems (v - s.q.g.inputs)).2 - 1:Nat):Int)).value (atZ s.lems (((gh s.lems (v - s.q.g.inputs)).1 - 1:Nat):Int)).value.neg')) (atZ s.lems (((gh s.lems (v - s.q.g.inputs)).2 - 1:Nat):Int)).value),
   (⟨13,v - s.q.g.inputs,((gh s.lems (v - s.q.g.inputs)).1:Int),((gh s.lems (v - s.q.g.inputs)).2:Int)⟩,Q.div Q.one (Q.add (atZ s.lems (((gh s.lems (v - s.q.g.inputs)).2 - 1:Nat):Int)).value (atZ s.lems (((gh s.lems (v - s.q.g.inputs)).1 - 1:Nat):Int)).value.neg'))],true)
def im (s:Sc) (t:Tm):List Mm×Bool:=bif decide (0 < sgQ t.2) then (ic s t.1,true) else f5 s t.1
def br (s:Sc):List Tm→List Mm→Option (List Mm)
 | [],l=>some l
 | t::r,l=>bif (im s t).2 then br s r (fq t.2.abs l (im s t).1) else none
def bi (s:Sc) (f:Fm):Q×List Mm×Bool:=match br s f.terms [] with
 | some l=>((Fm.subR f (sumR s l).1).const,l,true)
 | none=>(Q.zero,[],false)
theorem a04 {q:Q} (h:¬sgQ q≤0):q.neg=false∧0 < q.num:=by
 unfold sgQ isg at h;split at h
 ·omega
 ·rename_i h0
  cases hn:q.neg with
  | false=>exact⟨rfl,by omega⟩
  | true=>rw[hn] at h;simp at h
theorem ajy {q:Q} (h:¬0≤sgQ q):q.neg=true∧0 < q.num:=by
 unfold sgQ isg at h;split at h
 ·omega
 ·rename_i h0
  cases hn:q.neg with
  | true=>exact⟨rfl,by omega⟩
  | false=>rw[hn] at h;simp at h
theorem a54 {b:Bool} {n d:Nat} (hn:0 < n):0 < (quot b n d).num:=by
 unfold quot;rw[if_neg om];exact Nat.div_pos (Nat.le_of_dvd hn (Nat.gcd_dvd_left ..)) (Nat.gcd_pos_of_pos_left _ hn)
theorem yy {u l:Q} (hl0:l.Ok) (h:¬sgQ u≤0) (k:¬0≤sgQ l):(Q.add u l.neg').num≠0:=by
 obtain⟨h1,h2⟩:=a04 h;obtain⟨k1,k2⟩:=ajy k;have e:l.neg'.neg=false∧0 < l.neg'.num:=by
  unfold Q.neg' ci;refine⟨?_,a54 k2⟩;unfold quot;split
  ·rfl
  ·show (!l.neg)=false;rw[k1];rfl
 have:0 < (Q.add u l.neg').num:=by
  unfold Q.add;simp only;refine a54 ?_;unfold sadd Q.sg;rw[h1,e.1];simp only[Bool.false_and,if_true];have:=Nat.mul_pos h2 l.neg'.un_pos;omega
 omega
theorem ac5 (s:Sc) (v:Int):(∀x∈ic s v,x.2.S 26)∧(ic s v).length≤2:=by
 unfold ic;cases decide (v < (s.q.g.inputs:Int)) with
 | true=>exact⟨fun x hx=>by rw[mj hx];exact sz_one.up dx,by simp⟩
 | false=>exact⟨fun x hx=>by rw[mj hx];exact sz_one.up dx,by simp⟩
theorem mq {s:Sc} {a b k:Nat} (hs:s.Va a b) (h:((k:Int) == 0)=false) (hk:k≤s.lems.length):k - 1 < s.lems.length∧(atZ s.lems ((k - 1:Nat):Int)).value.S 8:=by
 have h0:k≠0:=fun e=>by subst e;simp at h
 have h1:k - 1 < s.lems.length:=by omega
 exact⟨h1,(hs.lems _ (mg (ab h1))).up hs.b9⟩
theorem afy {s:Sc} {a b:Nat} (hs:s.Va a b) (v:Int):(∀x∈(f5 s v).1,x.2.S 26)∧(f5 s v).1.length≤2:=by
 unfold f5;have one:∀(r:Rw),∀x∈[(r,Q.one)],(x:Mm).2.S 26:=fun r x hx=>by rw[mj hx];exact sz_one.up dx
 cases decide (v < (s.q.g.inputs:Int)) with
 | true=>exact⟨one _,by simp⟩
 | false=>
  obtain⟨b1,b2⟩:=a0p s.lems (v - s.q.g.inputs);simp only[cond_false];generalize gh s.lems (v - s.q.g.inputs)=p at b1 b2;cases h1:((p.1:Int) == 0) with
  | true=>exact⟨fun x hx=>(by cases hx),nq _⟩
  | false=>
   cases h2:((p.2:Int) == 0) with
   | true=>exact⟨fun x hx=>(by cases hx),nq _⟩
   | false=>
    obtain⟨g1,l8⟩:=mq hs h1 b1;obtain⟨g2,u8⟩:=mq hs h2 b2;simp only[Bool.or_self,cond_false];cases h3:decide (sgQ (atZ s.lems ((p.2 - 1:Nat):Int)).value≤0) with
    | true=>exact⟨one _,by simp⟩
    | false=>
     cases h4:decide (0≤sgQ (atZ s.lems ((p.1 - 1:Nat):Int)).value) with
     | true=>
      refine⟨fun x hx=>?_,by simp⟩;simp only[cond_true,cond_false,zP,List.not_mem_nil,or_false] at hx;rcases hx with rfl | rfl<;>exact sz_one.up dx
     | false=>
      have hd:=(sz_one.div (u8.add l8.neg) (yy l8.ok (zM h3) (zM h4)));refine⟨fun x hx=>?_,by simp⟩;simp only[cond_false,zP,List.not_mem_nil,or_false] at hx;rcases hx with rfl | rfl
      ·exact (hd.mul u8).up dx
      ·exact hd.up dx
theorem ah2 {s:Sc} {a b:Nat} (hs:s.Va a b) (t:Tm):(∀x∈(im s t).1,x.2.S 26)∧(im s t).1.length≤2:=by
 unfold im;cases decide (0 < sgQ t.2) with
 | true=>exact ac5 s t.1
 | false=>exact afy hs t.1
theorem ym {s:Sc} {ts:List Tm} {i:Nat} {acc M:List Mm} (hi:i < ts.length) (h:br s (ts.drop i) acc=br s ts []) (hm:im s (atZ ts (i:Int))=(M,true)):br s (ts.drop (i+1)) (fq (atZ ts (i:Int)).2.abs acc M)=br s ts []:=by
 have e:ts.drop i=atZ ts (i:Int)::ts.drop (i+1):=by rw[bm (ge hi),zQ hi]
 rw[e,br,hm] at h;exact h
theorem a2u {s:Sc} {ts:List Tm} {i:Nat} {acc:List Mm} (h:br s (ts.drop i) acc=br s ts []) (hi:ts.length≤i):br s ts []=some acc:=by rw[← h,List.drop_of_length_le hi];rfl
theorem a7l {s:Sc} {f:Fm} {i:Nat} {acc:List Mm} (hi:i < f.terms.length) (h:br s (f.terms.drop i) acc=br s f.terms []) (hm:(im s (atZ f.terms (i:Int))).2=false):bi s f=(Q.zero,[],false):=by
 have e:f.terms.drop i=atZ f.terms (i:Int)::f.terms.drop (i+1):=by rw[bm (ge hi),zQ hi]
 rw[e,br,hm] at h;unfold bi;rw[← h];rfl
theorem yo {s:Sc} {a b:Nat} (hs:s.Va a b):∀{ts:List Tm} {acc L:List Mm} {n k:Nat},(∀t∈ts,t.2.S 3)→(∀x∈acc,x.2.S n)→acc.length≤k→br s ts acc=some L→(∀x∈L,x.2.S (n+ts.length*60))∧L.length≤k+ts.length*2
 | [],acc,L,n,k,_,h,hk,e=>by rw[br] at e;injection e with e;subst e;exact⟨by simpa using h,by simpa using hk⟩
 | t::ts,acc,L,n,k,ht,h,hk,e=>by
  rw[br] at e;cases hm:(im s t).2 with
  | false=>rw[hm] at e;cases e
  | true=>
   rw[hm] at e;obtain⟨m1,m2⟩:=ah2 hs t;obtain⟨g1,g2⟩:=zw (ht t (mf ..)).abs h m1;have:=zT 30 m2;obtain⟨r1,r2⟩:=yo hs (n:=n+60) (k:=k+2) (fun x hx=>ht x (zC _ hx)) (fun x hx=>(g1 x hx).up om) om e;rw[zW];exact⟨fun x hx=>(r1 x hx).up om,by omega⟩
theorem a2w {s:Sc} {a b:Nat} (hs:s.Va a b) {f:Fm} (hf:f.S 3 8) {L:List Mm} (e:br s f.terms []=some L):(∀x∈L,x.2.S 481)∧L.length≤16:=by
 have hl:=hf.len;obtain⟨h1,h2⟩:=yo hs (n:=1) (k:=0) hf.each (fun x hx=>by cases hx) (nr _) e;exact⟨fun x hx=>(h1 x hx).up om,by omega⟩
def ju (ls:List Lm) (j:Int) (A B:Q×List Mm×Bool):List Lm:=ls++((bif A.2.2 then [⟨j,false,A.1,A.2.1⟩] else [])++(bif B.2.2 then [⟨j,true,B.1.neg',B.2.1⟩] else []))
def xh (s:Sc) (j:Nat):Sc:=⟨s.q,s.path,ju s.lems j (bi s (atZ s.q.g.units (j:Int))) (bi s (Fm.scaleR (atZ s.q.g.units (j:Int)) Q.mone))⟩
def aj (s:Sc):Nat→Sc
 | 0=>s
 | j+1=>xh (aj s j) j
def di (s:Sc):Sc:=aj s s.q.g.units.length
theorem kn {f:Fm} {q:Q} (h:f.Cn) {P:Int→Prop} (hv:∀t∈f.terms,P t.1):∀t∈(Fm.scaleR f q).terms,P t.1:=fun t ht=>by
 obtain⟨r,h1,_,_,h4,_⟩:=pu (c:=q) f.terms [] h.srt;rw[zX] at h1;have ht':t∈r:=by rw[← h1];exact ht
 obtain⟨u,hu,e⟩:=h4 t ht';rw[← e];exact hv u hu
theorem uv {s:Sc} {a b:Nat} (hs:s.Va a b) {f:Fm} (hf:f.S 3 8):(bi s f).1.S 9100∧(∀x∈(bi s f).2.1,x.2.S 481)∧(bi s f).2.1.length≤16:=by
 unfold bi;cases e:br s f.terms [] with
 | none=>exact⟨sz_zero.up dx,(fun x hx=>by cases hx),nq _⟩
 | some L=>
  obtain⟨h1,h2⟩:=a2w hs hf e;have:=zT (41+481) h2;exact⟨(hf.subR (a82 hs h1)).const.up om,h1,h2⟩
theorem ahy {s:Sc} {l:List Mm} {a b n:Nat} (h:s.Va a b) (hl:∀m∈l,m.2.S n) (h9:l.length≤40) (hn9:n≤9000) (hK:1+l.length*(41+n)≤9000):PCalls Tryz.prog TF 121 [scP s,mmsP l] (.tup [fmP (sumR s l).1,iP (sumR s l).2]):=by
 refine pcA [85,37] Tryz.func121 (fun D=>?_);refine ac (c:=a3b (n:=n) hl om om) ?_;refine a2 (fun e12=>?_) (fun e12=>?_)
 ·replace e12:=il e12;exact ar (c:=by rw[a11 e12];rfl)
 ·replace e12:=j0 e12
  skip
  refine au ?_;refine pwk ?_;refine pl (ι:={p:Nat×Fm // p.1≤l.length∧eu s (l.drop p.1) p.2=eu s l Fm.zero∧p.2.S (1+p.1*(41+n)) (p.1*9)}) (fun p=>[(1,.pv (mmsP l)),(2,.box 2 0),(4,.box 4 0),(6,.box 6 0),(7,.pv (iP p.1.1))]) (fun p=>[(2,.box 85 [.pv (iP s.q.g.inputs),.pv (bc s.q.g.units),.pv (bc s.q.g.outputs),.pv (dg s.q.rg.lo),.pv (dg s.q.rg.hi),.pv (bc s.q.rg.rows),.pv (cf s.q.goal.terms),.pv (bP s.q.goal.const.neg),.pv (.nat s.q.goal.const.num),.pv (.nat s.q.goal.const.den),.pv (dcsP s.path),.pv (lmsP s.lems)]),(4,.box 37 [.pv (cf []),.pv (.raw (.bool false)),.pv (.nat 0),.pv (.nat 0)]),(6,.box 37 [.pv (cf p.1.2.terms),.pv (bP p.1.2.const.neg),.pv (.nat p.1.2.const.num),.pv (.nat p.1.2.const.den)])]) [85,37] (fun p=>l.length - p.1.1) ⟨(0,Fm.zero),nq _,rfl,fm_zero_S.up om om⟩ (c5 Y Y Y Y Y trivial) (c3 Y Y Y trivial) (fun _=>rfl) ?_;intro ⟨(i,acc),hi0,hg,ha⟩;simp only at hi0 hg ha;refine a2 (fun e17=>?_) (fun e17=>?_)
  ·have hi:i < l.length:=dw e17;have hm:=hl _ (mg (ab hi));have hf:=h.formS (r:=(atZ l (i:Int)).1);have hii:=zT (41+n) (show i+1≤l.length from hi);rw[Nat.add_mul,Nat.one_mul] at hii;refine ax (c:=(ae (ab hi))) ?_;refine ac (c:=ali h) ?_;refine a2 (fun e31=>?_) (fun e31=>?_)
   ·replace e31:=il e31;exact ar (c:=by rw[a4j e12 hi hg e31];rfl)
   ·replace e31:=j0 e31;refine ax (c:=(ae (ab hi))) ?_;refine ac (c:=ip hf hm dx om dx) ?_;refine ac (c:=a52 ha (hf.scaleR hm) om om) ?_;refine aa (c:=a8 (by show i≤_;omega)) ?_;refine au ?_;exact pe ⟨(i+1,Fm.addR acc (Fm.scaleR (bo s (atZ l (i:Int)).1).1 (atZ l (i:Int)).2)),hi,a4i hi hg e31,(ha.addR (hf.scaleR hm)).up (by show _≤1+(i+1)*(41+n);rw[Nat.add_mul,Nat.one_mul];omega) (by show i*9+9≤(i+1)*9;omega)⟩ (c5 Y Y Y Y Y trivial) (c3 Y Y Y trivial) Y (by show l.length - (i+1) < l.length - i;omega)
  ·have hj:l.length≤i:=fx e17;exact ar (c:=by rw[a81 e12 hj hg];rfl)
theorem a94 {a b:List Mm} {c:Q} {n m k:Nat} (ha:∀x∈a,x.2.S n) (hb:∀x∈b,x.2.S m) (hc:c.S k) (h9:a.length+b.length≤900) (hm9:m≤9000) (hk9:k≤9000) (hK:n+b.length*(m+k+1)≤9000):PCalls Tryz.prog TU 120 [mmsP a,mmsP b,ratP c] (mmsP (fq c a b)):=by
 refine pcA [35] Tryz.func120 (fun D=>?_);refine au ?_;refine pl (ι:={p:Nat×List Mm // p.1≤b.length∧fq c p.2 (b.drop p.1)=fq c a b∧(∀x∈p.2,x.2.S (n+p.1*(m+k+1)))∧p.2.length≤a.length+p.1}) (fun p=>[(0,.pv (mmsP p.1.2)),(1,.pv (mmsP b)),(5,.box 5 0),(7,.pv (iP p.1.1))]) (fun p=>[(5,.box 35 [.pv (bP c.neg),.pv (.nat c.num),.pv (.nat c.den)])]) [35] (fun p=>b.length - p.1.1) ⟨(0,a),nq _,rfl,by simpa using ha,nr _⟩ (c4 Y Y Y Y trivial) (ai Y trivial) (fun _=>rfl) ?_;intro ⟨(i,acc),hi0,hg,hacc,hlen⟩;simp only at hi0 hg hacc hlen;refine a2 (fun e11=>?_) (fun e11=>?_)
 ·have hi:i < b.length:=dw e11;have hm:=hb _ (mg (ab hi));have hii:=zT (m+k+1) (show i+1≤b.length from hi);rw[Nat.add_mul,Nat.one_mul] at hii;obtain⟨q1,q2⟩:=ags (r:=(atZ b (i:Int)).1) hacc (hm.mul hc);refine ax (c:=(ae (ab hi))) ?_;refine ax (c:=(ae (ab hi))) ?_;refine ac (c:=adb (hm.sm om) (hc.sm om)) ?_;refine ac (c:=alb hacc (hm.mul hc) om om) ?_;refine aa (c:=a8 (by show i≤_;omega)) ?_;refine au ?_;exact pe ⟨(i+1,ku acc (atZ b (i:Int)).1 (Q.mul (atZ b (i:Int)).2 c)),hi,by rw[← hg,a7f hi],fun x hx=>(q1 x hx).up (by show _≤n+(i+1)*(m+k+1);rw[Nat.add_mul,Nat.one_mul];omega),by show (ku acc (atZ b (i:Int)).1 (Q.mul (atZ b (i:Int)).2 c)).length≤a.length+(i+1);omega⟩ (c4 Y Y Y Y trivial) (ai Y trivial) Y (by show b.length - (i+1) < b.length - i;omega)
 ·have hj:b.length≤i:=fx e11;exact ar (c:=congrArg mmsP (by show acc=_;rw[← hg,List.drop_of_length_le hj];rfl))
end Go.Proofs.YtbhbainhmfjpdaaGreatDoor
