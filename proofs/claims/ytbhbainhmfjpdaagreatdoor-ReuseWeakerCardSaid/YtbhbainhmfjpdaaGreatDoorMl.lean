/- Walks of the search and of what it calls, part 12. -/
import Derived.Test.YtbhbainhmfjpdaaGreatDoorMk
import Derived.Laws.StructEq
set_option linter.unusedVariables false
set_option linter.unusedSimpArgs false
set_option maxRecDepth 100000
set_option maxHeartbeats 8000000
namespace Go.Proofs.YtbhbainhmfjpdaaGreatDoor
open Go.RowKit
structure Fm.S (s l:Nat) (f:Fm):Prop where
 cn:f.Cn
 each:∀t∈f.terms,t.2.S s
 const:f.const.S s
 len:f.terms.length≤l
theorem Fm.S.up {s l t m:Nat} {f:Fm} (h:f.S s l) (hs:s≤t) (hl:l≤m):f.S t m:=⟨h.cn,fun x hx=>(h.each x hx).up hs,h.const.up hs,nt h.len hl⟩
theorem cn_zero:Fm.zero.Cn:=⟨by simp[Srt'],(fun t h=>by cases h),by decide⟩
theorem fm_zero_S:Fm.zero.S 1 0:=⟨cn_zero,fun t h=>(by cases h),sz_zero,nr _⟩
theorem cfL_S:∀{l:List Tm} {s:Nat} {v:Int},(∀t∈l,t.2.S s)→1≤s→(cfL l v).S s
 | [],s,v,_,h=>sz_zero.up h
 | t::r,s,v,h,h1=>by
  rw[cfL];split
  ·exact h t (mf ..)
  ·exact cfL_S (fun u hu=>h u (List.mem_cons_of_mem _ hu)) h1
theorem addT_S {s t:Nat} {x y:List Tm} (hx:Srt' x) (hxn:Nz x) (hy:Srt' y) (hyn:Nz y) (h:∀e∈x,e.2.S s) (k:∀e∈y,e.2.S t) (h1:1≤s) (k1:1≤t):∀e∈addT x y,e.2.S (s+t+1):=fun e he=>by
 obtain⟨g1,g2,g3⟩:=addT_cf y x hy hyn hx hxn;rw[← cfL_mem g1 he,g3];exact (cfL_S h h1).add (cfL_S k k1)
theorem Fm.S.addR {s l t m:Nat} {f g:Fm} (h:f.S s l) (k:g.S t m):(Fm.addR f g).S (s+t+1) (l+m):=
 ⟨h.cn.addR k.cn,addT_S h.cn.srt h.cn.nz k.cn.srt k.cn.nz h.each k.each h.const.pos k.const.pos,h.const.add k.const,nt (addT_len ..) (Nat.add_le_add h.len k.len)⟩
theorem Fm.S.scaleR {s l t:Nat} {f:Fm} {q:Q} (h:f.S s l) (k:q.S t):(Fm.scaleR f q).S (s+t) l:=
 ⟨h.cn.scaleR,scaleT_all (P:=fun x=>x.S (s+t)) f.terms [] (fun x hx=>by cases hx) fun x hx=>(h.each x hx).mul k,h.const.mul k,nt (scaleT_len ..) (by simpa using h.len)⟩
theorem Fm.S.lo {s l:Nat} {f:Fm} (h:f.S s l) (hs:s≤10000) (hl:l≤400):f.Lo:=⟨fun t ht=>(h.each t ht).lo hs,h.const.lo hs,nt h.len hl⟩
theorem r_fadd {s l t m:Nat} {f g:Fm} (h:f.S s l) (k:g.S t m) (hs:s+t+1≤10000) (hl:l+m≤900):PCalls Tryz.prog TF 31 [fmP f,fmP g] (fmP (Fm.addR f g)):=pc_f2 (by kernel_rfl) fun w a b ha hb=>by
 refine r7add_any w a b f g ha hb (fun n hn x hx=>?_) (fun x hx=>⟨(k.each x hx).sm om,(k.each x hx).ok⟩) ⟨h.const.sm om,h.const.ok⟩ ⟨k.const.sm om,k.const.ok⟩ (by have:=h.len;have:=k.len;omega) (fun n hn=>?_)
 ·have h2:=addT_S (y:=g.terms.take n) h.cn.srt h.cn.nz (List.Pairwise.sublist (List.take_sublist ..) k.cn.srt) (fun y hy=>k.cn.nz y (List.mem_of_mem_take hy)) h.each (fun y hy=>k.each y (List.mem_of_mem_take hy)) h.const.pos k.const.pos x hx;exact⟨h2.sm hs,h2.ok⟩
 ·exact nt (addT_len ..) (by have:=h.len;have:=k.len;rw[List.length_take];omega)
theorem r_fscale {s l t:Nat} {f:Fm} {q:Q} (h:f.S s l) (k:q.S t) (hs:s≤10000) (ht:t≤10000) (hl:l≤900):PCalls Tryz.prog TF 32 [fmP f,ratP q] (fmP (Fm.scaleR f q)):=pc_fq (by kernel_rfl) fun w a b ha hb=>r7scale_any w a b f q ha hb (fun x hx=>(h.each x hx).sm hs) (h.const.sm hs) (k.sm ht) (nt h.len hl)
def Fm.subR (f g:Fm):Fm:=Fm.addR f (Fm.scaleR g Q.mone)
theorem Fm.S.subR {s l t m:Nat} {f g:Fm} (h:f.S s l) (k:g.S t m):(Fm.subR f g).S (s+(t+1)+1) (l+m):=h.addR (k.scaleR sz_mone)
theorem r_fsub {s l t m:Nat} {f g:Fm} (h:f.S s l) (k:g.S t m) (hs:s+(t+1)+1≤10000) (hl:l+m≤900):PCalls Tryz.prog TF 122 [fmP f,fmP g] (fmP (Fm.subR f g)):=by
 have e:ofQ (-1)=Q.mone:=rfl;refine pc [37] (by kernel_rfl) Tryz.func122 Y Y (fun D=>?_);refine pa Y Y (pr Y ?_);refine rc (r_of (-1) dx dx) Y Y Y Y Y Y Y Y ?_;refine rc (r_fscale (q:=ofQ (-1)) k sz_mone om dx om) Y Y Y Y Y Y Y Y ?_;refine rc (r_fadd h (k.scaleR sz_mone) hs hl) Y Y Y Y Y Y Y Y (rn (by kernel_rfl) ?_);exact pt (ret_q Y Y)
def varR (v:Int):Fm:=⟨[(v,Q.one)],Q.zero⟩
def numR (q:Q):Fm:=⟨[],q⟩
theorem sz_var (v:Int):(varR v).S 1 1:=⟨⟨by simp[Srt',varR],(fun t ht=>by rw[mj ht];exact⟨(by decide:Q.one.Ok),(by decide:Q.one.num≠0)⟩),(by decide:Q.zero.Ok)⟩,fun t ht=>by rw[mj ht];exact sz_one,sz_zero,nr _⟩
theorem sz_num {q:Q} {s:Nat} (h:q.S s):(numR q).S s 0:=⟨⟨by simp[Srt',numR],(fun t ht=>by cases ht),h.ok⟩,fun t ht=>(by cases ht),h,nr _⟩
theorem r_var (v:Int):PCalls Tryz.prog TF 60 [iP v] (fmP (varR v)):=by
 refine pc [37] (by kernel_rfl) Tryz.func60 Y Y (fun D=>?_);refine pa Y Y (pr Y ?_);refine rc (r_of 1 dx dx) Y Y Y Y Y Y Y Y ?_;refine rl Y Y Y Y Y Y Y Y (rn Y ?_);exact pt (ret_q Y Y)
theorem r_num {q:Q}:PCalls Tryz.prog TF 62 [ratP q] (fmP (numR q)):=by
 refine pc [37,35] (by kernel_rfl) Tryz.func62 Y Y (fun D=>?_);refine pa Y Y (pa Y Y ?_);exact pt (ret_q Y Y)
theorem Q.mul_one {x:Q} (h:x.Ok):Q.mul x Q.one=x:=by
 unfold Q.mul;have e1:Q.one.un=1:=rfl;simp only[e1,Nat.mul_one];have:(x.neg != false)=x.neg:=by cases x.neg<;>rfl
 rw[this];exact quot_self h
theorem Fm.Cn.ext {f g:Fm} (h:f.Cn) (k:g.Cn) (e:∀v,cfL f.terms v=cfL g.terms v) (ec:f.const=g.const):f=g:=by
 have:=cfL_ext h.srt k.srt h.nz k.nz e;obtain⟨a,b⟩:=f;obtain⟨c,d⟩:=g;simp only at this ec;rw[this,ec]
theorem Fm.Cn.scale_one {f:Fm} (h:f.Cn):Fm.scaleR f Q.one=f:=Fm.Cn.ext h.scaleR h (fun v=>by rw[h.scale_cf,Q.mul_one (cfL_ok h.nz)]) (Q.mul_one h.const)
theorem Fm.Cn.zero_addR {f:Fm} (h:f.Cn):Fm.addR Fm.zero f=f:=Fm.Cn.ext (cn_zero.addR h) h (fun v=>by rw[cn_zero.add_cf h,show cfL Fm.zero.terms v=Q.zero from rfl,Q.zadd (cfL_ok h.nz)]) (Q.zadd h.const)
theorem Fm.Cn.addR_zero {f:Fm} (h:f.Cn):Fm.addR f Fm.zero=f:=Fm.Cn.ext (h.addR cn_zero) h (fun v=>by rw[h.add_cf cn_zero,show cfL Fm.zero.terms v=Q.zero from rfl,Q.addz (cfL_ok h.nz)]) (Q.addz h.const)
theorem p_fadd {s l t m:Nat} {f g:Fm} (h:f.S s l) (k:g.S t m) (hs:s≤10000) (ht:t≤10000) (hl:l≤400) (hm:m≤400):PCalls Tryz.prog TF 191 [fmP f,fmP g] (fmP (Fm.addR f g)):=by
 have:=p_ladd (h.lo hs hl) (k.lo ht hm);rwa [mrg_eq h.cn k.cn,k.cn.scale_one] at this
theorem p_fsub {s l t m:Nat} {f g:Fm} (h:f.S s l) (k:g.S t m) (hs:s≤10000) (ht:t≤10000) (hl:l≤400) (hm:m≤400):PCalls Tryz.prog TF 140 [fmP f,fmP g] (fmP (Fm.subR f g)):=by
 have:=p_lsub (h.lo hs hl) (k.lo ht hm);rwa [mrg_eq h.cn k.cn] at this
theorem p_fscale {s l t:Nat} {f:Fm} {q:Q} (h:f.S s l) (k:q.S t) (hs:s≤10000) (ht:t≤10000) (hl:l≤400):PCalls Tryz.prog TF 187 [fmP f,ratP q] (fmP (Fm.scaleR f q)):=by
 have:=p_lscale (h.lo hs hl) (k.lo ht);rwa [mrg_eq cn_zero h.cn,h.cn.scaleR.zero_addR] at this
theorem lt_of {α β:Type} {f:α→β} {l:List α} {i:Nat} (h:decide ((i:Int) < ((l.map f).length:Int))=true):i < l.length:=by
 have:=of_decide_eq_true h;rw[List.length_map] at this;omega
theorem ge_of {α β:Type} {f:α→β} {l:List α} {i:Nat} (h:decide ((i:Int) < ((l.map f).length:Int))=false):l.length≤i:=by
 have:=of_decide_eq_false h;rw[List.length_map] at this;omega
theorem i64_wrap {z:Int} (h1:-4611686018427387904≤z) (h2:z≤4611686018427387904):IntKind.wrap .i64 z=z:=by
 rw[IntKind.wrap_i64];omega
theorem ari_succ {n:Nat} (h:n≤1000000000):ariO .add .i64 (n:Int) 1=some (((n+1:Nat)):Int):=by
 show some (IntKind.wrap .i64 ((n:Int)+1))=_;rw[i64_wrap om om];rfl
theorem ari_add {x y:Int} (h1:-1000000000≤x) (h2:x≤1000000000) (h3:-1000000000≤y) (h4:y≤1000000000):ariO .add .i64 x y=some (x+y):=by
 show some (IntKind.wrap .i64 (x+y))=_;rw[i64_wrap om om]
theorem ari_sub {x y:Int} (h1:-1000000000≤x) (h2:x≤1000000000) (h3:-1000000000≤y) (h4:y≤1000000000):ariO .sub .i64 x y=some (x - y):=by
 show some (IntKind.wrap .i64 (x - y))=_;rw[i64_wrap om om]
def atZ {α:Type} [Inhabited α] (l:List α) (z:Int):α:=(l[z.toNat]?).getD default
theorem atZ_get {α:Type} [Inhabited α] {l:List α} {z:Int} (h0:0≤z) (h1:z < l.length):l[z.toNat]?=some (atZ l z):=by
 unfold atZ;rw[ge om];rfl
theorem atZ_nat {α:Type} [Inhabited α] {l:List α} {i:Nat} {a:α} (h:l[i]?=some a):atZ l (i:Int)=a:=by
 unfold atZ;rw[Int.toNat_natCast,h];rfl
theorem atZ_mem {α:Type} [Inhabited α] {l:List α} {z:Int} (h0:0≤z) (h1:z < l.length):atZ l z∈l:=mg (atZ_get h0 h1)
theorem toN {z:Int} (h0:0≤z):z=((z.toNat:Nat):Int):=by omega
theorem lt_ofZ {α β:Type} {f:α→β} {l:List α} {z:Int} (h:decide (z < ((l.map f).length:Int))=true):z < l.length:=by
 have:=of_decide_eq_true h;rwa [List.length_map] at this
theorem lt_ofZ' {α β:Type} {f:α→β} {l:List α} {z:Int} (h:decide (((l.map f).length:Int)≤z)=false):z < l.length:=by
 have:=of_decide_eq_false h;rw[List.length_map] at this;omega
theorem ge_ofZ {z:Int} (h:decide (z < 0)=false):0≤z:=by
 have:=of_decide_eq_false h;omega
theorem not_t {b:Bool} (h:(!b)=true):b=false:=by cases b<;>simp_all
theorem not_f {b:Bool} (h:(!b)=false):b=true:=by cases b<;>simp_all
theorem r_v7 {x:Fm} {v:Nat} (h:x.Sm v):PCalls Tryz.prog [] 87 [fmP x,iP v] (bP true):=pc_fv (by kernel_rfl) fun w a ha=>r7valid_any w a x v ha h.ok h.num h.const
theorem r_v7all {l:List Fm} {v:Nat} (h:∀x∈l,x.Sm v):PCalls Tryz.prog [] 114 [formsP l,iP v] (bP true):=⟨by kernel_rfl,fun w X us h1 h2 h3=>by
 obtain⟨u,v',rfl,g1,g2⟩:=args2 h3;obtain⟨a,rfl,ha⟩:=forms_of g1;obtain rfl:=raw_of g2;exact (r7all_any w a l v ha h).mono fun e w' ⟨he,G⟩=>⟨_,he,raw_to _,G⟩⟩
theorem r_v3all {l:List Q} (hl:l.length≤1000) (h:∀q∈l,q.Sm∧q.Ok):PCalls Tryz.prog [] 141 [ratsP l] (bP true):=by
 refine pcA [] Tryz.func141 (fun D=>?_);refine au ?_;refine pl (ι:={i:Nat // i≤l.length}) (fun i=>[(0,.pv (ratsP l)),(2,.pv (bP false)),(3,.pv (iP i.1))]) (fun _=>[]) [] (fun i=>l.length - i.1) ⟨0,nq _⟩ (ai Y (ai Y (ai Y trivial))) trivial (fun _=>rfl) ?_;intro ⟨i,hi⟩;refine a2 (fun e7=>?_) (fun e7=>?_)
 ·refine ax (c:=(getmap (ge (lt_of e7)))) ?_;refine ac (c:=r_valid (h _ (mg (ge (lt_of e7)))).1 (h _ (mg (ge (lt_of e7)))).2) ?_;refine aa (c:=ari_succ (by have:i < l.length:=lt_of e7;show i≤_;omega)) ?_;refine au ?_;exact pe ⟨i+1,lt_of e7⟩ (ai Y (ai Y (ai Y trivial))) trivial Y (by have:i < l.length:=lt_of e7;show l.length - (i+1) < l.length - i;omega)
 ·exact ar (c:=rfl)
structure Rgm.Va (r:Rgm) (n s:Nat):Prop where
 i0:1≤n
 i9:n≤256
 lo:r.lo.length=n
 hi:r.hi.length=n
 los:∀q∈r.lo,q.S s
 his:∀q∈r.hi,q.S s
 le:∀(i:Nat) (a b:Q),r.lo[i]?=some a→r.hi[i]?=some b→isg (Q.add a b.neg').neg (Q.add a b.neg').num≤0∧Q.cmpQ a b≤0
 r9:r.rows.length≤256
 rows:∀f∈r.rows,f.Ok n∧f.S s n
 s9:s≤1000
structure Qr.Va (q:Qr) (s:Nat):Prop where
 g:q.g.Va
 us:∀f∈q.g.units,f.S s (q.g.inputs+q.g.units.length)
 rg:q.rg.Va q.g.inputs s
 ok:q.goal.Ok (q.g.inputs+q.g.units.length)
 goal:q.goal.S 100 (q.g.inputs+q.g.units.length)
theorem Fm.S.fsm {s l v:Nat} {f:Fm} (h:f.S s l) (hs:s≤10000) (k:f.Ok v):f.Sm v:=⟨k,fun t ht=>(h.each t ht).sm hs,h.const.sm hs⟩
theorem i_lt {i n:Nat} (h:decide ((i:Int) < (n:Int))=true):i < n:=by have:=of_decide_eq_true h;omega
theorem get_of {α:Type} [Inhabited α] {l:List α} {i:Nat} (h:i < l.length):l[i]?=some (atZ l i):=by
 rw[atZ_nat (ge h)];exact ge h
theorem r_rgvalid {r:Rgm} {n s:Nat} (h:r.Va n s):PCalls Tryz.prog TU 86 [rgP r,iP n] (bP true):=by
 refine pcA [30] Tryz.func86 (fun D=>?_);refine akF (c:=by exact (show _=false from df (by have:=h.i0;omega))) ?_;refine akF (c:=by exact (show _=false from df (by have:=h.i9;omega))) ?_;refine akF (c:=by exact (show _=false from by rw[List.length_map,h.lo];exact bne_self_eq_false _)) ?_;refine akF (c:=by exact (show _=false from by rw[List.length_map,h.hi];exact bne_self_eq_false _)) ?_;refine akF (c:=by exact (show _=false from df (by have:=h.r9;rw[List.length_map];omega))) ?_;refine ac (c:=r_v3all (by have:=h.lo;have:=h.i9;omega) fun q hq=>⟨(h.los q hq).sm (by have:=h.s9;omega),(h.los q hq).ok⟩) ?_;refine ac (c:=r_v3all (by have:=h.hi;have:=h.i9;omega) fun q hq=>⟨(h.his q hq).sm (by have:=h.s9;omega),(h.his q hq).ok⟩) ?_;refine ac (c:=r_v7all fun f hf=>(h.rows f hf).2.fsm (by have:=h.s9;omega) (h.rows f hf).1) ?_;refine au ?_;refine pl (ι:={i:Nat // i≤n}) (fun i=>[(1,.pv (iP n)),(2,.box 2 0),(5,.pv (iP i.1))]) (fun _=>[(2,.box 30 [.pv (ratsP r.lo),.pv (ratsP r.hi),.pv (formsP r.rows)])]) [30] (fun i=>n - i.1) ⟨0,nq _⟩ (ai Y (ai Y (ai Y trivial))) (ai Y trivial) (fun _=>rfl) ?_;intro ⟨i,hi⟩;refine a2 (fun e51=>?_) (fun e51=>?_)
 ·have h1:i < r.lo.length:=by have:i < n:=i_lt e51;have:=h.lo;omega
  have h2:i < r.hi.length:=by have:i < n:=i_lt e51;have:=h.hi;omega
  have hlo:=h.los _ (mg (get_of h1));have hhi:=h.his _ (mg (get_of h2));have hs9:=h.s9;refine ax (c:=(getmap (get_of h1))) ?_;refine ax (c:=(getmap (get_of h2))) ?_;refine ac (c:=r_cmp (hlo.sm om) (hhi.sm om) hlo.ok hhi.neg.ok ((hlo.add hhi.neg).sm om)) ?_;refine akF (c:=by exact (show _=false from df (by have:=(h.le i _ _ (get_of h1) (get_of h2)).1;omega))) ?_;refine aa (c:=ari_succ (by have:i < n:=i_lt e51;have:=h.i9;show i≤_;omega)) ?_;refine au ?_;exact pe ⟨i+1,i_lt e51⟩ (ai Y (ai Y (ai Y trivial))) (ai Y trivial) Y (by have:i < n:=i_lt e51;show n - (i+1) < n - i;omega)
 ·exact ar (c:=rfl)
theorem r_vars {g:Gm} (h:g.Va):PCalls Tryz.prog [] 88 [gmP g] (iP ((g.inputs+g.units.length:Nat):Int)):=by
 refine pcA [27] Tryz.func88 (fun D=>?_);refine ac (c:=r_gvalid h) ?_;refine aa (c:=ari_add (by have:=h.i9;omega) (by have:=h.i9;omega) om (by have:=h.u9;rw[List.length_map];omega)) ?_;exact ar (c:=by rw[List.length_map];rfl)
theorem r_qvalid {q:Qr} {s:Nat} (h:q.Va s):PCalls Tryz.prog TU 40 [qyP q] (bP true):=by
 refine pcA [39] Tryz.func40 (fun D=>?_);refine ac (c:=r_gvalid h.g) ?_;refine ac (c:=r_rgvalid h.rg) ?_;refine ac (c:=r_vars h.g) ?_;refine ac (c:=r_v7 (h.goal.fsm (by have:=h.rg.s9;omega) h.ok)) ?_;exact ar (c:=rfl)
abbrev sgQ (q:Q):Int:=isg q.neg q.num
def fitsQ (q:Qr) (d:Dc):Bool:=
 bif d.kind == 1||d.kind == 2 then decide (0≤d.index)&&(decide (d.index < (q.g.units.length:Int))&&decide (d.at_=Q.zero))
 else bif d.kind == 3||d.kind == 4 then decide (0≤d.index)&&decide (d.index < (q.g.inputs:Int)) else false
def hitQ (q:Qr) (kind unit:Int) (d:Dc):Bool:=d.kind == kind&&(d.index == unit&&fitsQ q d)
def decidedQ (s:Sc) (kind unit:Int):Bool:=s.path.any (hitQ s.q kind unit)
def lemmaQ (ls:List Lm) (n unit:Int) (upper:Bool):Q×Bool:=
 bif decide (n < 1)||(decide ((ls.length:Int) < n)||(((atZ ls (n - 1)).unit != unit)||((atZ ls (n - 1)).upper != upper))) then (Q.zero,false)
 else (canonQ (atZ ls (n - 1)).value,true)
def onQ (s:Sc) (r:Rw) (l:Q×Bool):Bool:=r.hi == 0&&((r.lo == 0&&decidedQ s 1 r.index)||(l.2&&decide (0≤sgQ l.1)))
def offQ (s:Sc) (r:Rw) (u:Q×Bool):Bool:=r.lo == 0&&((r.hi == 0&&decidedQ s 2 r.index)||(u.2&&decide (sgQ u.1≤0)))
def unitF (v p:Fm) (l u:Q×Bool) (on off:Bool) (r:Rw):Fm×Bool:=
 bif r.kind == 5 then (v,r.lo == 0&&r.hi == 0)
 else bif r.kind == 6 then (Fm.subR v p,r.lo == 0&&r.hi == 0)
 else bif r.kind == 7 then (p,on)
 else bif r.kind == 8 then (Fm.subR p v,on)
 else bif r.kind == 9 then (Fm.scaleR p Q.mone,off)
 else bif r.kind == 10 then (Fm.scaleR v Q.mone,off)
 else bif r.kind == 11 then (Fm.subR p (numR l.1),l.2&&r.hi == 0)
 else bif r.kind == 12 then (Fm.subR (numR u.1) p,u.2&&r.lo == 0)
 else bif r.kind == 13 then (Fm.subR (Fm.scaleR (Fm.subR p (numR l.1)) u.1) (Fm.scaleR v (Q.add u.1 l.1.neg')),l.2&&(u.2&&(decide (sgQ l.1 < 0)&&decide (0 < sgQ u.1))))
 else (Fm.zero,false)
def unitQ (s:Sc) (r:Rw):Fm×Bool:=
 bif decide (r.index < 0)||decide ((s.q.g.units.length:Int)≤r.index) then (Fm.zero,false)
 else
  bif (unitF (varR (s.q.g.inputs+r.index)) (atZ s.q.g.units r.index) (lemmaQ s.lems r.lo r.index false) (lemmaQ s.lems r.hi r.index true) (onQ s r (lemmaQ s.lems r.lo r.index false)) (offQ s r (lemmaQ s.lems r.hi r.index true)) r).2
  then ((unitF (varR (s.q.g.inputs+r.index)) (atZ s.q.g.units r.index) (lemmaQ s.lems r.lo r.index false) (lemmaQ s.lems r.hi r.index true) (onQ s r (lemmaQ s.lems r.lo r.index false)) (offQ s r (lemmaQ s.lems r.hi r.index true)) r).1,true)
  else (Fm.zero,false)
def pathF (d:Dc):Fm×Bool:=bif d.kind == 3 then (Fm.subR (varR d.index) (numR d.at_),true) else bif d.kind == 4 then (Fm.scaleR (Fm.subR (varR d.index) (numR d.at_)) Q.mone,true) else (Fm.zero,false)
def formR (s:Sc) (r:Rw):Fm×Bool:=
 bif decide (5≤r.kind) then unitQ s r
 else bif (r.lo != 0)||((r.hi != 0)||decide (r.index < 0)) then (Fm.zero,false)
 else bif r.kind == 1 then (bif decide (r.index < (s.q.rg.lo.length:Int)) then (Fm.subR (varR r.index) (numR (atZ s.q.rg.lo r.index)),true) else (Fm.zero,false))
 else bif r.kind == 2 then (bif decide (r.index < (s.q.rg.hi.length:Int)) then (Fm.subR (numR (atZ s.q.rg.hi r.index)) (varR r.index),true) else (Fm.zero,false))
 else bif r.kind == 3 then (bif decide (r.index < (s.q.rg.rows.length:Int)) then (atZ s.q.rg.rows r.index,true) else (Fm.zero,false))
 else bif r.kind == 4 then (bif decide ((s.path.length:Int)≤r.index)||!fitsQ s.q (atZ s.path r.index) then (Fm.zero,false) else pathF (atZ s.path r.index))
 else (Fm.zero,false)
structure Sc.Va (s:Sc) (a b:Nat):Prop where
 q:s.q.Va a
 path:∀d∈s.path,d.at_.S a
 p9:s.path.length≤1000
 lems:∀m∈s.lems,m.value.S b
 l9:s.lems.length≤1000
 b1:1≤b
 b9:b≤8
 a9:a≤2
 n9:s.q.g.inputs+s.q.g.units.length≤8
theorem any_step {α:Type} [Inhabited α] {f:α→Bool} {l:List α} {i:Nat} (h:(l.take i).any f=false) (hi:i < l.length) (hf:f (atZ l i)=false):(l.take (i+1)).any f=false:=by
 rw[List.take_add_one,List.any_append,h,get_of hi];simp[hf]
theorem any_end {α:Type} {f:α→Bool} {l:List α} {i:Nat} (h:(l.take i).any f=false) (hi:l.length≤i):l.any f=false:=by rwa [List.take_of_length_le hi] at h
theorem any_hit {α:Type} [Inhabited α] {f:α→Bool} {l:List α} {i:Nat} (hi:i < l.length) (hf:f (atZ l i)=true):l.any f=true:=List.any_eq_true.2 ⟨_,mg (get_of hi),hf⟩
theorem lemmaQ_S {ls:List Lm} {n unit:Int} {up:Bool} {b:Nat} (h:∀m∈ls,m.value.S b) (hb:1≤b):(lemmaQ ls n unit up).1.S b:=by
 unfold lemmaQ;cases h1:decide (n < 1) with
 | true=>exact sz_zero.up hb
 | false=>
  cases h2:decide ((ls.length:Int) < n) with
  | true=>exact sz_zero.up hb
  | false=>
   have h3:=of_decide_eq_false h1;have h4:=of_decide_eq_false h2;cases ((atZ ls (n - 1)).unit != unit)||((atZ ls (n - 1)).upper != up) with
   | true=>exact sz_zero.up hb
   | false=>
    have:=h _ (atZ_mem (l:=ls) (z:=n - 1) om om);show (canonQ _).S b;rw[this.canon];exact this
def lessR (a b:Rw):Bool:=bif a.kind != b.kind then decide (a.kind < b.kind) else bif a.index != b.index then decide (a.index < b.index) else bif a.lo != b.lo then decide (a.lo < b.lo) else decide (a.hi < b.hi)
def rowEq (a b:Rw):Bool:=a.kind == b.kind&&(a.index == b.index&&(a.lo == b.lo&&a.hi == b.hi))
theorem rowEq_eq {a b:Rw}:rowEq a b=decide (a=b):=by
 obtain⟨a1,a2,a3,a4⟩:=a;obtain⟨b1,b2,b3,b4⟩:=b;simp[rowEq,Bool.decide_and];rfl
abbrev rwA (a:Rw):Array Value:=#[.int .i64 a.kind,.int .i64 a.index,.int .i64 a.lo,.int .i64 a.hi]
theorem int_part (us:Array Value) (off:Nat) (v:Value) (w:World) (h:us[off]?=some v):(part 3 us off).run Tryz.prog w=.ok v w:=
 (run_part (us:=us.toList) (t:=3) (n:=1) (d:=.int .i64) (by kernel_rfl) (by kernel_rfl)).1 rfl v (by simpa using h)
theorem int_eq (d:Nat) (m n:Int) (w:World):(Op.equalIn (d+1) 3 (.int .i64 m) (.int .i64 n)).run Tryz.prog w=.ok (m == n) w:=run_equalIn_int w d _ .i64 .i64 m n (by kernel_rfl)
theorem row_fields : (Tryz.prog.fieldsOf 96).toList.map (fun f => (f.name == "_", f.type, f.offset)) = [(false, 3, 0), (false, 3, 1), (false, 3, 2), (false, 3, 3)] := by kernel_rfl
theorem eqF (a b:Rw) (w:World):(Op.eqFields 9999 (rwA a) (rwA b) (Tryz.prog.fieldsOf 96).toList).run Tryz.prog w=.ok (rowEq a b) w:=by
 have h:=row_fields;generalize (Tryz.prog.fieldsOf 96).toList=fs at h
 match fs,h with
 | [],h=>simp at h
 | [_],h=>simp at h
 | [_,_],h=>simp at h
 | [_,_,_],h=>simp at h
 | _::_::_::_::_::_,h=>simp at h
 | [f0,f1,f2,f3],h=>
  simp only[List.map_cons,List.map_nil,List.cons.injEq,Prod.mk.injEq,beq_eq_false_iff_ne,and_true] at h;obtain⟨⟨n0,t0,o0⟩,⟨n1,t1,o1⟩,⟨n2,t2,o2⟩,n3,t3,o3⟩:=h;have step : ∀ (f : Field) (fs : List Field) (m n : Int), f.name ≠ "_" → f.type = 3 → (rwA a)[f.offset]? = some (.int .i64 m) → (rwA b)[f.offset]? = some (.int .i64 n) → (Op.eqFields 9999 (rwA a) (rwA b) (f :: fs)).run Tryz.prog w = if m == n then (Op.eqFields 9999 (rwA a) (rwA b) fs).run Tryz.prog w else .ok false w := fun f fs m n h1 h2 h3 h4 => by
   rw[Op.eqFields,if_pos h1,h2];rw[Sem.run_bind,int_part _ _ _ _ h3,Result.andThen_ok,Sem.run_bind,int_part _ _ _ _ h4,Result.andThen_ok,Sem.run_bind,int_eq 9998,Result.andThen_ok];cases m == n<;>rfl
  rw[step f0 _ a.kind b.kind n0 t0 (by rw[o0];rfl) (by rw[o0];rfl),step f1 _ a.index b.index n1 t1 (by rw[o1];rfl) (by rw[o1];rfl),step f2 _ a.lo b.lo n2 t2 (by rw[o2];rfl) (by rw[o2];rfl),step f3 _ a.hi b.hi n3 t3 (by rw[o3];rfl) (by rw[o3];rfl)];unfold rowEq;cases a.kind == b.kind<;>cases a.index == b.index<;>cases a.lo == b.lo<;>cases a.hi == b.hi<;>rfl
section
variable {T:List Nat} {D:Dom Tryz.prog T} {N:Nat} {st:St} {Q:Exit→St→Prop} {ops:List Oper} {draw:Bool} {acc:List Itm}
theorem opE_row {C:Cx} (hP:C.P=Tryz.prog) {o:Oper} {op:BinOp} {t2:Nat} {x y:Operand} {sx sy:SV} {a b:Rw} (r:Bool) (ho:o.op=.binOp op 96 x y t2) (hx:ev st x=some sx) (hy:ev st y=some sy) (cx:coSV st sx=some (rwP a)) (cy:coSV st sy=some (rwP b)) (ix:sx.ids=[]) (iy:sy.ids=[]) (hop:(op=.eql∧r=rowEq a b)∨(op=.neq∧r=!rowEq a b)) (hd:∀d,o.dst=some d→d < C.N):OpE C st.tys o st (valE (.pv (.raw (.bool r))) []):=by
 refine opE_val hd fun st1 ag a1 w B T hi=>?_
 have hx':=hx;have hy':=hy;rw[← ag.ev (by rw[ho];simp[Op.operands])] at hx' hy';have mv:∀{s:SV} {p:PV},coSV st s=some p→s.ids=[]→Co st1 s p:=fun h h0=>(coSV_ok h).move fun i hi=>by rw[h0] at hi;cases hi
 have key:∀{s:SV} {c:Rw} {v:Value},Co st1 s (rwP c)→s.ids=[]→SV.Rep w (Own0 C st1 B T) B T s v→v=.agg (rwA c):=fun {s c v} h h0 h1=>by
  have:=Co.rep hi h h1 (X:=Own0 C st1 B T) fun b hb=>⟨hb,fun ⟨i,hi2,_⟩=>by rw[h0] at hi2;cases hi2⟩
  rw[PV.Rep] at this;obtain⟨us,rfl,h2⟩:=this;unfold rwC at h2;simp only[PV.RepL,PV.Rep] at h2;obtain⟨u1,l1,rfl,rfl,u2,l2,rfl,rfl,u3,l3,rfl,rfl,u4,l4,rfl,rfl,rfl⟩:=h2;rfl
 have h1:=key (mv cx ix) ix (ev_rep hi hx').1;have h2:=key (mv cy iy) iy (ev_rep hi hy').1;refine⟨.bool r,?_,by rw[SV.Rep,PV.Rep],fun i hi=>by cases (show i∈([]:List Nat) from hi)⟩;have hm:C.P.eqGuardType C.P.depth 96=false:=by rw[hP];kernel_rfl
 simp only[execOp,ho,h1,h2];rw[Sem.run_bind,Sem.run_bind,run_eqGuard_agg w op _ x y _ _ hm,Result.andThen_ok];have e:(Op.equalIn 10000 96 (.agg (rwA a)) (.agg (rwA b))).run C.P w=.ok (rowEq a b) w:=by
  rw[hP,run_equalIn_agg w 9999 _ _ _ (by kernel_rfl) (by kernel_rfl)];exact eqF a b w
 rcases hop with ⟨rfl,rfl⟩ | ⟨rfl,rfl⟩
 ·rw[run_eql_struct,e];rfl
 ·rw[run_neq_struct,e];rfl
theorem rr0 {k:Nat} {ks:List Nat} {dst:Option Nat} {op:BinOp} {t2:Nat} {x y:Operand} {sx sy:SV} {a b:Rw} {ty:TypeId} {ps:String} {af:Array Edge} {gd:Option (Nat×Bool)} (r:Bool) (hk:nthL ops k=some ⟨dst,.binOp op 96 x y t2,ty,ps,af,gd⟩) (hw:wantS ops.toArray ⟨dst,.binOp op 96 x y t2,ty,ps,af,gd⟩ st=some true) (hd:dstB ⟨dst,.binOp op 96 x y t2,ty,ps,af,gd⟩ N=true) (hx:ev st x=some sx) (hy:ev st y=some sy) (cx:coSV st sx=some (rwP a)) (cy:coSV st sy=some (rwP b)) (ix:sx.ids=[]) (iy:sy.ids=[]) (hop:(op=.eql∧r=rowEq a b)∨(op=.neq∧r=!rowEq a b))
  (next:Reg (D.cx N) ops draw Q (acc++[⟨k,true,valE (.pv (.raw (.bool r))) [],lkOf ops k st (valE (.pv (.raw (.bool r))) [])⟩]) ks ((valE (.pv (.raw (.bool r))) []).app dst st)):Reg (D.cx N) ops draw Q acc (k::ks) st:=
 reg_op hk hw hd (fun hd=>opE_row (C:=D.cx N) rfl r rfl hx hy cx cy ix iy hop hd) next
end
def SV.wk:SV→SV
 | .nil e k ts=>.pv (.rows e k ts [])
 | s=>s
def Res.wk:Res→Res
 | .box t cs=>.box t (cs.map SV.wk)
 | r=>r
def optWk:Option SV→Option SV
 | some s=>some s.wk
 | none=>none
def optWkR:Option Res→Option Res
 | some s=>some s.wk
 | none=>none
def St.wk (st:St):St:=⟨fun t=>optWk (st.slot t),fun i=>optWkR (st.res i),st.tys⟩
theorem wk_ids (s:SV):s.wk.ids=s.ids:=by cases s<;>rfl
theorem wkL_ids:∀(cs:List SV),SV.idsL (cs.map SV.wk)=SV.idsL cs
 | []=>rfl
 | c::cs=>by rw[List.map_cons,SV.idsL,SV.idsL,wk_ids,wkL_ids cs]
theorem wk_rep {w:World} {X:Nat→Prop} {B:Nat→Nat} {T:Nat→Sv} {s:SV} {v:Value} (h:s.Rep w X B T v):s.wk.Rep w X B T v:=by
 cases s with
 | nil e k ts=>
  rw[SV.Rep] at h;subst h;rw[SV.wk,SV.Rep,PV.Rep];exact⟨Sv.none,[],rfl,rfl,Sv.Is.none w k,(fun ad h=>by cases h),(fun ad h=>by cases h),by rw[PV.RepLL],fun r hr=>by cases hr⟩
 | _=>exact h
theorem wkL_rep {w:World} {X:Nat→Prop} {B:Nat→Nat} {T:Nat→Sv}:∀{cs:List SV} {us:List Value},SV.RepL w X B T cs us→SV.RepL w X B T (cs.map SV.wk) us
 | [],us,h=>h
 | c::cs,us,h=>by
  rw[SV.RepL] at h;obtain⟨u,us',rfl,h1,h2⟩:=h;exact SV.RepL.cons (wk_rep h1) (wkL_rep h2)
theorem wk_inv {C:Cx} {st:St} {a:Act} {w:World} (h:Inv C st a w):Inv C st.wk a w:=by
 obtain⟨B,T,h⟩:=h;have hs:∀t s,st.wk.slot t=some s→∃s0,st.slot t=some s0∧s=s0.wk:=fun t s e=>by
  simp only[St.wk] at e;cases h0:st.slot t with
  | none=>rw[h0] at e;cases e
  | some s0=>rw[h0] at e;injection e with e;exact⟨s0,rfl,e.symm⟩
 have hr:∀i r,st.wk.res i=some r→∃r0,st.res i=some r0∧r=r0.wk:=fun t s e=>by
  simp only[St.wk] at e;cases h0:st.res t with
  | none=>rw[h0] at e;cases e
  | some s0=>rw[h0] at e;injection e with e;exact⟨s0,rfl,e.symm⟩
 have dom:∀i,(st.res i).isSome=true→(st.wk.res i).isSome=true:=fun i hi=>by
  simp only[St.wk];cases h0:st.res i with
  | none=>rw[h0] at hi;cases hi
  | some r=>rfl
 have blk:∀(r:Res) b x,r.wk.blk b x=r.blk b x:=fun r b x=>by cases r<;>rfl
 have X0:∀b,Own0 C st.wk B T b→Own0 C st B T b:=fun b hb=>by
  rcases hb with hb | ⟨i,r,h1,h2⟩
  ·exact .inl hb
  ·obtain⟨r0,h3,rfl⟩:=hr i r h1;rw[blk] at h2;exact .inr ⟨i,r0,h3,h2⟩
 have S:∀ts,Still w w (Own0 C st B T) (Own0 C st.wk B T) ts:=fun ts=>⟨nr _,fun b cs t fr hx hh ht=>⟨rfl,fun hb=>hx (X0 b hb)⟩⟩
 refine⟨B,T,h.size,h.dfr,h.gr,fun t s e=>?_,fun t s e i hi=>?_,fun i r e=>?_,fun i r e j hj=>?_,fun i r j q b e1 e2 h1 h2=>?_⟩
 ·obtain⟨s0,h1,rfl⟩:=hs t s e;exact wk_rep ((h.slot t s0 h1).still (S _) fun _ _=>⟨rfl,rfl⟩)
 ·obtain⟨s0,h1,rfl⟩:=hs t s e;rw[wk_ids] at hi;exact dom i (h.live t s0 h1 i hi)
 ·obtain⟨r0,h1,rfl⟩:=hr i r e;have hin:=h.inn i r0 h1;cases r0 with
  | box ty cells=>
   obtain⟨g1,us,g2,g3⟩:=hin;exact⟨g1,us,g2,wkL_rep (g3.still (S _) fun _ _=>⟨rfl,rfl⟩)⟩
  | tok e k ts xs=>
   obtain⟨us,g1,g2,g3,g4⟩:=hin;exact⟨us,g1,PV.RepLL.still (ts:=ts) g2 (S _) fun r hr c hc=>((g3 r hr).2 c hc).2,g3,g4⟩
 ·obtain⟨r0,h1,rfl⟩:=hr i r e;cases r0 with
  | box ty cells=>exact dom j (h.alive i _ h1 j (by rw[Res.wk,Res.ids,wkL_ids] at hj;exact hj))
  | tok e k ts xs=>cases hj
 ·obtain⟨r0,h3,rfl⟩:=hr i r e1;obtain⟨q0,h4,rfl⟩:=hr j q e2;rw[blk] at h1 h2;exact h.apart i r0 j q0 b h3 h4 h1 h2
theorem wk_tys {st:St} (h:TysOk st st.tys):TysOk st.wk st.wk.tys:=fun i r e=>by
 simp only[St.wk] at e;cases h0:st.res i with
 | none=>rw[h0] at e;cases e
 | some r0=>
  rw[h0] at e;injection e with e;subst e;have:=h i r0 h0;cases r0<;>exact this
theorem pwk {C:Cx} {st:St} {Q:Exit→St→Prop} {c:Code} (h:PW C c st.wk Q):PW C c st Q:=fun a w ht hi=>h a w (wk_tys ht) (wk_inv hi)
section
variable {T:List Nat} {D:Dom Tryz.prog T} {N:Nat} {st:St} {Q:Exit→St→Prop}
theorem pcutP {x y:Code} {sl:List (Nat×SV)} {rs:List (Nat×Res)} (tys:List Nat) (p:Prop) (h1:W D N x st (Then (fun st'=>Sub (St.of sl rs tys) st'∧p) Q)) (h2:p→W D N y (St.of sl rs tys) Q):W D N (.seq x y) st Q:=
 ps (fun a w ht hi=>Code.wp_mono (fun e a w hq=>by
  obtain⟨st',g1,g2,g3⟩:=hq;cases e with
  | normal=>exact⟨st',pw_weak g1.1 (h2 g1.2),g2,g3⟩
  | _=>exact⟨st',g1,g2,g3⟩) (h1 a w ht hi))
end
section
variable {C:Cx} {o:Oper} {st:St}
theorem opE_mk {f:FuncId} {caps:Array Operand} {ss:List SV} (ho:o.op=.makeFunc (.func f) #[] caps) (ha:evL st caps.toList=some ss) (hd:∀d,o.dst=some d→d < C.N):OpE C st.tys o st (valE (.fn f ss) []):=by
 refine opE_val hd fun st1 ag a w B T hi=>?_
 rw[← evL_agree ag fun x hx=>by
  rw[ho];simp only[Op.operands];first | exact Array.mem_toList_iff.1 hx | (simp;exact Array.mem_toList_iff.1 hx)] at ha
 obtain⟨g1,g2⟩:=evL_rep hi ha;refine⟨.func (.func f) #[] (caps.toList.map a.eval).toArray,?_,by rw[SV.Rep];exact⟨_,rfl,g1⟩,fun i hi=>g2 i (by rw[SV.ids] at hi;exact hi)⟩;simp only[execOp,ho];rw[show (caps.toList.map a.eval).toArray=caps.map a.eval from by rw[← Array.toList_map,Array.toArray_toList]];simp[Instr.makeFunc]
end
section
variable {C:Cx} {tys:List Nat} {o:Oper} {st:St}
theorem opE_callV {c:Call} {f:FuncId} {ss:List SV} {ps:List PV} {res:PV} {Tg:List Nat} (ho:o.op=.call c) {x:Operand} {sf:SV} {ps2:List PV} (hc:c.callee=.value x) (hx:ev st x=some sf) (hcf:Co st sf (.fn f ps2)) (ha:evL st c.args.toList=some ss) (hco:CoL st ss ps) (hp:PCalls C.P Tg f (ps++ps2) res) (hT:Tg.all (fun t=>C.T.contains t)=true) (hty:Tg.all (fun t=>!st.tys.contains t)=true) (hl:lentB st (SV.idsL ss++sf.ids) res.ty=true) (hd:∀d,o.dst=some d→d < C.N):
  OpE C st.tys o st (valE (.pv res) (SV.idsL ss++sf.ids)):=by
 refine⟨fun i r e=>(by cases e),fun st1 h1 h2 h3 a w ⟨B,T,hi⟩=>?_⟩;have h2':∀i∈SV.idsL ss++sf.ids,st1.res i=st.res i:=fun i hi=>h2 i (List.mem_append_left _ hi)
 have ha':=ha;rw[← evL_agree (o:=o) (st1:=st1) (rb:=[]) ⟨h1,fun i hi=>by cases hi⟩ fun x hx=>by
  rw[ho];simp only[Op.operands,Call.operands,hc,Array.mem_append];exact .inr (Array.mem_toList_iff.1 hx)] at ha'
 obtain⟨g1,g2⟩:=evL_rep hi ha';have hco':=hco.move fun i hi=>h2' i (List.mem_append_left _ hi)
 have hcf':=hcf.move fun i hi=>h2' i (List.mem_append_right _ hi)
 have hx':=hx;rw[← (show Agree o [] st st1 from ⟨h1,fun i hi=>by cases hi⟩).ev (by rw[ho];simp[Op.operands,Call.operands,hc])] at hx';have gf:=(ev_rep hi hx').1
 let X:Nat→Prop:=fun b=>Own0 C st1 B T b∧¬lent st1 B T (SV.idsL ss++sf.ids) b
 have old:∀b,Own0 C st1 B T b→b < w.heap.size:=fun b hb=>by
  rcases hb with hb | ⟨i,r,hr,hb⟩
  ·exact nk (C.old b hb) hi.gr.size
  ·have hin:=hi.inn i r hr;cases r with
   | box ty' cells'=>
    obtain⟨h1,vs,h2,h3⟩:=hin;simp only[Res.blk,oq] at hb;rw[← hb];exact h2.lt
   | tok e' k ts xs=>
    obtain⟨vs,h1,_⟩:=hin;exact (rw_lt h1 b hb).2
 have hrep:PV.RepL w X ps (c.args.toList.map a.eval):=CoL.rep hi hco' g1 fun b hb=>⟨hb.1,fun ⟨i,hi,k⟩=>hb.2 ⟨i,List.mem_append_left _ hi,k⟩⟩
 obtain⟨us2,hf2,hrep2⟩:∃us2:List Value,a.eval x=.func (.func f) #[] us2.toArray∧PV.RepL w X ps2 us2:=by
  have:=Co.rep hi hcf' gf (X:=X) fun b hb=>⟨hb.1,fun ⟨i,hi,k⟩=>hb.2 ⟨i,List.mem_append_right _ hi,k⟩⟩
  rw[PV.Rep] at this;exact this
 have run:(execOp a.eval o).run C.P w=.ok (.enter f (c.args.map a.eval++us2.toArray)) w:=by
  simp only[execOp,ho,resolve,hc,Sem.run_bind];rw[hf2];simp only[Deferred.ofValue];simp[invoke,callB_run hp.1]
 refine doesAt_enter run ?_;have hcall:=hp.2 w X (c.args.toList.map a.eval++us2) (fun b hb=>old b hb.1) (fun b cs t fr hb hh ht=>by
  have htc:=List.all_eq_true.1 hT t ht;have hty':=List.all_eq_true.1 hty t ht;rcases hb.1 with hb1 | ⟨i,r,hr,hb1⟩
  ·have hlt:=C.old b hb1;have hh':C.w0.heap[b]?=some (.cells cs t fr):=by rw[← hi.gr.old hb1];exact hh
   exact C.hT b cs t fr hb1 hh' (List.contains_iff_mem.1 htc)
  ·have hrt:=h3 i r hr;have:r.typ=t:=by
    have hin:=hi.inn i r hr;cases r with
    | box ty' cells'=>
     obtain⟨k1,vs,k2,k3⟩:=hin;simp only[Res.blk,oq] at hb1;rw[← hb1,k2] at hh;injection hh with hh;injection hh with _ hh _
    | tok e' k ts xs=>
     obtain⟨vs,k1,_⟩:=hin;obtain⟨cur,k2⟩:=rw_bk k1 b hb1;rw[k2] at hh;injection hh with hh;injection hh with _ hh _
   rw[this] at hrt;simp only[Bool.not_eq_true'] at hty';have:=List.contains_iff_mem.2 hrt;rw[hty'] at this;cases this) (PV.RepL.append hrep hrep2)
 rw[show (c.args.map a.eval++us2.toArray)=(c.args.toList.map a.eval++us2).toArray from by rw[← Array.toList_map];simp];refine hcall.mono fun e w' ⟨v,he,hv,G⟩=>⟨v,he,?_⟩
 refine inv_val hi G ?_ (fun i hi=>by cases (show i∈([]:List Nat) from hi)) hd;rw[SV.Rep];refine hv.still ⟨nr _,fun b cs t fr hx hh ht=>⟨rfl,fun hb=>?_⟩⟩;by_cases hlent:lent st1 B T (SV.idsL ss++sf.ids) b
 ·obtain⟨i,hi1,r,hr,hb2⟩:=hlent;have hl1:=List.all_eq_true.1 hl i hi1;rw[← h2' i hi1,hr] at hl1;simp only[Bool.not_eq_true'] at hl1;have hin:=hi.inn i _ hr;have htyp:∃cur fr',w.heap[b]?=some (.cells cur r.typ fr'):=by
   cases r with
   | box ty' cells'=>
    obtain⟨k1,vs,k2,k3⟩:=hin;simp only[Res.blk,oq] at hb2;subst hb2;exact⟨_,_,k2⟩
   | tok e' k ts xs=>
    obtain⟨us,q1,_⟩:=hin;obtain⟨cur,q2⟩:=rw_bk q1 b hb2;exact⟨_,_,q2⟩
  obtain⟨cur,fr',q2⟩:=htyp;have hlt:b < w.heap.size:=by
   rcases Nat.lt_or_ge b w.heap.size with g | g
   ·exact g
   ·rw[Array.getElem?_eq_none g] at q2;cases q2
  rw[G.below.block b hlt,q2] at hh;injection hh with hh;injection hh with _ hh _;subst hh;rw[List.contains_iff_mem.2 ht] at hl1;cases hl1
 ·exact hx ⟨hb,hlent⟩
end
section
variable {T:List Nat} {D:Dom Tryz.prog T} {N:Nat} {st:St} {Q:Exit→St→Prop} {ops:List Oper} {draw:Bool} {acc:List Itm}
theorem rmk {k:Nat} {ks:List Nat} {dst:Option Nat} {f:FuncId} {caps:Array Operand} {ss:List SV} {ty:TypeId} {ps:String} {af:Array Edge} {gd:Option (Nat×Bool)} (hk:nthL ops k=some ⟨dst,.makeFunc (.func f) #[] caps,ty,ps,af,gd⟩) (hw:wantS ops.toArray ⟨dst,.makeFunc (.func f) #[] caps,ty,ps,af,gd⟩ st=some true) (hd:dstB ⟨dst,.makeFunc (.func f) #[] caps,ty,ps,af,gd⟩ N=true) (ha:evL st caps.toList=some ss)
  (next:Reg (D.cx N) ops draw Q (acc++[⟨k,true,valE (.fn f ss) [],lkOf ops k st (valE (.fn f ss) [])⟩]) ks ((valE (.fn f ss) []).app dst st)):Reg (D.cx N) ops draw Q acc (k::ks) st:=reg_op hk hw hd (fun hd=>opE_mk (C:=D.cx N) rfl ha hd) next
theorem rcv {k:Nat} {ks:List Nat} {c:Call} {f:FuncId} {x:Operand} {sf:SV} {ss:List SV} {ps ps2:List PV} {res:PV} {Tg:List Nat} {dst:Option Nat} {ty:TypeId} {pos:String} {af:Array Edge} {gd:Option (Nat×Bool)} (hp:PCalls Tryz.prog Tg f (ps++ps2) res) (hk:nthL ops k=some ⟨dst,.call c,ty,pos,af,gd⟩) (hw:wantS ops.toArray ⟨dst,.call c,ty,pos,af,gd⟩ st=some true) (hd:dstB ⟨dst,.call c,ty,pos,af,gd⟩ N=true) (hc:c.callee=.value x) (hx:ev st x=some sf) (hcf:coSV st sf=some (.fn f ps2)) (ha:evL st c.args.toList=some ss) (hco:coSVL st ss=some ps) (hT:(Tg.all (fun t=>T.contains t)&&(Tg.all (fun t=>!st.tys.contains t)&&lentB st (SV.idsL ss++sf.ids) res.ty))=true) (next:Reg (D.cx N) ops draw Q (acc++[⟨k,true,valE (.pv res) (SV.idsL ss++sf.ids),lkOf ops k st (valE (.pv res) (SV.idsL ss++sf.ids))⟩]) ks ((valE (.pv res) (SV.idsL ss++sf.ids)).app dst st)):Reg (D.cx N) ops draw Q acc (k::ks) st:=by
 simp only[be] at hT;exact reg_op hk hw hd (fun hd=>opE_callV (C:=D.cx N) rfl hc hx (coSV_ok hcf) ha (coSVL_ok hco) hp hT.1 hT.2.1 hT.2.2 hd) next
end
theorem r_fits {q:Qr} {d:Dc} {s:Nat} (h:d.at_.S s) (hs:s≤10000):PCalls Tryz.prog [] 146 [qyP q,dcP d] (bP (fitsQ q d)):=by
 refine pcA [39,42] Tryz.func146 (fun D=>?_);refine a2 (fun e7=>?_) (fun e7=>?_)
 ·refine a2 (fun e13=>?_) (fun e13=>?_)
  ·refine a2 (fun e22=>?_) (fun e22=>?_)
   ·refine ac (c:=r_same (x:=d.at_) (y:=Q.zero)) ?_;exact ar (c:=by (try simp only[List.length_map] at *);simp only[fitsQ,e7,e13,e22,sb]<;>rfl)
   ·exact ar (c:=by (try simp only[List.length_map] at *);simp only[fitsQ,e7,e13,e22,sb]<;>rfl)
  ·exact ar (c:=by (try simp only[List.length_map] at *);simp only[fitsQ,e7,e13,sb]<;>rfl)
 ·refine a2 (fun e7'=>?_) (fun e7'=>?_)
  ·refine a2 (fun e13=>?_) (fun e13=>?_)
   ·refine a2 (fun e22=>?_) (fun e22=>?_)
    ·refine ac (c:=r_same (x:=d.at_) (y:=Q.zero)) ?_;exact ar (c:=by (try simp only[List.length_map] at *);simp only[fitsQ,e7,e7',e13,e22,sb]<;>rfl)
    ·exact ar (c:=by (try simp only[List.length_map] at *);simp only[fitsQ,e7,e7',e13,e22,sb]<;>rfl)
   ·exact ar (c:=by (try simp only[List.length_map] at *);simp only[fitsQ,e7,e7',e13,sb]<;>rfl)
  ·refine a2 (fun e28=>?_) (fun e28=>?_)
   ·refine a2 (fun e34=>?_) (fun e34=>?_)
    ·refine a2 (fun e42=>?_) (fun e42=>?_)
     ·refine ac (c:=r_valid (h.sm hs) h.ok) ?_;exact ar (c:=by (try simp only[List.length_map] at *);simp only[fitsQ,e7,e7',e28,e34,e42,sb]<;>rfl)
     ·exact ar (c:=by (try simp only[List.length_map] at *);simp only[fitsQ,e7,e7',e28,e34,e42,sb]<;>rfl)
    ·exact ar (c:=by (try simp only[List.length_map] at *);simp only[fitsQ,e7,e7',e28,e34,sb]<;>rfl)
   ·refine a2 (fun e28'=>?_) (fun e28'=>?_)
    ·refine a2 (fun e34=>?_) (fun e34=>?_)
     ·refine a2 (fun e42=>?_) (fun e42=>?_)
      ·refine ac (c:=r_valid (h.sm hs) h.ok) ?_;exact ar (c:=by (try simp only[List.length_map] at *);simp only[fitsQ,e7,e7',e28,e28',e34,e42,sb]<;>rfl)
      ·exact ar (c:=by (try simp only[List.length_map] at *);simp only[fitsQ,e7,e7',e28,e28',e34,e42,sb]<;>rfl)
     ·exact ar (c:=by (try simp only[List.length_map] at *);simp only[fitsQ,e7,e7',e28,e28',e34,sb]<;>rfl)
    ·exact ar (c:=by (try simp only[List.length_map] at *);simp only[fitsQ,e7,e7',e28,e28',sb]<;>rfl)
theorem r_decided {s:Sc} {a b:Nat} {kind unit:Int} (h:s.Va a b):PCalls Tryz.prog [] 264 [scP s,iP kind,iP unit] (bP (decidedQ s kind unit)):=by
 refine pcA [85] Tryz.func264 (fun D=>?_);refine au ?_;refine pl (ι:={i:Nat // i≤s.path.length∧(s.path.take i).any (hitQ s.q kind unit)=false}) (fun i=>[(1,.pv (iP kind)),(2,.pv (iP unit)),(3,.box 3 0),(6,.pv (bP false)),(7,.pv (iP i.1))]) (fun _=>[(3,.box 85 [.pv (iP s.q.g.inputs),.pv (formsP s.q.g.units),.pv (formsP s.q.g.outputs),.pv (ratsP s.q.rg.lo),.pv (ratsP s.q.rg.hi),.pv (formsP s.q.rg.rows),.pv (termsP s.q.goal.terms),.pv (bP s.q.goal.const.neg),.pv (.nat s.q.goal.const.num),.pv (.nat s.q.goal.const.den),.pv (dcsP s.path),.pv (lmsP s.lems)])]) [85] (fun i=>s.path.length - i.1) ⟨0,nq _,rfl⟩ (c5 Y Y Y Y Y trivial) (ai Y trivial) (fun _=>rfl) ?_;intro ⟨i,hi0,hn⟩;refine a2 (fun e12=>?_) (fun e12=>?_)
 ·have hi:i < s.path.length:=lt_of e12;refine ax (c:=(getmap (get_of hi))) ?_;refine a2 (fun e23=>?_) (fun e23=>?_)
  ·refine ax (c:=(getmap (get_of hi))) ?_;refine a2 (fun e33=>?_) (fun e33=>?_)
   ·refine ax (c:=(getmap (get_of hi))) ?_;refine ac (c:=r_fits (h.path _ (mg (get_of hi))) (by have:=h.a9;omega)) ?_;refine a2 (fun e42=>?_) (fun e42=>?_)
    ·have hh:hitQ s.q kind unit (atZ s.path i)=true:=by simp only[hitQ,e12,e23,e33,e42,sb]
     exact ar (c:=by rw[show decidedQ s kind unit=true from any_hit hi hh])
    ·refine aa (c:=ari_succ (by have:=h.p9;show i≤_;omega)) ?_;refine au ?_;exact pe ⟨i+1,hi,any_step hn hi (by simp only[hitQ,e12,e23,e33,e42,sb])⟩ (c5 Y Y Y Y Y trivial) (ai Y trivial) Y (by show s.path.length - (i+1) < s.path.length - i;omega)
   ·refine aa (c:=ari_succ (by have:=h.p9;show i≤_;omega)) ?_;refine au ?_;exact pe ⟨i+1,hi,any_step hn hi (by simp only[hitQ,e12,e23,e33,sb])⟩ (c5 Y Y Y Y Y trivial) (ai Y trivial) Y (by show s.path.length - (i+1) < s.path.length - i;omega)
  ·refine aa (c:=ari_succ (by have:=h.p9;show i≤_;omega)) ?_;refine au ?_;exact pe ⟨i+1,hi,any_step hn hi (by simp only[hitQ,e12,e23,sb])⟩ (c5 Y Y Y Y Y trivial) (ai Y trivial) Y (by show s.path.length - (i+1) < s.path.length - i;omega)
 ·have hj:s.path.length≤i:=ge_of e12;exact ar (c:=by rw[show decidedQ s kind unit=false from any_end hn hj])
theorem r_lemma {s:Sc} {a b:Nat} {n unit:Int} {upper:Bool} (h:s.Va a b):PCalls Tryz.prog TU 263 [scP s,iP n,iP unit,bP upper] (.tup [ratP (lemmaQ s.lems n unit upper).1,bP (lemmaQ s.lems n unit upper).2]):=by
 refine pcA [85,35] Tryz.func263 (fun D=>?_);refine a2 (fun e12=>?_) (fun e12=>?_)
 ·exact ar (c:=by (try simp only[List.length_map] at *);simp only[lemmaQ,e12,sb]<;>rfl)
 ·have g1:1≤n:=by have:=of_decide_eq_false e12;omega
  refine a2 (fun e19=>?_) (fun e19=>?_)
  ·exact ar (c:=by (try simp only[List.length_map] at *);simp only[lemmaQ,e12,e19,sb]<;>rfl)
  ·have g2:n≤s.lems.length:=by have:=of_decide_eq_false e19;rw[List.length_map] at this;omega
   have h1:0≤n - 1:=by omega
   have h2:n - 1 < s.lems.length:=by omega
   have h9:=h.l9;refine aa (c:=ari_sub om om om om) ?_;refine ay (z:=toN h1) (c:=(getmap (atZ_get h1 h2))) ?_;refine a2 (fun e30=>?_) (fun e30=>?_)
   ·exact ar (c:=by (try simp only[List.length_map] at *);simp only[lemmaQ,e12,e19,e30,sb]<;>rfl)
   ·refine aa (c:=ari_sub om om om om) ?_;refine ay (z:=toN h1) (c:=(getmap (atZ_get h1 h2))) ?_;refine au ?_;refine re0 (((atZ s.lems (n - 1)).upper != upper)) Y Y Y Y Y Y (.inr ⟨rfl,rfl⟩) ?_;refine a2 (fun e40=>?_) (fun e40=>?_)
    ·exact ar (c:=by (try simp only[List.length_map] at *);simp only[lemmaQ,e12,e19,e30,e40,sb]<;>rfl)
    ·refine aa (c:=ari_sub om om om om) ?_;refine ay (z:=toN h1) (c:=(getmap (atZ_get h1 h2))) ?_;refine ac (c:=r_canon ((h.lems _ (atZ_mem h1 h2)).sm (by have:=h.b9;omega))) ?_;exact ar (c:=by (try simp only[List.length_map] at *);simp only[lemmaQ,e12,e19,e30,e40,sb]<;>rfl)
theorem r_unit {s:Sc} {a b:Nat} {r:Rw} (h:s.Va a b):PCalls Tryz.prog TF 215 [scP s,rwP r] (.tup [fmP (unitQ s r).1,bP (unitQ s r).2]):=by
 refine pcA [85,96,37,27,35] Tryz.func215 (fun D=>?_);refine a2 (fun e25=>?_) (fun e25=>?_)
 ·exact ar (c:=by (try simp only[List.length_map] at *);simp only[unitQ,unitF,e25,sb]<;>rfl)
 ·have g0:=ge_ofZ e25;refine a2 (fun e32=>?_) (fun e32=>?_)
  ·exact ar (c:=by (try simp only[List.length_map] at *);simp only[unitQ,unitF,e25,e32,sb]<;>rfl)
  ·have g1:=lt_ofZ' e32;have hn:=h.n9;have hv:(varR (s.q.g.inputs+r.index)).S 1 1:=sz_var _;have hp:(atZ s.q.g.units r.index).S 2 8:=(h.q.us _ (atZ_mem g0 g1)).up h.a9 h.n9;have hl:(lemmaQ s.lems r.lo r.index false).1.S 8:=(lemmaQ_S h.lems h.b1).up h.b9;have hu:(lemmaQ s.lems r.hi r.index true).1.S 8:=(lemmaQ_S h.lems h.b1).up h.b9;refine aa (c:=ari_add om om om om) ?_;refine ac (c:=r_var _) ?_;refine ay (z:=toN g0) (c:=(getmap (atZ_get g0 g1))) ?_;refine ac (c:=r_lemma h) ?_;refine ac (c:=r_lemma h) ?_;refine ac (c:=r_of (-1) dx dx) ?_;refine qg 2 ?_;refine rn Y ?_
   apply pcut (sl:=[(2,_),(3,_),(4,_),(6,_),(7,_),(8,_),(9,_),(11,_),(13,_),(5,_),(10,_),(12,_),(14,.pv (bP (onQ s r (lemmaQ s.lems r.lo r.index false))))]) (rs:=[(2,_),(3,_),(4,_),(6,_),(7,_),(8,_),(9,_),(11,_),(13,_)])
   case h1=>
    refine a2 (fun e68=>?_) (fun e68=>?_)
    ·refine a2 (fun e72=>?_) (fun e72=>?_)
     ·refine ac (c:=r_decided h) ?_;refine a2 (fun e78=>?_) (fun e78=>?_)
      ·refine au ?_;refine Sub.of ?_ ?_ ?_
       ·exact (c12 Y Y Y Y Y Y Y Y Y Y Y Y (ai (congrArg (fun b=>some (SV.pv (PV.raw (Value.bool b)))) (by (try simp only[List.length_map] at *);simp only[onQ,e25,e32,e68,e72,e78,sb]<;>rfl)) trivial))
       ·exact (c9 Y Y Y Y Y Y Y Y Y trivial)
       ·rfl
      ·refine a2 (fun e80=>?_) (fun e80=>?_)
       ·refine ac (c:=r_sign (hl.sm dx)) ?_;refine au ?_;refine Sub.of ?_ ?_ ?_
        ·exact (c12 Y Y Y Y Y Y Y Y Y Y Y Y (ai (congrArg (fun b=>some (SV.pv (PV.raw (Value.bool b)))) (by (try simp only[List.length_map] at *);simp only[onQ,e25,e32,e68,e72,e78,e80,sb]<;>rfl)) trivial))
        ·exact (c9 Y Y Y Y Y Y Y Y Y trivial)
        ·rfl
       ·refine au ?_;refine Sub.of ?_ ?_ ?_
        ·exact (c12 Y Y Y Y Y Y Y Y Y Y Y Y (ai (congrArg (fun b=>some (SV.pv (PV.raw (Value.bool b)))) (by (try simp only[List.length_map] at *);simp only[onQ,e25,e32,e68,e72,e78,e80,sb]<;>rfl)) trivial))
        ·exact (c9 Y Y Y Y Y Y Y Y Y trivial)
        ·rfl
     ·refine a2 (fun e80=>?_) (fun e80=>?_)
      ·refine ac (c:=r_sign (hl.sm dx)) ?_;refine au ?_;refine Sub.of ?_ ?_ ?_
       ·exact (c12 Y Y Y Y Y Y Y Y Y Y Y Y (ai (congrArg (fun b=>some (SV.pv (PV.raw (Value.bool b)))) (by (try simp only[List.length_map] at *);simp only[onQ,e25,e32,e68,e72,e80,sb]<;>rfl)) trivial))
       ·exact (c9 Y Y Y Y Y Y Y Y Y trivial)
       ·rfl
      ·refine au ?_;refine Sub.of ?_ ?_ ?_
       ·exact (c12 Y Y Y Y Y Y Y Y Y Y Y Y (ai (congrArg (fun b=>some (SV.pv (PV.raw (Value.bool b)))) (by (try simp only[List.length_map] at *);simp only[onQ,e25,e32,e68,e72,e80,sb]<;>rfl)) trivial))
       ·exact (c9 Y Y Y Y Y Y Y Y Y trivial)
       ·rfl
    ·refine au ?_;refine Sub.of ?_ ?_ ?_
     ·exact (c12 Y Y Y Y Y Y Y Y Y Y Y Y (ai (congrArg (fun b=>some (SV.pv (PV.raw (Value.bool b)))) (by (try simp only[List.length_map] at *);simp only[onQ,e25,e32,e68,sb]<;>rfl)) trivial))
     ·exact (c9 Y Y Y Y Y Y Y Y Y trivial)
     ·rfl
   case h2=>
    apply pcut (sl:=[(2,_),(3,_),(4,_),(6,_),(7,_),(8,_),(9,_),(11,_),(13,_),(5,_),(10,_),(12,_),(14,_),(15,.pv (bP (offQ s r (lemmaQ s.lems r.hi r.index true))))]) (rs:=[(2,_),(3,_),(4,_),(6,_),(7,_),(8,_),(9,_),(11,_),(13,_)])
    case h1=>
     refine a2 (fun e90=>?_) (fun e90=>?_)
     ·refine a2 (fun e94=>?_) (fun e94=>?_)
      ·refine ac (c:=r_decided h) ?_;refine a2 (fun e100=>?_) (fun e100=>?_)
       ·refine au ?_;refine Sub.of ?_ ?_ ?_
        ·exact (c12 Y Y Y Y Y Y Y Y Y Y Y Y (ai (rfl) (ai (congrArg (fun b=>some (SV.pv (PV.raw (Value.bool b)))) (by (try simp only[List.length_map] at *);simp only[offQ,e25,e32,e90,e94,e100,sb]<;>rfl)) trivial)))
        ·exact (c9 Y Y Y Y Y Y Y Y Y trivial)
        ·rfl
       ·refine a2 (fun e102=>?_) (fun e102=>?_)
        ·refine ac (c:=r_sign (hu.sm dx)) ?_;refine au ?_;refine Sub.of ?_ ?_ ?_
         ·exact (c12 Y Y Y Y Y Y Y Y Y Y Y Y (ai (rfl) (ai (congrArg (fun b=>some (SV.pv (PV.raw (Value.bool b)))) (by (try simp only[List.length_map] at *);simp only[offQ,e25,e32,e90,e94,e100,e102,sb]<;>rfl)) trivial)))
         ·exact (c9 Y Y Y Y Y Y Y Y Y trivial)
         ·rfl
        ·refine au ?_;refine Sub.of ?_ ?_ ?_
         ·exact (c12 Y Y Y Y Y Y Y Y Y Y Y Y (ai (rfl) (ai (congrArg (fun b=>some (SV.pv (PV.raw (Value.bool b)))) (by (try simp only[List.length_map] at *);simp only[offQ,e25,e32,e90,e94,e100,e102,sb]<;>rfl)) trivial)))
         ·exact (c9 Y Y Y Y Y Y Y Y Y trivial)
         ·rfl
      ·refine a2 (fun e102=>?_) (fun e102=>?_)
       ·refine ac (c:=r_sign (hu.sm dx)) ?_;refine au ?_;refine Sub.of ?_ ?_ ?_
        ·exact (c12 Y Y Y Y Y Y Y Y Y Y Y Y (ai (rfl) (ai (congrArg (fun b=>some (SV.pv (PV.raw (Value.bool b)))) (by (try simp only[List.length_map] at *);simp only[offQ,e25,e32,e90,e94,e102,sb]<;>rfl)) trivial)))
        ·exact (c9 Y Y Y Y Y Y Y Y Y trivial)
        ·rfl
       ·refine au ?_;refine Sub.of ?_ ?_ ?_
        ·exact (c12 Y Y Y Y Y Y Y Y Y Y Y Y (ai (rfl) (ai (congrArg (fun b=>some (SV.pv (PV.raw (Value.bool b)))) (by (try simp only[List.length_map] at *);simp only[offQ,e25,e32,e90,e94,e102,sb]<;>rfl)) trivial)))
        ·exact (c9 Y Y Y Y Y Y Y Y Y trivial)
        ·rfl
     ·refine au ?_;refine Sub.of ?_ ?_ ?_
      ·exact (c12 Y Y Y Y Y Y Y Y Y Y Y Y (ai (rfl) (ai (congrArg (fun b=>some (SV.pv (PV.raw (Value.bool b)))) (by (try simp only[List.length_map] at *);simp only[offQ,e25,e32,e90,sb]<;>rfl)) trivial)))
      ·exact (c9 Y Y Y Y Y Y Y Y Y trivial)
      ·rfl
    case h2=>
     refine a2 (fun e112=>?_) (fun e112=>?_)
     ·refine a2 (fun e118=>?_) (fun e118=>?_)
      ·refine a2 (fun e212=>?_) (fun e212=>?_)
       ·replace e212:=not_t e212;exact ar (c:=by (try simp only[List.length_map] at *);simp only[unitQ,unitF,e25,e32,e112,e118,e212,sb]<;>rfl)
       ·replace e212:=not_f e212;exact ar (c:=by (try simp only[List.length_map] at *);simp only[unitQ,unitF,e25,e32,e112,e118,e212,sb]<;>rfl)
      ·exact ar (c:=by (try simp only[List.length_map] at *);simp only[unitQ,unitF,e25,e32,e112,e118,sb]<;>rfl)
     ·refine a2 (fun e123=>?_) (fun e123=>?_)
      ·refine ac (c:=r_fsub hv hp dx dx) ?_;refine a2 (fun e131=>?_) (fun e131=>?_)
       ·refine a2 (fun e212=>?_) (fun e212=>?_)
        ·replace e212:=not_t e212;exact ar (c:=by (try simp only[List.length_map] at *);simp only[unitQ,unitF,e25,e32,e112,e123,e131,e212,sb]<;>rfl)
        ·replace e212:=not_f e212;exact ar (c:=by (try simp only[List.length_map] at *);simp only[unitQ,unitF,e25,e32,e112,e123,e131,e212,sb]<;>rfl)
       ·exact ar (c:=by (try simp only[List.length_map] at *);simp only[unitQ,unitF,e25,e32,e112,e123,e131,sb]<;>rfl)
      ·refine a2 (fun e136=>?_) (fun e136=>?_)
       ·refine a2 (fun e212=>?_) (fun e212=>?_)
        ·replace e212:=not_t e212;exact ar (c:=by (try simp only[List.length_map] at *);simp only[unitQ,unitF,e25,e32,e112,e123,e136,e212,sb]<;>rfl)
        ·replace e212:=not_f e212;exact ar (c:=by (try simp only[List.length_map] at *);simp only[unitQ,unitF,e25,e32,e112,e123,e136,e212,sb]<;>rfl)
       ·refine a2 (fun e140=>?_) (fun e140=>?_)
        ·refine ac (c:=r_fsub hp hv dx dx) ?_;refine a2 (fun e212=>?_) (fun e212=>?_)
         ·replace e212:=not_t e212;exact ar (c:=by (try simp only[List.length_map] at *);simp only[unitQ,unitF,e25,e32,e112,e123,e136,e140,e212,sb]<;>rfl)
         ·replace e212:=not_f e212;exact ar (c:=by (try simp only[List.length_map] at *);simp only[unitQ,unitF,e25,e32,e112,e123,e136,e140,e212,sb]<;>rfl)
        ·refine a2 (fun e146=>?_) (fun e146=>?_)
         ·refine ac (c:=r_fscale (q:=Q.mone) hp sz_mone dx dx dx) ?_;refine a2 (fun e212=>?_) (fun e212=>?_)
          ·replace e212:=not_t e212;exact ar (c:=by (try simp only[List.length_map] at *);simp only[unitQ,unitF,e25,e32,e112,e123,e136,e140,e146,e212,sb]<;>rfl)
          ·replace e212:=not_f e212;exact ar (c:=by (try simp only[List.length_map] at *);simp only[unitQ,unitF,e25,e32,e112,e123,e136,e140,e146,e212,sb]<;>rfl)
         ·refine a2 (fun e152=>?_) (fun e152=>?_)
          ·refine ac (c:=r_fscale (q:=Q.mone) hv sz_mone dx dx dx) ?_;refine a2 (fun e212=>?_) (fun e212=>?_)
           ·replace e212:=not_t e212;exact ar (c:=by (try simp only[List.length_map] at *);simp only[unitQ,unitF,e25,e32,e112,e123,e136,e140,e146,e152,e212,sb]<;>rfl)
           ·replace e212:=not_f e212;exact ar (c:=by (try simp only[List.length_map] at *);simp only[unitQ,unitF,e25,e32,e112,e123,e136,e140,e146,e152,e212,sb]<;>rfl)
          ·refine a2 (fun e158=>?_) (fun e158=>?_)
           ·refine ac (c:=r_num) ?_;refine ac (c:=r_fsub hp (sz_num hl) dx dx) ?_;refine a2 (fun e165=>?_) (fun e165=>?_)
            ·refine a2 (fun e212=>?_) (fun e212=>?_)
             ·replace e212:=not_t e212;exact ar (c:=by (try simp only[List.length_map] at *);simp only[unitQ,unitF,e25,e32,e112,e123,e136,e140,e146,e152,e158,e165,e212,sb]<;>rfl)
             ·replace e212:=not_f e212;exact ar (c:=by (try simp only[List.length_map] at *);simp only[unitQ,unitF,e25,e32,e112,e123,e136,e140,e146,e152,e158,e165,e212,sb]<;>rfl)
            ·exact ar (c:=by (try simp only[List.length_map] at *);simp only[unitQ,unitF,e25,e32,e112,e123,e136,e140,e146,e152,e158,e165,sb]<;>rfl)
           ·refine a2 (fun e170=>?_) (fun e170=>?_)
            ·refine ac (c:=r_num) ?_;refine ac (c:=r_fsub (sz_num hu) hp dx dx) ?_;refine a2 (fun e177=>?_) (fun e177=>?_)
             ·refine a2 (fun e212=>?_) (fun e212=>?_)
              ·replace e212:=not_t e212;exact ar (c:=by (try simp only[List.length_map] at *);simp only[unitQ,unitF,e25,e32,e112,e123,e136,e140,e146,e152,e158,e170,e177,e212,sb]<;>rfl)
              ·replace e212:=not_f e212;exact ar (c:=by (try simp only[List.length_map] at *);simp only[unitQ,unitF,e25,e32,e112,e123,e136,e140,e146,e152,e158,e170,e177,e212,sb]<;>rfl)
             ·exact ar (c:=by (try simp only[List.length_map] at *);simp only[unitQ,unitF,e25,e32,e112,e123,e136,e140,e146,e152,e158,e170,e177,sb]<;>rfl)
            ·refine a2 (fun e182=>?_) (fun e182=>?_)
             ·refine ac (c:=r_num) ?_;refine ac (c:=r_fsub hp (sz_num hl) dx dx) ?_;refine ac (c:=r_fscale (hp.subR (sz_num hl)) hu dx dx dx) ?_;refine ac (c:=r_sub (hu.sm dx) (hl.sm dx) hu.ok hl.neg.ok) ?_;refine ac (c:=r_fscale hv (hu.add hl.neg) dx dx dx) ?_;refine ac (c:=r_fsub ((hp.subR (sz_num hl)).scaleR hu) (hv.scaleR (hu.add hl.neg)) dx dx) ?_;refine a2 (fun e198=>?_) (fun e198=>?_)
              ·refine a2 (fun e201=>?_) (fun e201=>?_)
               ·refine ac (c:=r_sign (hl.sm dx)) ?_;refine a2 (fun e206=>?_) (fun e206=>?_)
                ·refine ac (c:=r_sign (hu.sm dx)) ?_;refine a2 (fun e212=>?_) (fun e212=>?_)
                 ·replace e212:=not_t e212;exact ar (c:=by (try simp only[List.length_map] at *);simp only[unitQ,unitF,e25,e32,e112,e123,e136,e140,e146,e152,e158,e170,e182,e198,e201,e206,e212,sb]<;>rfl)
                 ·replace e212:=not_f e212;exact ar (c:=by (try simp only[List.length_map] at *);simp only[unitQ,unitF,e25,e32,e112,e123,e136,e140,e146,e152,e158,e170,e182,e198,e201,e206,e212,sb]<;>rfl)
                ·exact ar (c:=by (try simp only[List.length_map] at *);simp only[unitQ,unitF,e25,e32,e112,e123,e136,e140,e146,e152,e158,e170,e182,e198,e201,e206,sb]<;>rfl)
               ·exact ar (c:=by (try simp only[List.length_map] at *);simp only[unitQ,unitF,e25,e32,e112,e123,e136,e140,e146,e152,e158,e170,e182,e198,e201,sb]<;>rfl)
              ·exact ar (c:=by (try simp only[List.length_map] at *);simp only[unitQ,unitF,e25,e32,e112,e123,e136,e140,e146,e152,e158,e170,e182,e198,sb]<;>rfl)
             ·exact ar (c:=by (try simp only[List.length_map] at *);simp only[unitQ,unitF,e25,e32,e112,e123,e136,e140,e146,e152,e158,e170,e182,sb]<;>rfl)
theorem r_form {s:Sc} {a b:Nat} {r:Rw} (h:s.Va a b):PCalls Tryz.prog TF 174 [scP s,rwP r] (.tup [fmP (formR s r).1,bP (formR s r).2]):=by
 refine pcA [85,96,37,30,42] Tryz.func174 (fun D=>?_);refine ac (c:=r_qvalid h.q) ?_;refine a2 (fun e16=>?_) (fun e16=>?_)
 ·refine ac (c:=r_unit h) ?_;exact ar (c:=by (try simp only[List.length_map] at *);simp only[formR,pathF,e16,sb]<;>rfl)
 ·refine a2 (fun e25=>?_) (fun e25=>?_)
  ·exact ar (c:=by (try simp only[List.length_map] at *);simp only[formR,pathF,e16,e25,sb]<;>rfl)
  ·refine a2 (fun e30=>?_) (fun e30=>?_)
   ·exact ar (c:=by (try simp only[List.length_map] at *);simp only[formR,pathF,e16,e25,e30,sb]<;>rfl)
   ·refine a2 (fun e34=>?_) (fun e34=>?_)
    ·exact ar (c:=by (try simp only[List.length_map] at *);simp only[formR,pathF,e16,e25,e30,e34,sb]<;>rfl)
    ·have g0:=ge_ofZ e34;refine a2 (fun e41=>?_) (fun e41=>?_)
     ·refine a2 (fun e48=>?_) (fun e48=>?_)
      ·have g1:=lt_ofZ e48;refine ac (c:=r_var _) ?_;refine ay (z:=toN g0) (c:=(getmap (atZ_get g0 g1))) ?_;refine ac (c:=r_num) ?_;refine ac (c:=r_fsub (sz_var _) (sz_num ((h.q.rg.los _ (atZ_mem g0 g1)).up h.a9)) dx dx) ?_;exact ar (c:=by (try simp only[List.length_map] at *);simp only[formR,pathF,e16,e25,e30,e34,e41,e48,sb]<;>rfl)
      ·exact ar (c:=by (try simp only[List.length_map] at *);simp only[formR,pathF,e16,e25,e30,e34,e41,e48,sb]<;>rfl)
     ·refine a2 (fun e60=>?_) (fun e60=>?_)
      ·refine a2 (fun e67=>?_) (fun e67=>?_)
       ·have g1:=lt_ofZ e67;refine ay (z:=toN g0) (c:=(getmap (atZ_get g0 g1))) ?_;refine ac (c:=r_num) ?_;refine ac (c:=r_var _) ?_;refine ac (c:=r_fsub (sz_num ((h.q.rg.his _ (atZ_mem g0 g1)).up h.a9)) (sz_var _) dx dx) ?_;exact ar (c:=by (try simp only[List.length_map] at *);simp only[formR,pathF,e16,e25,e30,e34,e41,e60,e67,sb]<;>rfl)
       ·exact ar (c:=by (try simp only[List.length_map] at *);simp only[formR,pathF,e16,e25,e30,e34,e41,e60,e67,sb]<;>rfl)
      ·refine a2 (fun e79=>?_) (fun e79=>?_)
       ·refine a2 (fun e86=>?_) (fun e86=>?_)
        ·have g1:=lt_ofZ e86;refine ay (z:=toN g0) (c:=(getmap (atZ_get g0 g1))) ?_;exact ar (c:=by (try simp only[List.length_map] at *);simp only[formR,pathF,e16,e25,e30,e34,e41,e60,e79,e86,sb]<;>rfl)
        ·exact ar (c:=by (try simp only[List.length_map] at *);simp only[formR,pathF,e16,e25,e30,e34,e41,e60,e79,e86,sb]<;>rfl)
       ·refine a2 (fun e93=>?_) (fun e93=>?_)
        ·refine a2 (fun e101=>?_) (fun e101=>?_)
         ·exact ar (c:=by (try simp only[List.length_map] at *);simp only[formR,pathF,e16,e25,e30,e34,e41,e60,e79,e93,e101,sb]<;>rfl)
         ·have g1:=lt_ofZ' e101;refine ay (z:=toN g0) (c:=(getmap (atZ_get g0 g1))) ?_;refine ac (c:=r_fits (h.path _ (atZ_mem g0 g1)) (by have:=h.a9;omega)) ?_;refine a2 (fun e112=>?_) (fun e112=>?_)
          ·exact ar (c:=by (try simp only[List.length_map] at *);simp only[formR,pathF,e16,e25,e30,e34,e41,e60,e79,e93,e101,e112,sb]<;>rfl)
          ·refine ay (z:=toN g0) (c:=(getmap (atZ_get g0 g1))) ?_;refine ac (c:=r_var _) ?_;refine ac (c:=r_num) ?_;refine ac (c:=r_fsub (sz_var _) (sz_num ((h.path _ (atZ_mem g0 g1)).up h.a9)) dx dx) ?_;refine a2 (fun e129=>?_) (fun e129=>?_)
           ·exact ar (c:=by (try simp only[List.length_map] at *);simp only[formR,pathF,e16,e25,e30,e34,e41,e60,e79,e93,e101,e112,e129,sb]<;>rfl)
           ·refine a2 (fun e133=>?_) (fun e133=>?_)
            ·refine ac (c:=r_of (-1) dx dx) ?_;refine ac (c:=r_fscale (q:=Q.mone) ((sz_var _).subR (sz_num ((h.path _ (atZ_mem g0 g1)).up h.a9))) sz_mone dx dx dx) ?_;exact ar (c:=by (try simp only[List.length_map] at *);simp only[formR,pathF,e16,e25,e30,e34,e41,e60,e79,e93,e101,e112,e129,e133,sb]<;>rfl)
            ·exact ar (c:=by (try simp only[List.length_map] at *);simp only[formR,pathF,e16,e25,e30,e34,e41,e60,e79,e93,e101,e112,e129,e133,sb]<;>rfl)
        ·exact ar (c:=by (try simp only[List.length_map] at *);simp only[formR,pathF,e16,e25,e30,e34,e41,e60,e79,e93,sb]<;>rfl)
theorem r_less {a b:Rw}:PCalls Tryz.prog [] 214 [rwP a,rwP b] (bP (lessR a b)):=by
 refine pcA [96] Tryz.func214 (fun D=>?_);refine a2 (fun e5=>?_) (fun e5=>?_)
 ·exact ar (c:=by (try simp only[List.length_map] at *);simp only[lessR,e5,sb]<;>rfl)
 ·refine a2 (fun e16=>?_) (fun e16=>?_)
  ·exact ar (c:=by (try simp only[List.length_map] at *);simp only[lessR,e5,e16,sb]<;>rfl)
  ·refine a2 (fun e27=>?_) (fun e27=>?_)
   ·exact ar (c:=by (try simp only[List.length_map] at *);simp only[lessR,e5,e16,e27,sb]<;>rfl)
   ·exact ar (c:=by (try simp only[List.length_map] at *);simp only[lessR,e5,e16,e27,sb]<;>rfl)
theorem ari_pred {n:Nat} (h:decide (0 < (n:Int))=true) (h9:n≤1000000000):ariO .sub .i64 (n:Int) 1=some (((n - 1:Nat)):Int):=by
 have:=of_decide_eq_true h;show some (IntKind.wrap .i64 ((n:Int) - 1))=_;rw[i64_wrap om om]
 congr 1;omega
def badM (l:List Mm) (i:Nat):Bool:=decide (sgQ (atZ l (i:Int)).2≤0)||(decide (0 < (i:Int))&&!lessR (atZ l ((i - 1:Nat):Int)).1 (atZ l (i:Int)).1)
def canonR (l:List Mm):Bool:=(List.range l.length).all fun i=>!badM l i
theorem canon_bad {l:List Mm} {i:Nat} (hi:i < l.length) (h:badM l i=true):canonR l=false:=by
 unfold canonR;rw[List.all_eq_false];exact⟨i,List.mem_range.2 hi,by rw[h];decide⟩
theorem canon_all {l:List Mm} {i:Nat} (h:∀j,j < i→badM l j=false) (hi:l.length≤i):canonR l=true:=by
 unfold canonR;rw[List.all_eq_true];intro j hj;rw[h j (by have:=List.mem_range.1 hj;omega)];rfl
theorem all_succ {p:Nat→Prop} {i:Nat} (h:∀j,j < i→p j) (hi:p i):∀j,j < i+1→p j:=fun j hj=>by
 rcases Nat.lt_or_ge j i with g | g
 ·exact h j g
 ·have:j=i:=by omega
  subst this;exact hi
def posR (r:Rw):List Mm→Nat
 | []=>0
 | m::l=>bif lessR m.1 r then posR r l+1 else 0
theorem pos_of {r:Rw}:∀{l:List Mm} {k:Nat},k≤l.length→(∀j,j < k→lessR (atZ l (j:Int)).1 r=true)→(l.length≤k∨lessR (atZ l (k:Int)).1 r=false)→posR r l=k
 | [],k,hk,_,_=>by simp at hk;rw[hk];rfl
 | m::l,0,hk,_,h=>by
  rcases h with h | h
  ·simp at h
  ·rw[atZ_nat (l:=m::l) (i:=0) (a:=m) rfl] at h;rw[posR,h];rfl
 | m::l,k+1,hk,ha,h=>by
  have sh:∀j,j < l.length→atZ (m::l) ((j+1:Nat):Int)=atZ l (j:Int):=fun j hj=>by
   rw[atZ_nat (l:=m::l) (i:=j+1) (a:=l[j]) (by simp[hj]),atZ_nat (ge hj)]
  have h0:=ha 0 om;rw[atZ_nat (l:=m::l) (i:=0) (a:=m) rfl] at h0;rw[posR,h0];have hk':k≤l.length:=by simpa using hk
  rw[pos_of (l:=l) (k:=k) hk' (fun j hj=>by rw[← sh j om];exact ha (j+1) om) ?_];rfl;rcases h with h | h
  ·left;simpa using h
  ·rcases Nat.lt_or_ge k l.length with g | g
   ·right;rw[← sh k g];exact h
   ·left;exact g
def plusR (l:List Mm) (r:Rw) (c:Q):List Mm:=
 bif sgQ c == 0 then l
 else bif decide ((posR r l:Int) < (l.length:Int))&&rowEq (atZ l (posR r l:Int)).1 r then l.take (posR r l)++[(r,Q.add (atZ l (posR r l:Int)).2 c)]++l.drop (posR r l+1)
 else l.take (posR r l)++[(r,canonQ c)]++l.drop (posR r l)
def sumGo (s:Sc):List Mm→Fm→Option Fm
 | [],acc=>some acc
 | m::l,acc=>bif (formR s m.1).2 then sumGo s l (Fm.addR acc (Fm.scaleR (formR s m.1).1 m.2)) else none
def sumR (s:Sc) (l:List Mm):Fm×Int:=bif canonR l then (match sumGo s l Fm.zero with
 | some f=>(f,0)
 | none=>(Fm.zero,12)) else (Fm.zero,1)
def mergeR (c:Q):List Mm→List Mm→List Mm
 | a,[]=>a
 | a,m::b=>mergeR c (plusR a m.1 (Q.mul m.2 c)) b
theorem Sc.Va.unitS {s:Sc} {a b:Nat} {r:Rw} (h:s.Va a b):(unitQ s r).1.S 40 9:=by
 have hz:Fm.zero.S 40 9:=fm_zero_S.up dx dx;unfold unitQ;cases h1:decide (r.index < 0) with
 | true=>exact hz
 | false=>
  cases h2:decide ((s.q.g.units.length:Int)≤r.index) with
  | true=>exact hz
  | false=>
   have g0:0≤r.index:=ge_ofZ h1;have g1:r.index < s.q.g.units.length:=by have:=of_decide_eq_false h2;omega
   have hv:(varR (s.q.g.inputs+r.index)).S 1 1:=sz_var _;have hp:(atZ s.q.g.units r.index).S 2 8:=(h.q.us _ (atZ_mem g0 g1)).up h.a9 h.n9;have hl:(lemmaQ s.lems r.lo r.index false).1.S 8:=(lemmaQ_S h.lems h.b1).up h.b9;have hu:(lemmaQ s.lems r.hi r.index true).1.S 8:=(lemmaQ_S h.lems h.b1).up h.b9;simp only[Bool.false_or,cond_false];generalize varR (s.q.g.inputs+r.index)=v at hv;generalize atZ s.q.g.units r.index=p at hp;generalize onQ s r (lemmaQ s.lems r.lo r.index false)=on;generalize offQ s r (lemmaQ s.lems r.hi r.index true)=off;generalize lemmaQ s.lems r.lo r.index false=l at hl;generalize lemmaQ s.lems r.hi r.index true=u at hu;have key:(unitF v p l u on off r).1.S 40 9:=by
    unfold unitF
    repeat' (cases h3:(r.kind == _)<;>simp only[cond_true,cond_false])
    all_goals first
     | exact hz
     | exact hv.up dx dx
     | exact hp.up dx dx
     | exact (hv.subR hp).up dx dx
     | exact (hp.subR hv).up dx dx
     | exact (hp.scaleR sz_mone).up dx dx
     | exact (hv.scaleR sz_mone).up dx dx
     | exact (hp.subR (sz_num hl)).up dx dx
     | exact ((sz_num hu).subR hp).up dx dx
     | exact (((hp.subR (sz_num hl)).scaleR hu).subR (hv.scaleR (hu.add hl.neg))).up dx dx
   cases (unitF v p l u on off r).2
   ·exact hz
   ·exact key
theorem Sc.Va.formS {s:Sc} {a b:Nat} {r:Rw} (h:s.Va a b):(formR s r).1.S 40 9:=by
 have hz:Fm.zero.S 40 9:=fm_zero_S.up dx dx;have ha:=h.a9;unfold formR;cases h5:decide (5≤r.kind) with
 | true=>exact h.unitS
 | false=>
  simp only[cond_false];cases r.lo != 0 with
  | true=>exact hz
  | false=>
   cases r.hi != 0 with
   | true=>exact hz
   | false=>
    cases h1:decide (r.index < 0) with
    | true=>exact hz
    | false=>
     have g0:0≤r.index:=ge_ofZ h1;simp only[Bool.false_or,cond_false];cases r.kind == 1 with
     | true=>
      cases h2:decide (r.index < (s.q.rg.lo.length:Int)) with
      | false=>exact hz
      | true=>exact ((sz_var _).subR (sz_num ((h.q.rg.los _ (atZ_mem g0 (of_decide_eq_true h2))).up ha))).up dx dx
     | false=>
      cases r.kind == 2 with
      | true=>
       cases h2:decide (r.index < (s.q.rg.hi.length:Int)) with
       | false=>exact hz
       | true=>exact ((sz_num ((h.q.rg.his _ (atZ_mem g0 (of_decide_eq_true h2))).up ha)).subR (sz_var _)).up dx dx
      | false=>
       cases r.kind == 3 with
       | true=>
        cases h2:decide (r.index < (s.q.rg.rows.length:Int)) with
        | false=>exact hz
        | true=>exact (h.q.rg.rows _ (atZ_mem g0 (of_decide_eq_true h2))).2.up om (by have:=h.n9;omega)
       | false=>
        cases r.kind == 4 with
        | false=>exact hz
        | true=>
         cases h2:decide ((s.path.length:Int)≤r.index) with
         | true=>exact hz
         | false=>
          cases h3:fitsQ s.q (atZ s.path r.index) with
          | false=>exact hz
          | true=>
           have hd:=(h.path _ (atZ_mem g0 (by have:=of_decide_eq_false h2;omega))).up ha;simp only[Bool.false_or,Bool.not_true,cond_true,cond_false];unfold pathF;cases (atZ s.path r.index).kind == 3 with
           | true=>exact ((sz_var _).subR (sz_num hd)).up dx dx
           | false=>
            cases (atZ s.path r.index).kind == 4 with
            | true=>exact (((sz_var _).subR (sz_num hd)).scaleR sz_mone).up dx dx
            | false=>exact hz
theorem plus_zero {l:List Mm} {r:Rw} {c:Q} (h:(sgQ c == 0)=true):plusR l r c=l:=by unfold plusR;rw[h];rfl
theorem plus_hit {l:List Mm} {r:Rw} {c:Q} {i:Nat} (h:(sgQ c == 0)=false) (hp:posR r l=i) (hi:i < l.length) (he:rowEq (atZ l (i:Int)).1 r=true):plusR l r c=l.take i++[(r,Q.add (atZ l (i:Int)).2 c)]++l.drop (i+1):=by
 unfold plusR;rw[h,hp,he,dt (by omega:(i:Int) < (l.length:Int))];rfl
theorem plus_miss {l:List Mm} {r:Rw} {c:Q} {i:Nat} (h:(sgQ c == 0)=false) (hp:posR r l=i) (he:l.length≤i∨rowEq (atZ l (i:Int)).1 r=false):plusR l r c=l.take i++[(r,canonQ c)]++l.drop i:=by
 unfold plusR;rw[h,hp];have:(decide ((i:Int) < (l.length:Int))&&rowEq (atZ l (i:Int)).1 r)=false:=by
  rcases he with he | he
  ·rw[df om];rfl
  ·rw[he,Bool.and_false]
 rw[this];rfl
theorem rows_mid {l:List Mm} {i k:Nat} {m:Mm} {row:List PV} (e:row=mmC m):PV.rows 98 7 [200] (([]++List.drop 0 (List.take i (l.map mmC))++[row])++List.drop k (List.take (l.map mmC).length (l.map mmC)))=mmsP (l.take i++[m]++l.drop k):=by
 subst e;rw[List.take_length];show _=PV.rows _ _ _ ((l.take i++[m]++l.drop k).map mmC);simp only[List.nil_append,List.drop_zero,List.map_append,List.map_take,List.map_drop,List.map_cons,List.map_nil]
theorem r_canonical {l:List Mm} {n:Nat} (h:∀m∈l,m.2.S n) (hn:n≤10000) (hl:l.length≤1000):PCalls Tryz.prog [] 173 [mmsP l] (bP (canonR l)):=by
 refine pcA [] Tryz.func173 (fun D=>?_);refine au ?_;refine pl (ι:={i:Nat // i≤l.length∧∀j,j < i→badM l j=false}) (fun i=>[(0,.pv (mmsP l)),(2,.pv (bP false)),(3,.pv (iP i.1))]) (fun _=>[]) [] (fun i=>l.length - i.1) ⟨0,nq _,fun j hj=>by omega⟩ (c3 Y Y Y trivial) trivial (fun _=>rfl) ?_;intro ⟨i,hi0,hnb⟩;refine a2 (fun e7=>?_) (fun e7=>?_)
 ·have hi:i < l.length:=lt_of e7;have hm:=h _ (mg (get_of hi));refine ax (c:=(getmap (get_of hi))) ?_;refine ac (c:=r_valid (hm.sm hn) hm.ok) ?_;refine ax (c:=(getmap (get_of hi))) ?_;refine ac (c:=r_sign (hm.sm hn)) ?_;refine a2 (fun e26=>?_) (fun e26=>?_)
  ·exact ar (c:=by rw[canon_bad hi (by simp only[badM,e7,e26,sb])])
  ·refine a2 (fun e29=>?_) (fun e29=>?_)
   ·refine aa (c:=ari_pred e29 (by show i≤_;omega)) ?_;refine ax (c:=(getmap (get_of (show i - 1 < l.length by omega)))) ?_;refine ax (c:=(getmap (get_of hi))) ?_;refine ac (c:=r_less) ?_;refine a2 (fun e44=>?_) (fun e44=>?_)
    ·exact ar (c:=by rw[canon_bad hi (by simp only[badM,e7,e26,e29,e44,sb])])
    ·refine aa (c:=ari_succ (by show i≤_;omega)) ?_;refine au ?_;exact pe ⟨i+1,hi,all_succ hnb (by simp only[badM,e7,e26,e29,e44,sb])⟩ (c3 Y Y Y trivial) trivial Y (by show l.length - (i+1) < l.length - i;omega)
   ·refine aa (c:=ari_succ (by show i≤_;omega)) ?_;refine au ?_;exact pe ⟨i+1,hi,all_succ hnb (by simp only[badM,e7,e26,e29,sb])⟩ (c3 Y Y Y trivial) trivial Y (by show l.length - (i+1) < l.length - i;omega)
 ·have hj:l.length≤i:=ge_of e7;exact ar (c:=by rw[canon_all hnb hj])
theorem r_plus {l:List Mm} {r:Rw} {c:Q} {n m:Nat} (h:∀m∈l,m.2.S n) (hc:c.S m) (hn:n+m+1≤10000) (hl:l.length≤1000):PCalls Tryz.prog TU 172 [mmsP l,rwP r,ratP c] (mmsP (plusR l r c)):=by
 refine pcA [96,35,98] Tryz.func172 (fun D=>?_);refine ac (c:=r_sign (hc.sm om)) ?_;refine a2 (fun e11=>?_) (fun e11=>?_)
 ·exact ar (c:=by rw[plus_zero e11])
 ·refine au ?_;refine pl (ι:={i:Nat // i≤l.length∧∀j,j < i→lessR (atZ l (j:Int)).1 r=true}) (fun i=>[(0,.pv (mmsP l)),(4,.box 4 0),(5,.box 5 0),(7,.pv (iP i.1))]) (fun _=>[(4,.box 96 [.pv (iP r.kind),.pv (iP r.index),.pv (iP r.lo),.pv (iP r.hi)]),(5,.box 35 [.pv (bP c.neg),.pv (.nat c.num),.pv (.nat c.den)])]) [96,35,98] (fun i=>l.length - i.1) ⟨0,nq _,fun j hj=>by omega⟩ (c4 Y Y Y Y trivial) (c2 Y Y trivial) (fun _=>rfl) ?_;intro ⟨i,hi0,hnb⟩;refine a2 (fun e17=>?_) (fun e17=>?_)
  ·have hi:i < l.length:=lt_of e17;refine ax (c:=(getmap (get_of hi))) ?_;refine ac (c:=r_less) ?_;refine a2 (fun e25=>?_) (fun e25=>?_)
   ·refine aa (c:=ari_succ (by show i≤_;omega)) ?_;refine au ?_;exact pe ⟨i+1,hi,all_succ hnb e25⟩ (c4 Y Y Y Y trivial) (c2 Y Y trivial) Y (by show l.length - (i+1) < l.length - i;omega)
   ·refine au ?_;refine ro0 Y Y Y (fun hd=>opE_sub tab_ok Y Y Y (.inl ⟨rfl,rfl⟩) (.inr ⟨_,rfl,rfl⟩) (nq _) (by rw[List.length_map];exact hi0) Y dx hd) ?_;refine rp0 el_Mult (by simp;omega) Y Y Y Y Y Y Y Y ?_;refine a2 (fun e37=>?_) (fun e37=>?_)
    ·have hi:i < l.length:=lt_of e37;have hm:=h _ (mg (get_of hi));refine ax (c:=(getmap (get_of hi))) ?_;refine au ?_;refine rr0 (rowEq (atZ l (i:Int)).1 r) Y Y Y Y Y Y Y Y Y (.inl ⟨rfl,rfl⟩) ?_;refine a2 (fun e45=>?_) (fun e45=>?_)
     ·refine ax (c:=(getmap (get_of hi))) ?_;refine ac (c:=r_add (hm.sm om) (hc.sm om) hm.ok hc.ok) ?_;refine au ?_;refine rp0 el_Mult (by simp;omega) Y Y Y Y Y Y Y Y ?_;refine aa (c:=ari_succ (by show i≤_;omega)) ?_;refine au ?_;refine ro0 Y Y Y (fun hd=>opE_sub tab_ok Y Y Y (.inr ⟨_,rfl,rfl⟩) (.inl ⟨rfl,rfl⟩) (by rw[List.length_map];first | exact hi | exact hi0) (nr _) Y dx hd) ?_;refine rp0 el_Mult (by simp;omega) Y Y Y Y Y Y Y Y ?_;exact ar (c:=by first | (exfalso;omega) | (rw[plus_hit e11 (pos_of hi0 hnb (by first | exact .inl hj | exact .inr e25)) hi e45];exact rows_mid rfl) | (rw[plus_miss e11 (pos_of hi0 hnb (by first | exact .inl hj | exact .inr e25)) (by first | exact .inr e45 | exact .inl (ge_of e37))];exact rows_mid rfl))
     ·refine ac (c:=r_canon (hc.sm om)) ?_;refine au ?_;refine rp0 el_Mult (by simp;omega) Y Y Y Y Y Y Y Y ?_;refine au ?_;refine ro0 Y Y Y (fun hd=>opE_sub tab_ok Y Y Y (.inr ⟨_,rfl,rfl⟩) (.inl ⟨rfl,rfl⟩) (by rw[List.length_map];first | exact hi | exact hi0) (nr _) Y dx hd) ?_;refine rp0 el_Mult (by simp;omega) Y Y Y Y Y Y Y Y ?_;exact ar (c:=by first | (exfalso;omega) | (rw[plus_hit e11 (pos_of hi0 hnb (by first | exact .inl hj | exact .inr e25)) hi e45];exact rows_mid rfl) | (rw[plus_miss e11 (pos_of hi0 hnb (by first | exact .inl hj | exact .inr e25)) (by first | exact .inr e45 | exact .inl (ge_of e37))];exact rows_mid rfl))
    ·refine ac (c:=r_canon (hc.sm om)) ?_;refine au ?_;refine rp0 el_Mult (by simp;omega) Y Y Y Y Y Y Y Y ?_;refine au ?_;refine ro0 Y Y Y (fun hd=>opE_sub tab_ok Y Y Y (.inr ⟨_,rfl,rfl⟩) (.inl ⟨rfl,rfl⟩) (by rw[List.length_map];first | exact hi | exact hi0) (nr _) Y dx hd) ?_;refine rp0 el_Mult (by simp;omega) Y Y Y Y Y Y Y Y ?_;exact ar (c:=by first | (exfalso;omega) | (rw[plus_hit e11 (pos_of hi0 hnb (by first | exact .inl hj | exact .inr e25)) hi e45];exact rows_mid rfl) | (rw[plus_miss e11 (pos_of hi0 hnb (by first | exact .inl hj | exact .inr e25)) (by first | exact .inr e45 | exact .inl (ge_of e37))];exact rows_mid rfl))
  ·have hj:l.length≤i:=ge_of e17;refine au ?_;refine ro0 Y Y Y (fun hd=>opE_sub tab_ok Y Y Y (.inl ⟨rfl,rfl⟩) (.inr ⟨_,rfl,rfl⟩) (nq _) (by rw[List.length_map];exact hi0) Y dx hd) ?_;refine rp0 el_Mult (by simp;omega) Y Y Y Y Y Y Y Y ?_;refine a2 (fun e37=>?_) (fun e37=>?_)
   ·have hi:i < l.length:=lt_of e37;have hm:=h _ (mg (get_of hi));refine ax (c:=(getmap (get_of hi))) ?_;refine au ?_;refine rr0 (rowEq (atZ l (i:Int)).1 r) Y Y Y Y Y Y Y Y Y (.inl ⟨rfl,rfl⟩) ?_;refine a2 (fun e45=>?_) (fun e45=>?_)
    ·refine ax (c:=(getmap (get_of hi))) ?_;refine ac (c:=r_add (hm.sm om) (hc.sm om) hm.ok hc.ok) ?_;refine au ?_;refine rp0 el_Mult (by simp;omega) Y Y Y Y Y Y Y Y ?_;refine aa (c:=ari_succ (by show i≤_;omega)) ?_;refine au ?_;refine ro0 Y Y Y (fun hd=>opE_sub tab_ok Y Y Y (.inr ⟨_,rfl,rfl⟩) (.inl ⟨rfl,rfl⟩) (by rw[List.length_map];first | exact hi | exact hi0) (nr _) Y dx hd) ?_;refine rp0 el_Mult (by simp;omega) Y Y Y Y Y Y Y Y ?_;exact ar (c:=by first | (exfalso;omega) | (rw[plus_hit e11 (pos_of hi0 hnb (by first | exact .inl hj | exact .inr e25)) hi e45];exact rows_mid rfl) | (rw[plus_miss e11 (pos_of hi0 hnb (by first | exact .inl hj | exact .inr e25)) (by first | exact .inr e45 | exact .inl (ge_of e37))];exact rows_mid rfl))
    ·refine ac (c:=r_canon (hc.sm om)) ?_;refine au ?_;refine rp0 el_Mult (by simp;omega) Y Y Y Y Y Y Y Y ?_;refine au ?_;refine ro0 Y Y Y (fun hd=>opE_sub tab_ok Y Y Y (.inr ⟨_,rfl,rfl⟩) (.inl ⟨rfl,rfl⟩) (by rw[List.length_map];first | exact hi | exact hi0) (nr _) Y dx hd) ?_;refine rp0 el_Mult (by simp;omega) Y Y Y Y Y Y Y Y ?_;exact ar (c:=by first | (exfalso;omega) | (rw[plus_hit e11 (pos_of hi0 hnb (by first | exact .inl hj | exact .inr e25)) hi e45];exact rows_mid rfl) | (rw[plus_miss e11 (pos_of hi0 hnb (by first | exact .inl hj | exact .inr e25)) (by first | exact .inr e45 | exact .inl (ge_of e37))];exact rows_mid rfl))
   ·refine ac (c:=r_canon (hc.sm om)) ?_;refine au ?_;refine rp0 el_Mult (by simp;omega) Y Y Y Y Y Y Y Y ?_;refine au ?_;refine ro0 Y Y Y (fun hd=>opE_sub tab_ok Y Y Y (.inr ⟨_,rfl,rfl⟩) (.inl ⟨rfl,rfl⟩) (by rw[List.length_map];first | exact hi | exact hi0) (nr _) Y dx hd) ?_;refine rp0 el_Mult (by simp;omega) Y Y Y Y Y Y Y Y ?_;exact ar (c:=by first | (exfalso;omega) | (rw[plus_hit e11 (pos_of hi0 hnb (by first | exact .inl hj | exact .inr e25)) hi e45];exact rows_mid rfl) | (rw[plus_miss e11 (pos_of hi0 hnb (by first | exact .inl hj | exact .inr e25)) (by first | exact .inr e45 | exact .inl (ge_of e37))];exact rows_mid rfl))
end Go.Proofs.YtbhbainhmfjpdaaGreatDoor
