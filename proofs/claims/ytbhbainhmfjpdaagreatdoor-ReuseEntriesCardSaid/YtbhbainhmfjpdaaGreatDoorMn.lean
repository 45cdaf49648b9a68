/- Walks of the search and of what it calls, part 14. -/
import Derived.Test.YtbhbainhmfjpdaaGreatDoorMm
import Derived.WideMake
import Derived.Laws.EntriesVeiled
import Derived.Laws.LoneSync
import Derived.Carry
set_option linter.unusedVariables false
set_option linter.unusedSimpArgs false
set_option maxRecDepth 100000
set_option maxHeartbeats 8000000
namespace Go.Proofs.YtbhbainhmfjpdaaGreatDoor
open Go.RowKit
theorem ari_addN {m n:Nat} (h:m≤1000000) (k:n≤1000000):ariO .add .i64 (m:Int) (n:Int)=some (((m+n:Nat)):Int):=by
 show some (IntKind.wrap .i64 ((m:Int)+n))=_;rw[i64_wrap om om];rfl
theorem p_rgclo {f:Fm} {v s l:Nat} (h:f.S s l) (hs:s≤10000) (hl:l≤400) (k:f.Ok v):PCalls Tryz.prog TU 129 [fmP f,.ptr 3 [iP v]] (bP false):=by
 refine pcA [37] Tryz.func129 (fun D=>?_);refine ac (c:=p_lvalid (h.lo hs hl) k) ?_;exact ar (c:=rfl)
theorem p_rgvalid {r:Rgm} {n s:Nat} (h:r.Va n s):PCalls Tryz.prog TU 72 [rgP r,iP n] (bP true):=by
 refine pcA [30,3,35] Tryz.func72 (fun D=>?_);refine akF (c:=by exact (show _=false from df (by have:=h.i0;omega))) ?_;refine akF (c:=by exact (show _=false from df (by have:=h.i9;omega))) ?_;refine akF (c:=by exact (show _=false from by rw[List.length_map,h.lo];exact bne_self_eq_false _)) ?_;refine akF (c:=by exact (show _=false from by rw[List.length_map,h.hi];exact bne_self_eq_false _)) ?_;refine akF (c:=by exact (show _=false from df (by have:=h.r9;rw[List.length_map];omega))) ?_;refine au ?_;refine pl (ι:={i:Nat // i≤r.lo.length}) (fun i=>[(2,.box 2 0),(3,.box 3 0),(4,.pv (bP false)),(34,.pv (ratsP r.lo)),(35,.pv (iP ((r.lo.map qC).length:Int))),(36,.pv (iP i.1))]) (fun _=>[(2,.box 30 [.pv (ratsP r.lo),.pv (ratsP r.hi),.pv (formsP r.rows)]),(3,.box 3 [.pv (iP n)])]) [30,3,35] (fun i=>r.lo.length - i.1) ⟨0,nq _⟩ (c6 Y Y Y Y Y Y trivial) (c2 Y Y trivial) (fun _=>rfl) ?_;intro ⟨i,hi⟩;refine a2 (fun e37=>?_) (fun e37=>?_)
 ·have h1:i < r.lo.length:=lt_of e37;have h2:i < r.hi.length:=by have:=h.lo;have:=h.hi;omega
  have hlo:=h.los _ (mg (get_of h1));have hhi:=h.his _ (mg (get_of h2));have hs9:=h.s9;refine ax (c:=(getmap (get_of h1))) ?_;refine ac (c:=p_valid (hlo.sm om) hlo.ok) ?_;refine ax (c:=(getmap (get_of h2))) ?_;refine ac (c:=p_valid (hhi.sm om) hhi.ok) ?_;refine ax (c:=(getmap (get_of h2))) ?_;refine ac (c:=p_cmp (hlo.sm om) (hhi.sm om)) ?_;refine akF (c:=by exact (show _=false from df (by have:=(h.le i _ _ (get_of h1) (get_of h2)).2;omega))) ?_;refine aa (c:=ari_succ (by have:=h.i9;have:=h.lo;show i≤_;omega)) ?_;refine au ?_;exact pe ⟨i+1,h1⟩ (c6 Y Y Y Y Y Y trivial) (c2 Y Y trivial) Y (by show r.lo.length - (i+1) < r.lo.length - i;omega)
 ·refine au ?_;refine rmk Y Y Y Y ?_;refine ac (c:=p_containsA (F:=fun _=>false) (by have:=h.r9;omega) fun f hf=>p_rgclo (h.rows f hf).2 (by have:=h.s9;omega) (by have:=h.i9;omega) (h.rows f hf).1) ?_;exact ar (c:=congrArg bP (by rw[any_no];rfl))
theorem p_qvalid {q:Qr} {s:Nat} (h:q.Va s) (h4:q.g.inputs+q.g.units.length≤400):PCalls Tryz.prog TU 35 [qyP q] (bP true):=by
 refine pcA [39] Tryz.func35 (fun D=>?_);refine ac (c:=p_gvalid h.g) ?_;refine ac (c:=p_rgvalid h.rg) ?_;refine aa (c:=ari_addN (by have:=h.rg.i9;omega) (by rw[List.length_map];have:=h.g.u9;omega)) ?_;refine ac (c:=p_lvalid (v:=q.g.inputs+(q.g.units.map fmC).length) (h.goal.lo (by have:=h.rg.s9;omega) h4) (by rw[List.length_map];exact h.ok)) ?_;exact ar (c:=rfl)
abbrev tblF:List Value:=.nilFunc::(List.replicate 4 (.func (.func 227) #[] #[])++List.replicate 9 (.func (.func 228) #[] #[]))
theorem tbl_in {k:Int} (h1:1≤k) (h2:k < 5):(tblF.map fun v=>SV.pv (.raw v))[0+k.toNat]?=some (.pv (.raw (.func (.func 227) #[] #[]))):=by
 have:k=1∨k=2∨k=3∨k=4:=by omega
 rcases this with rfl | rfl | rfl | rfl<;>rfl
theorem tbl_un {k:Int} (h1:5≤k) (h2:k < 14):(tblF.map fun v=>SV.pv (.raw v))[0+k.toNat]?=some (.pv (.raw (.func (.func 228) #[] #[]))):=by
 have:k=5∨k=6∨k=7∨k=8∨k=9∨k=10∨k=11∨k=12∨k=13:=by omega
 rcases this with rfl | rfl | rfl | rfl | rfl | rfl | rfl | rfl | rfl<;>rfl
theorem formR_no {s:Sc} {r:Rw} (h:r.kind < 1∨14≤r.kind):formR s r=(Fm.zero,false):=by
 rcases h with h | h
 ·have h5:decide (5≤r.kind)=false:=df om;have h1:(r.kind == 1)=false:=beq_eq_false_iff_ne.2 om;have h2:(r.kind == 2)=false:=beq_eq_false_iff_ne.2 om;have h3:(r.kind == 3)=false:=beq_eq_false_iff_ne.2 om;have h4:(r.kind == 4)=false:=beq_eq_false_iff_ne.2 om;unfold formR;rw[h5];simp only[h1,h2,h3,h4,cond_false];cases r.lo != 0||(r.hi != 0||decide (r.index < 0))<;>rfl
 ·have h5:decide (5≤r.kind)=true:=dt om;unfold formR;rw[h5];unfold unitQ unitF;have e:∀k:Int,k < 14→(r.kind == k)=false:=fun k hk=>beq_eq_false_iff_ne.2 om
  simp only[e 5 dx,e 6 dx,e 7 dx,e 8 dx,e 9 dx,e 10 dx,e 11 dx,e 12 dx,e 13 dx,cond_false,cond_true];simp
theorem p_formIn {s:Sc} {a b:Nat} {r:Rw} (h:s.Va a b) (h1:1≤r.kind) (h2:r.kind < 5):PCalls Tryz.prog TF 190 [scP s,rwP r] (.tup [fmP (formR s r).1,bP (formR s r).2]):=by
 refine pcA [85,96,37,320] Tryz.func190 (fun D=>?_);refine pa Y Y (pr0 (ro0 Y Y Y (fun hd=>opE_arr (n:=14) (e:=270) (us:=tblF) (zs:=List.replicate 14 .nilFunc) Y (by kernel_rfl) (by kernel_rfl) (by kernel_rfl) (by rfl) (by rfl) hd) ?_));refine akF (c:=by exact (show _=false from df om)) ?_;refine akF (c:=by exact (show _=false from df om)) ?_;refine ac (c:=p_qvalid h.q (by have:=h.n9;omega)) ?_;refine qg 2 ?_;refine rn Y (pj Y ?_);refine pk (pr0 (qg 2 ?_));refine ro0 Y Y Y (fun hd=>opE_idxA (n:=14) (e:=270) Y (by kernel_rfl) (by kernel_rfl) Y Y (show r.kind=(r.kind.toNat:Int) by omega) om hd) ?_;refine ro0 Y Y Y (fun hd=>opE_loadB tab_ok Y Y Y Y Y (tbl_in om h2) hd) ?_;refine qg 2 ?_;refine rcr (p_input h (df om)) Y Y Y Y Y Y Y Y Y ?_;exact ar (c:=rfl)
theorem p_formUn {s:Sc} {a b:Nat} {r:Rw} (h:s.Va a b) (h1:5≤r.kind) (h2:r.kind < 14):PCalls Tryz.prog TF 190 [scP s,rwP r] (.tup [fmP (formR s r).1,bP (formR s r).2]):=by
 rw[show formR s r=unitQ s r from by unfold formR;rw[dt (show (5:Int)≤r.kind from h1)];rfl];refine pcA [85,96,37,320] Tryz.func190 (fun D=>?_);refine pa Y Y (pr0 (ro0 Y Y Y (fun hd=>opE_arr (n:=14) (e:=270) (us:=tblF) (zs:=List.replicate 14 .nilFunc) Y (by kernel_rfl) (by kernel_rfl) (by kernel_rfl) (by rfl) (by rfl) hd) ?_));refine akF (c:=by exact (show _=false from df om)) ?_;refine akF (c:=by exact (show _=false from df om)) ?_;refine ac (c:=p_qvalid h.q (by have:=h.n9;omega)) ?_;refine qg 2 ?_;refine rn Y (pj Y ?_);refine pk (pr0 (qg 2 ?_));refine ro0 Y Y Y (fun hd=>opE_idxA (n:=14) (e:=270) Y (by kernel_rfl) (by kernel_rfl) Y Y (show r.kind=(r.kind.toNat:Int) by omega) om hd) ?_;refine ro0 Y Y Y (fun hd=>opE_loadB tab_ok Y Y Y Y Y (tbl_un om h2) hd) ?_;refine qg 2 ?_;refine rcr (p_unit h) Y Y Y Y Y Y Y Y Y ?_;exact ar (c:=rfl)
theorem p_formLt {s:Sc} {r:Rw} (h1:r.kind < 1):PCalls Tryz.prog TF 190 [scP s,rwP r] (.tup [fmP Fm.zero,bP false]):=by
 refine pcA [85,96,37,320] Tryz.func190 (fun D=>?_);refine pa Y Y (pr0 (ro0 Y Y Y (fun hd=>opE_arr (n:=14) (e:=270) (us:=tblF) (zs:=List.replicate 14 .nilFunc) Y (by kernel_rfl) (by kernel_rfl) (by kernel_rfl) (by rfl) (by rfl) hd) ?_));refine akT (c:=by exact (show _=true from dt om)) ?_;exact ar (c:=rfl)
theorem p_formGt {s:Sc} {r:Rw} (h1:14≤r.kind):PCalls Tryz.prog TF 190 [scP s,rwP r] (.tup [fmP Fm.zero,bP false]):=by
 refine pcA [85,96,37,320] Tryz.func190 (fun D=>?_);refine pa Y Y (pr0 (ro0 Y Y Y (fun hd=>opE_arr (n:=14) (e:=270) (us:=tblF) (zs:=List.replicate 14 .nilFunc) Y (by kernel_rfl) (by kernel_rfl) (by kernel_rfl) (by rfl) (by rfl) hd) ?_));refine akF (c:=by exact (show _=false from df om)) ?_;refine akT (c:=by exact (show _=true from dt om)) ?_;exact ar (c:=rfl)
theorem p_form {s:Sc} {a b:Nat} (r:Rw) (h:s.Va a b):PCalls Tryz.prog TF 190 [scP s,rwP r] (.tup [fmP (formR s r).1,bP (formR s r).2]):=by
 by_cases h1:r.kind < 1
 ·rw[formR_no (.inl h1)];exact p_formLt h1
 ·by_cases h2:14≤r.kind
  ·rw[formR_no (.inr h2)];exact p_formGt h2
  ·by_cases h3:r.kind < 5
   ·exact p_formIn h om h3
   ·exact p_formUn h om om
abbrev intsP (l:List Int):PV:=.rows 3 1 [] (l.map fun x=>[iP x])
def cmpZ (x y:Int):Int:=bif decide (x < y) then -1 else bif decide (y < x) then 1 else 0
def orZ:List Int→Int
 | []=>0
 | x::l=>bif x != 0 then x else orZ l
def cmpRw (a b:Rw):Int:=orZ [cmpZ a.kind b.kind,cmpZ a.index b.index,cmpZ a.lo b.lo,cmpZ a.hi b.hi]
theorem cmpZ_ne {x y:Int}:(cmpZ x y != 0)=(x != y):=by
 unfold cmpZ;by_cases h1:x < y
 ·rw[dt h1];have:x≠y:=by omega
  simp[this]
 ·rw[df h1];by_cases h2:y < x
  ·rw[dt h2];have:x≠y:=by omega
   simp[this]
  ·rw[df h2];have:x=y:=by omega
   simp[this]
theorem cmpZ_ge {x y:Int}:decide (0≤cmpZ x y)=!decide (x < y):=by
 unfold cmpZ;by_cases h1:x < y
 ·rw[dt h1];rfl
 ·rw[df h1];cases decide (y < x)<;>rfl
theorem cmpRw_ge {a b:Rw}:decide (0≤cmpRw a b)=!lessR a b:=by
 unfold cmpRw lessR orZ orZ orZ orZ orZ;simp only[cmpZ_ne];cases a.kind != b.kind
 ·cases a.index != b.index
  ·cases a.lo != b.lo
   ·cases h:a.hi != b.hi
    ·have e:a.hi=b.hi:=by simpa using h
     simp[e]
    ·exact cmpZ_ge
   ·exact cmpZ_ge
  ·exact cmpZ_ge
 ·exact cmpZ_ge
theorem orZ_hit {l:List Int} {i:Nat} (h:orZ (l.drop i)=orZ l) (hi:i < l.length) (hF:(atZ l (i:Int) != 0)=true):atZ l (i:Int)=orZ l:=by
 have e:l.drop i=atZ l (i:Int)::l.drop (i+1):=by rw[atZ_nat (ge hi),List.drop_eq_getElem_cons hi]
 rw[e,orZ,hF] at h;exact h
theorem orZ_step {l:List Int} {i:Nat} (h:orZ (l.drop i)=orZ l) (hi:i < l.length) (hF:(atZ l (i:Int) != 0)=false):orZ (l.drop (i+1))=orZ l:=by
 have e:l.drop i=atZ l (i:Int)::l.drop (i+1):=by rw[atZ_nat (ge hi),List.drop_eq_getElem_cons hi]
 rw[e,orZ,hF] at h;exact h
theorem orZ_end {l:List Int} {i:Nat} (h:orZ (l.drop i)=orZ l) (hi:l.length≤i):(0:Int)=orZ l:=by
 rw[List.drop_of_length_le hi] at h;exact h
theorem p_nan (x:Int):PCalls Tryz.prog [] 336 [iP x] (bP false):=by
 refine pcA [] Tryz.func336 (fun D=>?_);exact ar (c:=congrArg bP (by simp))
theorem p_cmpZ (x y:Int):PCalls Tryz.prog [] 274 [iP x,iP y] (iP (cmpZ x y)):=by
 refine pcA [] Tryz.func274 (fun D=>?_);refine ac (c:=p_nan x) ?_;refine ac (c:=p_nan y) ?_;refine a2 (fun e16=>?_) (fun e16=>?_)
 ·exact ar (c:=by (try simp only[List.length_map] at *);simp only[cmpZ,e16,sb]<;>rfl)
 ·refine a2 (fun e19=>?_) (fun e19=>?_)
  ·exact ar (c:=by (try simp only[List.length_map] at *);simp only[cmpZ,e16,e19,sb]<;>rfl)
  ·exact ar (c:=by (try simp only[List.length_map] at *);simp only[cmpZ,e16,e19,sb]<;>rfl)
theorem p_orZ {l:List Int} (hl:l.length≤1000):PCalls Tryz.prog [] 273 [intsP l] (iP (orZ l)):=by
 refine pcA [] Tryz.func273 (fun D=>?_);refine au ?_;refine pl (ι:={i:Nat // i≤l.length∧orZ (l.drop i)=orZ l}) (fun i=>[(2,.pv (iP 0)),(3,.pv (iP 0)),(6,.pv (intsP l)),(7,.pv (iP ((l.map fun x=>[iP x]).length:Int))),(8,.pv (iP i.1))]) (fun _=>[]) [] (fun i=>l.length - i.1) ⟨0,nq _,rfl⟩ (c5 Y Y Y Y Y trivial) trivial (fun _=>rfl) ?_;intro ⟨i,hi0,hg⟩;refine a2 (fun e9=>?_) (fun e9=>?_)
 ·have hi:i < l.length:=lt_of e9;refine ax (c:=(getmap (f:=fun x=>[iP x]) (get_of hi))) ?_;refine a2 (fun e14=>?_) (fun e14=>?_)
  ·exact ar (c:=congrArg iP (orZ_hit hg hi e14))
  ·refine aa (c:=ari_succ (by show i≤_;omega)) ?_;refine au ?_;exact pe ⟨i+1,hi,orZ_step hg hi e14⟩ (c5 Y Y Y Y Y trivial) trivial Y (by show l.length - (i+1) < l.length - i;omega)
 ·have hj:l.length≤i:=ge_of e9;exact ar (c:=congrArg iP (orZ_end hg hj))
theorem p_compare {a b:Rw}:PCalls Tryz.prog [] 226 [rwP a,rwP b] (iP (cmpRw a b)):=by
 refine pcA [96] Tryz.func226 (fun D=>?_);refine ac (c:=p_cmpZ _ _) ?_;refine ac (c:=p_cmpZ _ _) ?_;refine ac (c:=p_cmpZ _ _) ?_;refine ac (c:=p_cmpZ _ _) ?_;refine ac (c:=p_orZ (l:=[cmpZ a.kind b.kind,cmpZ a.index b.index,cmpZ a.lo b.lo,cmpZ a.hi b.hi]) (by simp)) ?_;exact ar (c:=rfl)
theorem p_canonical {l:List Mm} {n:Nat} (h:∀m∈l,m.2.S n) (hn:n≤10000) (hl:l.length≤1000):PCalls Tryz.prog [] 189 [mmsP l] (bP (canonR l)):=by
 refine pcA [98] Tryz.func189 (fun D=>?_);refine au ?_;refine pl (ι:={i:Nat // i≤l.length∧∀j,j < i→badM l j=false}) (fun i=>[(0,.pv (mmsP l)),(2,.pv (bP false)),(5,.pv (mmsP l)),(6,.pv (iP ((l.map mmC).length:Int))),(7,.pv (iP i.1))]) (fun _=>[]) [98] (fun i=>l.length - i.1) ⟨0,nq _,fun j hj=>by omega⟩ (c5 Y Y Y Y Y trivial) trivial (fun _=>rfl) ?_;intro ⟨i,hi0,hnb⟩;refine a2 (fun e8=>?_) (fun e8=>?_)
 ·have hi:i < l.length:=lt_of e8;have hm:=h _ (mg (get_of hi));refine ax (c:=(getmap (get_of hi))) ?_;refine ac (c:=p_sgn (hm.sm hn)) ?_;refine a2 (fun e16=>?_) (fun e16=>?_)
  ·exact ar (c:=by rw[canon_bad hi (by simp only[badM,← cmpRw_ge,e8,e16,sb])])
  ·refine ac (c:=p_valid (hm.sm hn) hm.ok) ?_;refine a2 (fun e25=>?_) (fun e25=>?_)
   ·refine aa (c:=ari_pred e25 (by show i≤_;omega)) ?_;refine ax (c:=(getmap (get_of (show i - 1 < l.length by omega)))) ?_;refine ac (c:=p_compare) ?_;refine a2 (fun e37=>?_) (fun e37=>?_)
    ·exact ar (c:=by rw[canon_bad hi (by simp only[badM,← cmpRw_ge,e8,e16,e25,e37,sb])])
    ·refine aa (c:=ari_succ (by show i≤_;omega)) ?_;refine au ?_;exact pe ⟨i+1,hi,all_succ hnb (by simp only[badM,← cmpRw_ge,e8,e16,e25,e37,sb])⟩ (c5 Y Y Y Y Y trivial) trivial Y (by show l.length - (i+1) < l.length - i;omega)
   ·refine aa (c:=ari_succ (by show i≤_;omega)) ?_;refine au ?_;exact pe ⟨i+1,hi,all_succ hnb (by simp only[badM,← cmpRw_ge,e8,e16,e25,sb])⟩ (c5 Y Y Y Y Y trivial) trivial Y (by show l.length - (i+1) < l.length - i;omega)
 ·have hj:l.length≤i:=ge_of e8;exact ar (c:=by rw[canon_all hnb hj])
structure PfOk (l:List Mm):Prop where
 each:∀m∈l,m.2.S 500
 len:l.length≤16
structure LmOk (m:Lm):Prop where
 value:m.value.S 8
 proof:PfOk m.proof
theorem PfOk.sum {s:Sc} {a b:Nat} {l:List Mm} (h:PfOk l) (hs:s.Va a b):(sumR s l).1.S 8700 144:=by
 have:=Nat.mul_le_mul_right (41+500) h.len;have h2:=h.len;exact (sumR_S hs h.each).up om om
def provesR (s:Sc) (f:Fm) (l:List Mm):Bool:=bif (sumR s l).2 != 0 then false else ((((Fm.subR f (sumR s l).1).terms.length:Int) == 0)&&decide (0≤sgQ (Fm.subR f (sumR s l).1).const))
def refutesR (s:Sc) (l:List Mm):Bool:=((sumR s l).2 == 0)&&((((sumR s l).1.terms.length:Int) == 0)&&decide (sgQ (sumR s l).1.const < 0))
def lemF (q:Qr) (m:Lm):Fm:=bif m.upper then Fm.scaleR (Fm.subR (atZ q.g.units m.unit) (numR m.value)) Q.mone else Fm.subR (atZ q.g.units m.unit) (numR m.value)
def lemmaR (s:Sc) (m:Lm):Bool:=bif decide (m.unit < 0)||decide ((s.q.g.units.length:Int)≤m.unit) then false else provesR s (lemF s.q m) m.proof
def badL (s:Sc) (i:Nat):Bool:=!lemmaR ⟨s.q,s.path,s.lems.take i⟩ (atZ s.lems (i:Int))
def scopeR (s:Sc):Bool:=!(s.path.any fun d=>!fitsQ s.q d)&&!((List.range s.lems.length).any (badL s))
theorem range_bad {n i:Nat} {f:Nat→Bool} (hi:i < n) (h:f i=true):(List.range n).any f=true:=List.any_eq_true.2 ⟨i,List.mem_range.2 hi,h⟩
theorem range_all {n i:Nat} {f:Nat→Bool} (h:∀j,j < i→f j=false) (hi:n≤i):(List.range n).any f=false:=by
 rw[List.any_eq_false];intro j hj;rw[h j (by have:=List.mem_range.1 hj;omega)];exact Bool.false_ne_true
theorem Fm.Cn.ok {f:Fm} {n:Nat} (h:f.Cn) (hv:∀t∈f.terms,0≤t.1∧t.1 < (n:Int)):f.Ok n:=by
 refine⟨fun i s t hs ht=>?_,fun t ht=>⟨(hv t ht).1,(hv t ht).2,(h.nz t ht).2,(h.nz t ht).1⟩,h.const⟩;obtain⟨h1,rfl⟩:=gs hs;obtain⟨h2,rfl⟩:=gs ht;exact List.pairwise_iff_getElem.1 h.srt i (i+1) h1 h2 (Nat.lt_succ_self i)
theorem add_vars {f g:Fm} (h:f.Cn) (k:g.Cn) {P:Int→Prop} (hf:∀t∈f.terms,P t.1) (hg:∀t∈g.terms,P t.1):∀t∈(Fm.addR f g).terms,P t.1:=fun t ht=>by
 by_cases h1:∃u∈f.terms,u.1=t.1
 ·obtain⟨u,hu,e⟩:=h1;rw[← e];exact hf u hu
 ·by_cases h2:∃u∈g.terms,u.1=t.1
  ·obtain⟨u,hu,e⟩:=h2;rw[← e];exact hg u hu
  ·exfalso
   have h3:cfL f.terms t.1=Q.zero:=cfL_none fun u hu e=>h1 ⟨u,hu,e⟩
   have h4:cfL g.terms t.1=Q.zero:=cfL_none fun u hu e=>h2 ⟨u,hu,e⟩
   have h5:=h.add_cf k t.1;rw[h3,h4,cfL_mem (h.addR k).srt ht] at h5;have:=((h.addR k).nz t ht).2;rw[h5] at this;exact this rfl
theorem sub_vars {f g:Fm} (h:f.Cn) (k:g.Cn) {P:Int→Prop} (hf:∀t∈f.terms,P t.1) (hg:∀t∈g.terms,P t.1):∀t∈(Fm.subR f g).terms,P t.1:=add_vars h k.scaleR hf (scale_vars k hg)
theorem num_cn {q:Q} (h:q.Ok):(numR q).Cn:=⟨List.Pairwise.nil,(fun t ht=>by cases ht),h⟩
theorem lemF_ok {q:Qr} {a:Nat} {m:Lm} (h:q.Va a) (h0:0≤m.unit) (h1:m.unit < q.g.units.length) (hv:m.value.S 8) (ha:a≤2) (h9:q.g.inputs+q.g.units.length≤8):(lemF q m).S 20 8∧(lemF q m).Ok (q.g.inputs+q.g.units.length):=by
 have hm:=atZ_mem h0 h1;have hp:(atZ q.g.units m.unit).S 2 8:=(h.us _ hm).up ha h9;have hs:(Fm.subR (atZ q.g.units m.unit) (numR m.value)).S 12 8:=hp.subR (sz_num hv);have hvar:∀t∈(atZ q.g.units m.unit).terms,0≤t.1∧t.1 < ((q.g.inputs+q.g.units.length:Nat):Int):=fun t ht=>by
  obtain⟨j,hj⟩:=List.mem_iff_getElem?.1 hm;have hjl:=(gs hj).1;have:=(h.g.us j _ hj).ok.each t ht;exact⟨this.1,by have:=this.2.1;omega⟩
 have hsv:∀t∈(Fm.subR (atZ q.g.units m.unit) (numR m.value)).terms,0≤t.1∧t.1 < ((q.g.inputs+q.g.units.length:Nat):Int):=sub_vars (P:=fun v=>0≤v∧v < ((q.g.inputs+q.g.units.length:Nat):Int)) hp.cn (num_cn hv.ok) hvar fun t ht=>by cases ht
 unfold lemF;cases m.upper with
 | false=>exact⟨hs.up dx dx,hs.cn.ok hsv⟩
 | true=>exact⟨(hs.scaleR sz_mone).up dx dx,hs.cn.scaleR.ok (scale_vars (P:=fun v=>0≤v∧v < ((q.g.inputs+q.g.units.length:Nat):Int)) hs.cn hsv)⟩
theorem p_sum {s:Sc} {l:List Mm} {a b n:Nat} (h:s.Va a b) (hl:∀m∈l,m.2.S n) (h9:l.length≤40) (hn9:n≤9000) (hK:1+l.length*(41+n)≤9000):PCalls Tryz.prog TF 139 [scP s,mmsP l] (.tup [fmP (sumR s l).1,iP (sumR s l).2]):=by
 refine pcA [85,37,98] Tryz.func139 (fun D=>?_);refine ac (c:=p_canonical (n:=n) hl om om) ?_;refine a2 (fun e13=>?_) (fun e13=>?_)
 ·replace e13:=not_t e13;exact ar (c:=by rw[sum_canon e13];rfl)
 ·replace e13:=not_f e13;refine au ?_;refine pwk ?_;refine pl (ι:={p:Nat×Fm // p.1≤l.length∧sumGo s (l.drop p.1) p.2=sumGo s l Fm.zero∧p.2.S (1+p.1*(41+n)) (p.1*9)}) (fun p=>[(2,.box 2 0),(4,.box 4 0),(6,.box 6 0),(15,.pv (mmsP l)),(16,.pv (iP ((l.map mmC).length:Int))),(17,.pv (iP p.1.1))]) (fun p=>[(2,.box 85 [.pv (iP s.q.g.inputs),.pv (formsP s.q.g.units),.pv (formsP s.q.g.outputs),.pv (ratsP s.q.rg.lo),.pv (ratsP s.q.rg.hi),.pv (formsP s.q.rg.rows),.pv (termsP s.q.goal.terms),.pv (bP s.q.goal.const.neg),.pv (.nat s.q.goal.const.num),.pv (.nat s.q.goal.const.den),.pv (dcsP s.path),.pv (lmsP s.lems)]),(4,.box 37 [.pv (termsP []),.pv (.raw (.bool false)),.pv (.nat 0),.pv (.nat 0)]),(6,.box 37 [.pv (termsP p.1.2.terms),.pv (bP p.1.2.const.neg),.pv (.nat p.1.2.const.num),.pv (.nat p.1.2.const.den)])]) [85,37,98] (fun p=>l.length - p.1.1) ⟨(0,Fm.zero),nq _,rfl,fm_zero_S.up om om⟩ (c6 Y Y Y Y Y Y trivial) (c3 Y Y Y trivial) (fun _=>rfl) ?_;intro ⟨(i,acc),hi0,hg,ha⟩;simp only at hi0 hg ha;refine a2 (fun e18=>?_) (fun e18=>?_)
  ·have hi:i < l.length:=lt_of e18;have hm:=hl _ (mg (get_of hi));have hf:=h.formS (r:=(atZ l (i:Int)).1);have hii:=Nat.mul_le_mul_right (41+n) (show i+1≤l.length from hi);rw[Nat.add_mul,Nat.one_mul] at hii;refine ax (c:=(getmap (get_of hi))) ?_;refine ac (c:=p_form _ h) ?_;refine a2 (fun e29=>?_) (fun e29=>?_)
   ·replace e29:=not_t e29;exact ar (c:=by rw[sum_none e13 hi hg e29];rfl)
   ·replace e29:=not_f e29;refine ac (c:=p_fscale hf hm dx om dx) ?_;refine ac (c:=p_fadd ha (hf.scaleR hm) om om om dx) ?_;refine aa (c:=ari_succ (by show i≤_;omega)) ?_;refine au ?_;exact pe ⟨(i+1,Fm.addR acc (Fm.scaleR (formR s (atZ l (i:Int)).1).1 (atZ l (i:Int)).2)),hi,sum_step hi hg e29,(ha.addR (hf.scaleR hm)).up (by show _≤1+(i+1)*(41+n);rw[Nat.add_mul,Nat.one_mul];omega) (by show i*9+9≤(i+1)*9;omega)⟩ (c6 Y Y Y Y Y Y trivial) (c3 Y Y Y trivial) Y (by show l.length - (i+1) < l.length - i;omega)
  ·have hj:l.length≤i:=ge_of e18;exact ar (c:=by rw[sum_end e13 hj hg];rfl)
theorem p_proves {s:Sc} {f:Fm} {l:List Mm} {a b v:Nat} (h:s.Va a b) (hf:f.S 100 8) (hv:f.Ok v) (hv9:v≤9223372036854775807) (hl:PfOk l):PCalls Tryz.prog TF 85 [scP s,fmP f,mmsP l] (bP (provesR s f l)):=by
 have hs:=hl.sum h;have hr:=hf.subR hs;refine pcA [85,37] Tryz.func85 (fun D=>?_);refine ac (c:=p_sum (n:=500) h hl.each (by have:=hl.len;omega) dx (by have:=hl.len;omega)) ?_;refine a2 (fun e18=>?_) (fun e18=>?_)
 ·exact ar (c:=by (try simp only[List.length_map] at *);simp only[provesR,e18,sb]<;>rfl)
 ·refine ac (c:=p_lvalid (v:=9223372036854775807) (hf.lo dx dx) (hv.mono hv9)) ?_;refine ac (c:=p_fsub hf hs dx dx dx dx) ?_;refine a2 (fun e30=>?_) (fun e30=>?_)
  ·refine ac (c:=p_sgn (hr.const.sm dx)) ?_;exact ar (c:=by (try simp only[List.length_map] at *);simp only[provesR,e18,e30,sb]<;>rfl)
  ·exact ar (c:=by (try simp only[List.length_map] at *);simp only[provesR,e18,e30,sb]<;>rfl)
theorem p_refutes {s:Sc} {l:List Mm} {a b:Nat} (h:s.Va a b) (hl:PfOk l):PCalls Tryz.prog TF 84 [scP s,mmsP l] (bP (refutesR s l)):=by
 have hs:=hl.sum h;refine pcA [85,37] Tryz.func84 (fun D=>?_);refine ac (c:=p_sum (n:=500) h hl.each (by have:=hl.len;omega) dx (by have:=hl.len;omega)) ?_;refine a2 (fun e15=>?_) (fun e15=>?_)
 ·refine a2 (fun e21=>?_) (fun e21=>?_)
  ·refine ac (c:=p_sgn (hs.const.sm dx)) ?_;exact ar (c:=by (try simp only[List.length_map] at *);simp only[refutesR,e15,e21,sb]<;>rfl)
  ·exact ar (c:=by (try simp only[List.length_map] at *);simp only[refutesR,e15,e21,sb]<;>rfl)
 ·exact ar (c:=by (try simp only[List.length_map] at *);simp only[refutesR,e15,sb]<;>rfl)
abbrev scL (q:Qr) (path:List Dc) (rows:List (List PV)):PV:=.agg [iP q.g.inputs,formsP q.g.units,formsP q.g.outputs,ratsP q.rg.lo,ratsP q.rg.hi,formsP q.rg.rows,termsP q.goal.terms,bP q.goal.const.neg,.nat q.goal.const.num,.nat q.goal.const.den,dcsP path,.rows 100 6 [200,98] rows]
theorem p_lemmaD {s:Sc} {m:Lm} {a b:Nat} (h:s.Va a b) (hm:LmOk m):PCalls Tryz.prog TF 138 [scP s,lmP m] (bP (lemmaR s m)):=by
 refine pcA [85,100,37] Tryz.func138 (fun D=>?_);refine a2 (fun e9=>?_) (fun e9=>?_)
 ·exact ar (c:=by (try simp only[List.length_map] at *);simp only[lemmaR,e9,sb]<;>rfl)
 ·have g0:=ge_ofZ e9;refine a2 (fun e19=>?_) (fun e19=>?_)
  ·exact ar (c:=by (try simp only[List.length_map] at *);simp only[lemmaR,e9,e19,sb]<;>rfl)
  ·have g1:=lt_ofZ' e19;obtain⟨k1,k2⟩:=lemF_ok h.q g0 g1 hm.value h.a9 h.n9;have hp:(atZ s.q.g.units m.unit).S 2 8:=(h.q.us _ (atZ_mem g0 g1)).up h.a9 h.n9;have hs:(Fm.subR (atZ s.q.g.units m.unit) (numR m.value)).S 12 8:=hp.subR (sz_num hm.value);refine ac (c:=p_valid (hm.value.sm dx) hm.value.ok) ?_;refine ac (c:=p_qvalid h.q (by have:=h.n9;omega)) ?_;refine ay (z:=toN g0) (c:=(getmap (atZ_get g0 g1))) ?_;refine ac (c:=p_fsub hp (sz_num hm.value) dx dx dx dx) ?_;refine a2 (fun e44=>?_) (fun e44=>?_)
   ·have ef:Fm.scaleR (Fm.subR (atZ s.q.g.units m.unit) (numR m.value)) Q.mone=lemF s.q m:=by unfold lemF;rw[e44];rfl
    refine ac (c:=p_of (-1) dx dx) ?_;refine ac (c:=p_fscale (q:=Q.mone) hs sz_mone dx dx dx) ?_;refine ac (c:=p_proves (f:=Fm.scaleR (Fm.subR (atZ s.q.g.units m.unit) (numR m.value)) Q.mone) h (ef▸k1.up dx dx) (ef▸k2) (by have:=h.n9;omega) hm.proof) ?_;exact ar (c:=by rw[ef];(try simp only[List.length_map] at *);simp only[lemmaR,e9,e19,e44,sb]<;>rfl)
   ·have ef:Fm.subR (atZ s.q.g.units m.unit) (numR m.value)=lemF s.q m:=by unfold lemF;rw[e44];rfl
    refine ac (c:=p_proves (f:=Fm.subR (atZ s.q.g.units m.unit) (numR m.value)) h (ef▸k1.up dx dx) (ef▸k2) (by have:=h.n9;omega) hm.proof) ?_;exact ar (c:=by rw[ef];(try simp only[List.length_map] at *);simp only[lemmaR,e9,e19,e44,sb]<;>rfl)
theorem p_lemmaL {q:Qr} {path:List Dc} {ls:List Lm} {rows:List (List PV)} {m:Lm} {a b:Nat} (e:rows=ls.map lmC) (h:(⟨q,path,ls⟩:Sc).Va a b) (hm:LmOk m):PCalls Tryz.prog TF 138 [scL q path rows,lmP m] (bP (lemmaR ⟨q,path,ls⟩ m)):=by
 subst e;exact p_lemmaD h hm
theorem Sc.Va.take {s:Sc} {a b:Nat} (h:s.Va a b) (i:Nat):(⟨s.q,s.path,s.lems.take i⟩:Sc).Va a b:=
 ⟨h.q,h.path,h.p9,fun m hm=>h.lems m (List.mem_of_mem_take hm),nt (by rw[List.length_take];exact Nat.min_le_right ..) h.l9,h.b1,h.b9,h.a9,h.n9⟩
theorem p_Fits {q:Qr} {d:Dc} {a n:Nat} (h:q.Va a) (h4:q.g.inputs+q.g.units.length≤400) (hd:d.at_.S n) (hn:n≤10000):PCalls Tryz.prog TU 137 [qyP q,dcP d] (bP (fitsQ q d)):=by
 refine pcA [39,42] Tryz.func137 (fun D=>?_);refine ac (c:=p_qvalid h h4) ?_;refine ac (c:=p_fits hd hn) ?_;exact ar (c:=rfl)
theorem p_scope1 {s:Sc} {d:Dc} {a b:Nat} (h:s.Va a b) (hd:d.at_.S a):PCalls Tryz.prog TU 136 [dcP d,.ptr 85 (scC s)] (bP (!fitsQ s.q d)):=by
 refine pcA [42] Tryz.func136 (fun D=>?_);refine ac (c:=p_Fits h.q (by have:=h.n9;omega) hd (by have:=h.a9;omega)) ?_;exact ar (c:=rfl)
theorem p_scopeD {s:Sc} {a b:Nat} (h:s.Va a b) (hl:∀m∈s.lems,LmOk m):PCalls Tryz.prog TF 83 [scP s] (bP (scopeR s)):=by
 refine pcA [85,100] Tryz.func83 (fun D=>?_);refine ac (c:=p_qvalid h.q (by have:=h.n9;omega)) ?_;refine au ?_;refine rmk Y Y Y Y ?_;refine ac (c:=p_containsD (F:=fun d=>!fitsQ s.q d) (by have:=h.p9;omega) fun d hd=>p_scope1 (s:=s) h (h.path d hd)) ?_;refine a2 (fun e14=>?_) (fun e14=>?_)
 ·exact ar (c:=by unfold scopeR;simp[e14])
 ·refine au ?_;refine pl (ι:={i:Nat // i≤s.lems.length∧∀j,j < i→badL s j=false}) (fun i=>[(1,.box 1 0),(2,.pv (bP false)),(16,.pv (lmsP s.lems)),(17,.pv (iP ((s.lems.map lmC).length:Int))),(18,.pv (iP i.1))]) (fun _=>[(1,.box 85 [.pv (iP s.q.g.inputs),.pv (formsP s.q.g.units),.pv (formsP s.q.g.outputs),.pv (ratsP s.q.rg.lo),.pv (ratsP s.q.rg.hi),.pv (formsP s.q.rg.rows),.pv (termsP s.q.goal.terms),.pv (bP s.q.goal.const.neg),.pv (.nat s.q.goal.const.num),.pv (.nat s.q.goal.const.den),.pv (dcsP s.path),.pv (lmsP s.lems)])]) [85,100] (fun i=>s.lems.length - i.1) ⟨0,nq _,fun j hj=>by omega⟩ (c5 Y Y Y Y Y trivial) (ai Y trivial) (fun _=>rfl) ?_;intro ⟨i,hi0,hnb⟩;refine a2 (fun e19=>?_) (fun e19=>?_)
  ·have hi:i < s.lems.length:=lt_of e19;have hm:=hl _ (mg (get_of hi));refine ax (c:=(getmap (get_of hi))) ?_;refine au ?_;refine ro0 Y Y Y (fun hd=>opE_sub tab_ok Y Y Y (.inl ⟨rfl,rfl⟩) (.inr ⟨_,rfl,rfl⟩) (nq _) (by rw[List.length_map];exact hi0) Y dx hd) ?_;refine ac (c:=p_lemmaL (ls:=s.lems.take i) (List.map_take ..).symm (h.take i) hm) ?_;refine a2 (fun e34=>?_) (fun e34=>?_)
   ·replace e34:=not_t e34;exact ar (c:=by unfold scopeR;rw[range_bad hi (show badL s i=true by unfold badL;rw[e34];rfl)];simp)
   ·replace e34:=not_f e34;refine aa (c:=ari_succ (by have:=h.l9;show i≤_;omega)) ?_;refine au ?_;exact pe ⟨i+1,hi,all_succ hnb (by unfold badL;rw[e34];rfl)⟩ (c5 Y Y Y Y Y trivial) (ai Y trivial) Y (by show s.lems.length - (i+1) < s.lems.length - i;omega)
  ·have hj:s.lems.length≤i:=ge_of e19;exact ar (c:=by unfold scopeR;rw[range_all hnb hj];simp[e14])
theorem p_natEq (m n:Nat):PCalls Tryz.prog [] 222 [.nat m,.nat n] (bP (decide (m=n))):=⟨by kernel_rfl,fun w X us h1 h2 h3=>by
 obtain⟨u,v,rfl,g1,g2⟩:=args2 h3;obtain⟨x,rfl,hx⟩:=nat_of g1;obtain⟨y,rfl,hy⟩:=nat_of g2;exact (eq_any w x y m n hx hy).mono fun e w' ⟨he,G⟩=>⟨_,he,raw_to _,G⟩⟩
theorem p_trat (x y:Q):PCalls Tryz.prog [] 184 [ratP x,ratP y] (bP (decide (x=y))):=by
 refine pcA [35] Tryz.func184 (fun D=>?_);refine au ?_;refine re0 (x.neg == y.neg) Y Y Y Y Y Y (.inl ⟨rfl,rfl⟩) ?_;refine a2 (fun e10=>?_) (fun e10=>?_)
 ·refine ac (c:=p_natEq _ _) ?_;refine a2 (fun e17=>?_) (fun e17=>?_)
  ·refine ac (c:=p_natEq _ _) ?_;exact ar (c:=by rw[Q.dec_eq];(try simp only[List.length_map] at *);simp only[bP,e10,e17,sb]<;>rfl)
  ·exact ar (c:=by rw[Q.dec_eq];(try simp only[List.length_map] at *);simp only[bP,e10,e17,sb]<;>rfl)
 ·exact ar (c:=by rw[Q.dec_eq];(try simp only[List.length_map] at *);simp only[bP,e10,sb]<;>rfl)
def dcEq (a b:Dc):Bool:=a.kind == b.kind&&(a.index == b.index&&decide (a.at_=b.at_))
theorem dcEq_eq {a b:Dc}:dcEq a b=decide (a=b):=by
 obtain⟨k,i,q⟩:=a;obtain⟨k',i',q'⟩:=b;unfold dcEq;rw[Bool.eq_iff_iff];simp
theorem p_tdec (x y:Dc):PCalls Tryz.prog [] 131 [dcP x,dcP y] (bP (dcEq x y)):=by
 refine pcA [42] Tryz.func131 (fun D=>?_);refine a2 (fun e10=>?_) (fun e10=>?_)
 ·refine a2 (fun e17=>?_) (fun e17=>?_)
  ·refine ac (c:=p_trat _ _) ?_;exact ar (c:=by (try simp only[List.length_map] at *);simp only[dcEq,e10,e17,sb]<;>rfl)
  ·exact ar (c:=by (try simp only[List.length_map] at *);simp only[dcEq,e10,e17,sb]<;>rfl)
 ·exact ar (c:=by (try simp only[List.length_map] at *);simp only[dcEq,e10,sb]<;>rfl)
def Nd.Wf:Nat→Nd→Prop
 | 0,.mk _ d ks _ _=>d=dc0∧ks=[]
 | k+1,.mk _ d ks e p=>e=false∧p=[]∧1≤d.kind∧d.kind≤4∧∃a b,ks=[a,b]∧Nd.Wf k a∧Nd.Wf k b
def szK:Nat→Nat
 | 0=>1
 | k+1=>1+szK k+szK k
theorem szK_le:∀k,k≤10→szK k≤2047:=by decide
theorem szK_pos:∀k,1≤szK k
 | 0=>nr _
 | k+1=>by rw[szK];omega
theorem p_size0 {ls:List Lm} {e:Bool} {p:List Mm} {depth most:Int} (h:1≤most):PCalls Tryz.prog [] 74 [ndP (.mk ls dc0 [] e p),iP depth,iP most] (.tup [iP 1,bP true]):=by
 refine pcA [46] Tryz.func74 (fun D=>?_);refine akF (c:=by exact (show _=false from df om)) ?_;refine akT (c:=by exact rfl) ?_;refine ac (c:=p_tdec dc0 dc0) ?_;exact ar (c:=rfl)
theorem p_sizeS {ls:List Lm} {d:Dc} {a b:Nd} {depth most A:Int} (h:1≤most) (h1:1≤d.kind) (h2:d.kind≤4) (hd:1≤depth) (hd9:depth≤100000) (hm9:most≤1000000) (hA:0≤A) (hA9:A≤1000000) (ia:PCalls Tryz.prog [] 74 [ndP a,iP (depth - 1),iP (most - 1)] (.tup [iP A,bP true])) (ib:PCalls Tryz.prog [] 74 [ndP b,iP (depth - 1),iP (most - 1 - A)] (.tup [iP A,bP true])):PCalls Tryz.prog [] 74 [ndP (.mk ls d [a,b] false []),iP depth,iP most] (.tup [iP (1+A+A),bP true]):=by
 obtain⟨l1,d1,k1,e1,p1⟩:=a;obtain⟨l2,d2,k2,e2,p2⟩:=b;refine pcA [46] Tryz.func74 (fun D=>?_);refine akF (c:=by exact (show _=false from df om)) ?_;refine akF (c:=by exact (show _=false from rfl)) ?_;refine akF (c:=by exact (show _=false from rfl)) ?_;refine akF (c:=by exact (show _=false from df om)) ?_;refine akF (c:=by exact (show _=false from df om)) ?_;refine akF (c:=by exact (show _=false from rfl)) ?_;refine akF (c:=by exact (show _=false from beq_eq_false_iff_ne.2 om)) ?_;refine au ?_;refine ro0 Y Y Y (fun hd=>opE_idx (i:=0) tab_ok Y Y Y Y Y dx Y Y hd) ?_;refine aa (c:=ari_sub om om om om) ?_;refine aa (c:=ari_sub om om om om) ?_;refine ac (c:=ia) ?_;refine au ?_;refine ro0 Y Y Y (fun hd=>opE_idx (i:=1) tab_ok Y Y Y Y Y dx Y Y hd) ?_;refine aa (c:=ari_sub om om om om) ?_;refine aa (c:=ari_sub om om om om) ?_;refine aa (c:=ari_sub om om om om) ?_;refine ac (c:=ib) ?_;refine aa (c:=ari_add om om om om) ?_;refine aa (c:=ari_add om om om om) ?_;exact ar (c:=rfl)
theorem p_size:∀(k:Nat) {n:Nd} {depth most:Int},n.Wf k→(k:Int)≤depth→(szK k:Int)≤most→depth≤100000→most≤1000000→k≤10→PCalls Tryz.prog [] 74 [ndP n,iP depth,iP most] (.tup [iP (szK k),bP true])
 | 0,.mk ls d ks e p,depth,most,h,_,hm,_,_,_=>by
  obtain⟨rfl,rfl⟩:=h;exact p_size0 hm
 | k+1,.mk ls d ks e p,depth,most,h,hd,hm,hd9,hm9,hk=>by
  obtain⟨rfl,rfl,h1,h2,a,b,rfl,ha,hb⟩:=h;have hs:=szK_le k om;have hs0:=szK_pos k;rw[szK] at hm;have:=p_sizeS (ls:=ls) (d:=d) (a:=a) (b:=b) (depth:=depth) (most:=most) (A:=(szK k:Int)) om h1 h2 om hd9 hm9 om om (p_size k ha om om om om om) (p_size k hb om om om om om);exact this
theorem p_tvalid {n:Nd} {k:Nat} (h:n.Wf k) (hk:k≤10):PCalls Tryz.prog [] 36 [ndP n] (bP true):=by
 obtain⟨ls,d,ks,e,p⟩:=n;have hs:=szK_le k hk;refine pcA [46] Tryz.func36 (fun D=>?_);refine au ?_;refine rc0 (p_size k h om om dx dx hk) Y Y Y Y Y Y Y ?_;exact ar (c:=rfl)
structure En where
 path:List Dc
 lems:List Lm
 empty:Bool
 proof:List Mm
 deriving Inhabited
abbrev enT:List Nat:=[42,100,98,200,46]
def enC (x:En):List PV:=[dcsP x.path,lmsP x.lems,iP 0,iP 0,bP false,.nat 0,.nat 0,.rows 46 9 ndT [],bP x.empty,mmsP x.proof]
abbrev enP (x:En):PV:=.agg (enC x)
abbrev ensP (l:List En):PV:=.rows 77 10 enT (l.map enC)
def En.sc (q:Qr) (x:En):Sc:=⟨q,x.path,x.lems⟩
structure EnOk (x:En):Prop where
 lems:∀m∈x.lems,LmOk m
 proof:PfOk x.proof
def appliesR (q:Qr) (x:En):Bool:=scopeR (x.sc q)&&(bif x.empty then refutesR (x.sc q) x.proof else provesR (x.sc q) q.goal x.proof)
theorem p_applies {q:Qr} {x:En} {a b:Nat} (h:(x.sc q).Va a b) (hx:EnOk x) (hg:q.goal.S 100 8):PCalls Tryz.prog TF 39 [qyP q,enP x] (bP (appliesR q x)):=by
 refine pcA [39,77,85] Tryz.func39 (fun D=>?_);refine ac (c:=p_scopeD (s:=x.sc q) h hx.lems) ?_;refine a2 (fun e15=>?_) (fun e15=>?_)
 ·replace e15:=not_t e15;exact ar (c:=by (try simp only[List.length_map] at *);simp only[appliesR,e15,sb]<;>rfl)
 ·replace e15:=not_f e15;refine a2 (fun e18=>?_) (fun e18=>?_)
  ·refine ac (c:=p_refutes (s:=x.sc q) h hx.proof) ?_;exact ar (c:=by (try simp only[List.length_map] at *);simp only[appliesR,e15,e18,sb]<;>rfl)
  ·refine ac (c:=p_proves (s:=x.sc q) h hg h.q.ok (by have:=h.n9;show q.g.inputs+q.g.units.length≤_;have:q.g.inputs+q.g.units.length≤8:=h.n9;omega) hx.proof) ?_;exact ar (c:=by (try simp only[List.length_map] at *);simp only[appliesR,e15,e18,sb]<;>rfl)
def addM (one:Int→List Bool→List Bool):List Mm→List Bool→List Bool
 | [],is=>is
 | m::l,is=>addM one l (one m.1.hi (one m.1.lo is))
def hitM (ls:List Lm) (n:Int) (is:List Bool):Bool:=decide (1≤n)&&(decide (n≤(ls.length:Int))&&!atZ is (n - 1))
def oneM (ls:List Lm):Nat→Int→List Bool→List Bool
 | 0,_,is=>is
 | k+1,n,is=>bif hitM ls n is then addM (oneM ls k) (atZ ls (n - 1)).proof (is.set (n - 1).toNat true) else is
def cntF (is:List Bool):Nat:=is.countP fun b=>!b
theorem cnt_set {is:List Bool} {i:Nat} (h:is[i]?=some false):cntF (is.set i true)+1=cntF is:=by
 induction is generalizing i with
 | nil=>simp at h
 | cons b is ih=>
  cases i with
  | zero=>simp at h;subst h;simp[cntF]
  | succ i=>
   have:=ih (i:=i) (by simpa using h);simp only[cntF,List.set_cons_succ,List.countP_cons] at this ⊢;omega
theorem atZ_in {α:Type} [Inhabited α] {l:List α} {z:Int} {n:Nat} (h1:1≤z) (h2:z≤(n:Int)) (hl:l.length=n):l[(z - 1).toNat]?=some (atZ l (z - 1)):=by
 have h:=atZ_get (l:=l) (z:=z - 1) om om;exact h
theorem addM_keep {one:Int→List Bool→List Bool} {n k:Nat} (h:∀x is,is.length=n→cntF is≤k→(one x is).length=n∧cntF (one x is)≤cntF is):∀(l:List Mm) (is:List Bool),is.length=n→cntF is≤k→(addM one l is).length=n∧cntF (addM one l is)≤cntF is
 | [],is,h1,h2=>⟨h1,nr _⟩
 | m::l,is,h1,h2=>by
  obtain⟨a1,a2⟩:=h m.1.lo is h1 h2;obtain⟨b1,b2⟩:=h m.1.hi _ a1 (nt a2 h2);obtain⟨c1,c2⟩:=addM_keep h l _ b1 om;exact⟨c1,by rw[addM];omega⟩
theorem oneM_keep {ls:List Lm}:∀(k:Nat) (x:Int) (is:List Bool),is.length=ls.length→cntF is≤k→(oneM ls k x is).length=ls.length∧cntF (oneM ls k x is)≤cntF is
 | 0,x,is,h1,_=>⟨h1,nr _⟩
 | k+1,x,is,h1,h2=>by
  rw[oneM];cases hh:hitM ls x is with
  | false=>exact⟨h1,nr _⟩
  | true=>
   simp only[hitM,be,de,Bool.not_eq_true'] at hh;obtain⟨g1,g2,g3⟩:=hh;have h3:=atZ_in (l:=is) g1 g2 h1;rw[g3] at h3;have h4:=cnt_set h3;obtain⟨c1,c2⟩:=addM_keep (oneM_keep k) (atZ ls (x - 1)).proof (is.set (x - 1).toNat true) (by rw[List.length_set];exact h1) om;exact⟨c1,by rw[cond_true];omega⟩
theorem addM_step {one:Int→List Bool→List Bool} {l:List Mm} {i:Nat} {is:List Bool} (hi:i < l.length):addM one (l.drop i) is=addM one (l.drop (i+1)) (one (atZ l (i:Int)).1.hi (one (atZ l (i:Int)).1.lo is)):=by
 have e:l.drop i=atZ l (i:Int)::l.drop (i+1):=by rw[atZ_nat (ge hi),List.drop_eq_getElem_cons hi]
 rw[e,addM]
abbrev bsC (is:List Bool):List (List PV):=is.map fun b=>[bP b]
abbrev mkR (ls:List Lm) (is:List Bool):List (Nat×Res):=[(1000,.box 154 [.pv (lmsP ls),.tok 1001]),(1001,.tok 4 1 [] (bsC is))]
theorem bs_set {is:List Bool} {i:Nat}:(bsC is).set i [bP true]=bsC (is.set i true):=(List.map_set ..).symm
theorem p_one1 {ls:List Lm} {n:Int} {is is2:List Bool} (h9:ls.length≤100000) (hl:is.length=ls.length) (hh:hitM ls n is=true) (ih:MCalls Tryz.prog [] 81 [.box 1000 0,.pv (mmsP (atZ ls (n - 1)).proof)] (mkR ls (is.set (n - 1).toNat true)) (mkR ls is2) (.tup [])):MCalls Tryz.prog [] 134 [.box 1000 0,.pv (iP n)] (mkR ls is) (mkR ls is2) (.tup []):=by
 simp only[hitM,be,de,Bool.not_eq_true'] at hh;obtain⟨g1,g2,g3⟩:=hh;refine pcm [154,4] (by kernel_rfl) Tryz.func134 Y Y (fun D hG=>?_);refine akT (c:=by exact (show _=true from dt g1)) ?_;refine akT (c:=by exact (show _=true from dt (by rw[List.length_map];exact g2))) ?_;refine aa (c:=ari_sub om om om om) ?_;refine ro0 Y Y Y (fun hd=>opE_idxE (i:=(n - 1).toNat) tab_ok Y Y Y Y Y Y dx (show n - 1=((n - 1).toNat:Int) by omega) (getmap (f:=fun b=>[bP b]) (atZ_in g1 g2 hl)) hd) ?_;refine ro0 Y Y Y (fun hd=>opE_loadE (i:=(n - 1).toNat) (j:=0) tab_ok Y Y Y Y Y Y (getmap (f:=fun b=>[bP b]) (atZ_in g1 g2 hl)) Y hd) ?_;refine a2 (fun e25=>?_) (fun e25=>?_)
 ·refine aa (c:=ari_sub om om om om) ?_;refine ro0 Y Y Y (fun hd=>opE_idxE (i:=(n - 1).toNat) tab_ok Y Y Y Y Y Y dx (show n - 1=((n - 1).toNat:Int) by omega) (getmap (f:=fun b=>[bP b]) (atZ_in g1 g2 hl)) hd) ?_;refine ro0 Y Y Y (fun hd=>opE_storeE (i:=(n - 1).toNat) (j:=0) tab_ok Y Y Y Y Y Y Y (getmap (f:=fun b=>[bP b]) (atZ_in g1 g2 hl)) Y Y Y Y Y) ?_;refine aa (c:=ari_sub om om om om) ?_;refine ay (z:=show n - 1=((n - 1).toNat:Int) by omega) (c:=(getmap (atZ_in g1 g2 rfl))) ?_;refine au ?_;refine rm0 [] [] hG (ih) Y Y Y Y Y Y (ai (Y) (ai (congrArg (fun x=>some (Res.tok _ _ _ x)) bs_set) trivial)) trivial trivial Y Y Y ?_;exact retm' Y Y ((c2 Y Y trivial))
 ·have e25:=e25;rw[g3] at e25;cases e25
theorem p_one0 {ls:List Lm} {n:Int} {is:List Bool} (h9:ls.length≤100000) (hl:is.length=ls.length) (hh:hitM ls n is=false):MCalls Tryz.prog [] 134 [.box 1000 0,.pv (iP n)] (mkR ls is) (mkR ls is) (.tup []):=by
 refine pcm [154,4] (by kernel_rfl) Tryz.func134 Y Y (fun D hG=>?_);refine a2 (fun e6=>?_) (fun e6=>?_)
 ·have g1:=of_decide_eq_true e6;refine a2 (fun e15=>?_) (fun e15=>?_)
  ·have g2:n≤(ls.length:Int):=by have:=of_decide_eq_true e15;rw[List.length_map] at this;exact this
   refine aa (c:=ari_sub om om om om) ?_;refine ro0 Y Y Y (fun hd=>opE_idxE (i:=(n - 1).toNat) tab_ok Y Y Y Y Y Y dx (show n - 1=((n - 1).toNat:Int) by omega) (getmap (f:=fun b=>[bP b]) (atZ_in g1 g2 hl)) hd) ?_;refine ro0 Y Y Y (fun hd=>opE_loadE (i:=(n - 1).toNat) (j:=0) tab_ok Y Y Y Y Y Y (getmap (f:=fun b=>[bP b]) (atZ_in g1 g2 hl)) Y hd) ?_;refine a2 (fun e25=>?_) (fun e25=>?_)
   ·exfalso
    have e25:(!atZ is (n - 1))=true:=e25;rw[hitM,dt g1,dt g2,e25] at hh;cases hh
   ·refine au ?_;exact retm' Y Y ((c2 Y Y trivial))
  ·refine au ?_;exact retm' Y Y ((c2 Y Y trivial))
 ·refine au ?_;exact retm' Y Y ((c2 Y Y trivial))
theorem p_addM {ls:List Lm} {l:List Mm} {is:List Bool} {k:Nat} (h9:l.length≤100000) (hl:is.length=ls.length) (hk:cntF is≤k) (one:∀(n:Int) (is:List Bool),is.length=ls.length→cntF is≤k→MCalls Tryz.prog [] 134 [.box 1000 0,.pv (iP n)] (mkR ls is) (mkR ls (oneM ls k n is)) (.tup [])):MCalls Tryz.prog [] 81 [.box 1000 0,.pv (mmsP l)] (mkR ls is) (mkR ls (addM (oneM ls k) l is)) (.tup []):=by
 refine pcm [98,154,4] (by kernel_rfl) Tryz.func81 Y Y (fun D hG=>?_);refine au ?_;refine pl (ι:={p:Nat×List Bool // p.1≤l.length∧addM (oneM ls k) (l.drop p.1) p.2=addM (oneM ls k) l is∧p.2.length=ls.length∧cntF p.2≤k}) (fun p=>[(0,.box 1000 0),(6,.pv (mmsP l)),(7,.pv (iP ((l.map mmC).length:Int))),(8,.pv (iP p.1.1))]) (fun p=>mkR ls p.1.2) [98,154,4] (fun p=>l.length - p.1.1) ⟨(0,is),nq _,rfl,hl,hk⟩ (c4 Y Y Y Y trivial) (c2 Y Y trivial) (fun _=>rfl) ?_;intro ⟨(i,is'),hi0,hg,hl1,hk1⟩;simp only at hi0 hg hl1 hk1;refine a2 (fun e9=>?_) (fun e9=>?_)
 ·have hi:i < l.length:=lt_of e9;obtain⟨a1,a2⟩:=oneM_keep k (atZ l (i:Int)).1.lo is' hl1 hk1;obtain⟨b1,b2⟩:=oneM_keep k (atZ l (i:Int)).1.hi _ a1 (nt a2 hk1);refine ax (c:=(getmap (get_of hi))) ?_;refine au ?_;refine rm0 [(0,.box 1000 0),(6,.pv (mmsP l)),(7,.pv (iP ((l.map mmC).length:Int))),(8,.pv (iP (i:Int))),(5,.box 5 0)] [(5,.box 98 [.pv (iP (atZ l (i:Int)).1.kind),.pv (iP (atZ l (i:Int)).1.index),.pv (iP (atZ l (i:Int)).1.lo),.pv (iP (atZ l (i:Int)).1.hi),.pv (bP (atZ l (i:Int)).2.neg),.pv (.nat (atZ l (i:Int)).2.num),.pv (.nat (atZ l (i:Int)).2.den)])] hG (one (atZ l (i:Int)).1.lo is' hl1 hk1) Y Y Y Y Y Y (c2 Y Y trivial) (c5 Y Y Y Y Y trivial) (ai Y trivial) Y Y Y ?_;refine au ?_;refine rm0 [(0,.box 1000 0),(6,.pv (mmsP l)),(7,.pv (iP ((l.map mmC).length:Int))),(8,.pv (iP (i:Int)))] [] hG (one (atZ l (i:Int)).1.hi _ a1 (nt a2 hk1)) Y Y Y Y Y Y (c2 Y Y trivial) (c4 Y Y Y Y trivial) trivial Y Y Y ?_;refine aa (c:=ari_succ (by show i≤_;omega)) ?_;refine au ?_;exact pe ⟨(i+1,oneM ls k (atZ l (i:Int)).1.hi (oneM ls k (atZ l (i:Int)).1.lo is')),hi,by rw[← hg,addM_step hi],b1,nt b2 (nt a2 hk1)⟩ (c4 Y Y Y Y trivial) (c2 Y Y trivial) Y (by show l.length - (i+1) < l.length - i;omega)
 ·have hj:l.length≤i:=ge_of e9;refine au ?_;exact retm' Y Y (ai Y (ai (congrArg (fun x=>some (Res.tok _ _ _ (bsC x))) (by have hg:=hg;rw[List.drop_of_length_le hj] at hg;exact hg)) trivial))
theorem p_oneM {ls:List Lm} (h9:ls.length≤100000) (hp:∀m∈ls,m.proof.length≤100000):∀(k:Nat) (n:Int) (is:List Bool),is.length=ls.length→cntF is≤k→MCalls Tryz.prog [] 134 [.box 1000 0,.pv (iP n)] (mkR ls is) (mkR ls (oneM ls k n is)) (.tup [])
 | 0,n,is,hl,hk=>by
  cases hh:hitM ls n is with
  | false=>exact p_one0 h9 hl hh
  | true=>
   simp only[hitM,be,de,Bool.not_eq_true'] at hh;obtain⟨g1,g2,g3⟩:=hh;have h3:=atZ_in (l:=is) g1 g2 hl;rw[g3] at h3;have h4:=cnt_set h3;omega
 | k+1,n,is,hl,hk=>by
  cases hh:hitM ls n is with
  | false=>rw[oneM,hh];exact p_one0 h9 hl hh
  | true=>
   have hh':=hh;simp only[hitM,be,de,Bool.not_eq_true'] at hh;obtain⟨g1,g2,g3⟩:=hh;have h3:=atZ_in (l:=is) g1 g2 hl;rw[g3] at h3;have h4:=cnt_set h3;rw[oneM,hh'];exact p_one1 h9 hl hh' (p_addM (hp _ (atZ_mem om om)) (by rw[List.length_set];exact hl) om (p_oneM h9 hp k))
theorem p_cloneM {l:List Mm} (h9:l.length≤1000000):NCalls Tryz.prog [] 78 [mmsP l] 98 7 [200] (l.map mmC):=by
 refine pcn [98] (by kernel_rfl) Tryz.func78 Y Y (fun D=>?_);refine au ?_;refine rz0 Y Y Y Y Y ⟨98,by kernel_rfl⟩ Y Y (fun hx=>?_) ?_
 ·refine au ?_;exact retn0 Y Y Y Y hx
 ·refine au ?_;refine rp0 el_Mult (by simp;omega) Y Y Y Y Y Y Y Y ?_;refine au ?_;exact retn Y Y Y Y (Y)
theorem p_cloneD {l:List Dc} (h9:l.length≤1000000):NCalls Tryz.prog [] 77 [dcsP l] 42 5 [200] (l.map dcC):=by
 refine pcn [42] (by kernel_rfl) Tryz.func77 Y Y (fun D=>?_);refine au ?_;refine rz0 Y Y Y Y Y ⟨42,by kernel_rfl⟩ Y Y (fun hx=>?_) ?_
 ·refine au ?_;exact retn0 Y Y Y Y hx
 ·refine au ?_;refine rp0 el_Decision (by simp;omega) Y Y Y Y Y Y Y Y ?_;refine au ?_;exact retn Y Y Y Y (Y)
def reN (to:List Int) (x:Int):Int:=bif decide (1≤x)&&decide (x≤(to.length:Int)) then atZ to (x - 1) else x
def renM (to:List Int) (m:Mm):Mm:=(⟨m.1.kind,m.1.index,reN to m.1.lo,reN to m.1.hi⟩,m.2)
theorem mm_set {l:List Mm} {i:Nat} (m:Mm) {r:List PV} (h:r=mmC m):(l.map mmC).set i r=(l.set i m).map mmC:=by rw[h];exact (List.map_set ..).symm
theorem mm_same {l:List Mm} {i:Nat} {m:Mm} (h:l[i]?=some m) (m':Mm) (e:m'=m):l.map mmC=(l.set i m').map mmC:=by rw[e,List.set_getElem?_self' h]
theorem ren_at {to:List Int} {l:List Mm} {i:Nat} (hi:i < l.length):((l.take i).map (renM to)++l.drop i)[i]?=some (atZ l (i:Int)):=by
 rw[List.getElem?_append_right (by simp;omega)];simp only[List.length_map,List.length_take,Nat.min_eq_left (Nat.le_of_lt hi),Nat.sub_self];rw[List.getElem?_drop,Nat.add_zero,get_of hi]
theorem ren_step {to:List Int} {l:List Mm} {i:Nat} (hi:i < l.length):((l.take i).map (renM to)++l.drop i).set i (renM to (atZ l (i:Int)))=(l.take (i+1)).map (renM to)++l.drop (i+1):=by
 have h1:((l.take i).map (renM to)).length=i:=by simp;omega
 rw[List.set_append_right _ _ om,h1,Nat.sub_self,List.drop_eq_getElem_cons hi,List.set_cons_zero,List.take_add_one,get_of hi];simp
theorem set_at {xs:List (List PV)} {i:Nat} {r r':List PV} (h:xs[i]?=some r):(xs.set i r')[i]?=some r':=by
 rw[List.getElem?_set_self (gs h).1]
theorem p_renumber {l:List Mm} {to:List Int} (h9:l.length≤1000000) (h8:to.length≤1000000):PCalls Tryz.prog [] 82 [mmsP l,intsP to] (mmsP (l.map (renM to))):=by
 refine pcA [98] Tryz.func82 (fun D=>?_);refine pa Y Y (pr0 (qg 1 ?_));refine rcn0 9 (p_cloneM h9) Y Y Y Y Y Y Y Y ?_;refine au ?_;refine pl (ι:={i:Nat // i≤l.length}) (fun i=>[(1,.pv (intsP to)),(4,.nil 98 7 [200]),(5,.tok 9),(11,.pv (iP (l.length:Int))),(12,.pv (iP i.1))]) (fun i=>[(9,.tok 98 7 [200] (((l.take i.1).map (renM to)++l.drop i.1).map mmC))]) [98] (fun i=>l.length - i.1) ⟨0,nq _⟩ (c3 Y Y Y (ai (congrArg (fun n:Nat=>some (SV.pv (iP (n:Int)))) (List.length_map ..)) (ai Y trivial))) (ai Y trivial) (fun _=>rfl) ?_;intro ⟨i,hi0⟩;refine a2 (fun e13=>?_) (fun e13=>?_)
 ·have hi:i < l.length:=by have h:(i:Int) < (l.length:Int):=of_decide_eq_true e13;omega
  refine pk (ps (pb ?_));refine pa Y Y (pr0 (qg 2 ?_));refine ro0 Y Y Y (fun hd=>opE_idxE (i:=i) tab_ok Y Y Y Y Y Y dx Y (getmap (ren_at hi)) hd) ?_;refine qg 2 ?_;refine rn Y (ps (pr0 (qg 3 ?_)));refine ro0 Y Y Y (fun hd=>opE_loadE (i:=i) (j:=2) tab_ok Y Y Y Y Y Y (getmap (ren_at hi)) Y hd) ?_;refine a2 (fun e24=>?_) (fun e24=>?_)
  ·have g1:1≤(atZ l (i:Int)).1.lo:=of_decide_eq_true e24;refine qg 3 ?_;refine ro0 Y Y Y (fun hd=>opE_loadE (i:=i) (j:=2) tab_ok Y Y Y Y Y Y (getmap (ren_at hi)) Y hd) ?_;refine a2 (fun e32=>?_) (fun e32=>?_)
   ·have g2:(atZ l (i:Int)).1.lo≤(to.length:Int):=by have:=of_decide_eq_true e32;rw[List.length_map] at this;exact this
    have g5:ariO .sub .i64 (atZ l (i:Int)).1.lo 1=some ((atZ l (i:Int)).1.lo - 1):=ari_sub om om om om;refine pr0' (qg 5 ?_);refine ro0 Y Y Y (fun hd=>opE_loadE (i:=i) (j:=2) tab_ok Y Y Y Y Y Y (getmap (ren_at hi)) Y hd) ?_;refine aa (c:=g5) ?_;refine ay (z:=show (atZ l (i:Int)).1.lo - 1=(((atZ l (i:Int)).1.lo - 1).toNat:Int) by omega) (c:=(getmap (f:=fun x=>[iP x]) (atZ_in g1 g2 rfl))) ?_;refine qg 3 ?_;refine ro0 Y Y Y (fun hd=>opE_storeE (i:=i) (j:=2) tab_ok Y Y Y Y Y Y Y (getmap (ren_at hi)) Y Y Y Y Y) ?_;refine rn Y (pr0 (qg 3 ?_));refine ro0 Y Y Y (fun hd=>opE_loadE (i:=i) (j:=3) tab_ok Y Y Y Y Y Y (show (List.set (((l.take i).map (renM to)++l.drop i).map mmC) i (List.set (mmC (atZ l (i:Int))) 2 (iP (atZ to ((atZ l (i:Int)).1.lo - 1)))))[i]?=some (mmC ((⟨(atZ l (i:Int)).1.kind,(atZ l (i:Int)).1.index,atZ to ((atZ l (i:Int)).1.lo - 1),(atZ l (i:Int)).1.hi⟩,(atZ l (i:Int)).2):Mm)) from set_at (r:=mmC (atZ l (i:Int))) (getmap (ren_at hi))) Y hd) ?_;refine a2 (fun e49=>?_) (fun e49=>?_)
    ·have g3:1≤(atZ l (i:Int)).1.hi:=of_decide_eq_true e49;refine qg 3 ?_;refine ro0 Y Y Y (fun hd=>opE_loadE (i:=i) (j:=3) tab_ok Y Y Y Y Y Y (show (List.set (((l.take i).map (renM to)++l.drop i).map mmC) i (List.set (mmC (atZ l (i:Int))) 2 (iP (atZ to ((atZ l (i:Int)).1.lo - 1)))))[i]?=some (mmC ((⟨(atZ l (i:Int)).1.kind,(atZ l (i:Int)).1.index,atZ to ((atZ l (i:Int)).1.lo - 1),(atZ l (i:Int)).1.hi⟩,(atZ l (i:Int)).2):Mm)) from set_at (r:=mmC (atZ l (i:Int))) (getmap (ren_at hi))) Y hd) ?_;refine a2 (fun e57=>?_) (fun e57=>?_)
     ·have g4:(atZ l (i:Int)).1.hi≤(to.length:Int):=by have:=of_decide_eq_true e57;rw[List.length_map] at this;exact this
      have g6:ariO .sub .i64 (atZ l (i:Int)).1.hi 1=some ((atZ l (i:Int)).1.hi - 1):=ari_sub om om om om;refine pr0' (qg 5 ?_);refine ro0 Y Y Y (fun hd=>opE_loadE (i:=i) (j:=3) tab_ok Y Y Y Y Y Y (show (List.set (((l.take i).map (renM to)++l.drop i).map mmC) i (List.set (mmC (atZ l (i:Int))) 2 (iP (atZ to ((atZ l (i:Int)).1.lo - 1)))))[i]?=some (mmC ((⟨(atZ l (i:Int)).1.kind,(atZ l (i:Int)).1.index,atZ to ((atZ l (i:Int)).1.lo - 1),(atZ l (i:Int)).1.hi⟩,(atZ l (i:Int)).2):Mm)) from set_at (r:=mmC (atZ l (i:Int))) (getmap (ren_at hi))) Y hd) ?_;refine aa (c:=g6) ?_;refine ay (z:=show (atZ l (i:Int)).1.hi - 1=(((atZ l (i:Int)).1.hi - 1).toNat:Int) by omega) (c:=(getmap (f:=fun x=>[iP x]) (atZ_in g3 g4 rfl))) ?_;refine qg 3 ?_;refine ro0 Y Y Y (fun hd=>opE_storeE (i:=i) (j:=3) tab_ok Y Y Y Y Y Y Y (show (List.set (((l.take i).map (renM to)++l.drop i).map mmC) i (List.set (mmC (atZ l (i:Int))) 2 (iP (atZ to ((atZ l (i:Int)).1.lo - 1)))))[i]?=some (mmC ((⟨(atZ l (i:Int)).1.kind,(atZ l (i:Int)).1.index,atZ to ((atZ l (i:Int)).1.lo - 1),(atZ l (i:Int)).1.hi⟩,(atZ l (i:Int)).2):Mm)) from set_at (r:=mmC (atZ l (i:Int))) (getmap (ren_at hi))) Y Y Y Y Y) ?_;refine aa (c:=ari_succ (by show i≤_;omega)) ?_;refine au ?_;exact pe ⟨i+1,hi⟩ (c5 Y Y Y Y Y trivial) (ai (congrArg (fun x=>some (Res.tok _ _ _ x)) (((congrArg (fun x=>List.set x i _) (mm_set ((⟨(atZ l (i:Int)).1.kind,(atZ l (i:Int)).1.index,atZ to ((atZ l (i:Int)).1.lo - 1),(atZ l (i:Int)).1.hi⟩,(atZ l (i:Int)).2):Mm) Y)).trans ((mm_set (renM to (atZ l (i:Int))) (by rw[show renM to (atZ l (i:Int))=(⟨(atZ l (i:Int)).1.kind,(atZ l (i:Int)).1.index,atZ to ((atZ l (i:Int)).1.lo - 1),atZ to ((atZ l (i:Int)).1.hi - 1)⟩,(atZ l (i:Int)).2) from (by unfold renM reN;(try simp only[List.length_map] at *);simp only[e24,e32,e49,e57,sb])];rfl)).trans (by rw[List.set_set]))).trans (congrArg (List.map mmC) (ren_step hi)))) trivial) Y (by show l.length - (i+1) < l.length - i;omega)
     ·refine aa (c:=ari_succ (by show i≤_;omega)) ?_;refine au ?_;exact pe ⟨i+1,hi⟩ (c5 Y Y Y Y Y trivial) (ai (congrArg (fun x=>some (Res.tok _ _ _ x)) ((mm_set (renM to (atZ l (i:Int))) (by rw[show renM to (atZ l (i:Int))=((⟨(atZ l (i:Int)).1.kind,(atZ l (i:Int)).1.index,atZ to ((atZ l (i:Int)).1.lo - 1),(atZ l (i:Int)).1.hi⟩,(atZ l (i:Int)).2):Mm) from (by unfold renM reN;(try simp only[List.length_map] at *);simp only[e24,e32,e49,e57,sb])];rfl)).trans (congrArg (List.map mmC) (ren_step hi)))) trivial) Y (by show l.length - (i+1) < l.length - i;omega)
    ·refine aa (c:=ari_succ (by show i≤_;omega)) ?_;refine au ?_;exact pe ⟨i+1,hi⟩ (c5 Y Y Y Y Y trivial) (ai (congrArg (fun x=>some (Res.tok _ _ _ x)) ((mm_set (renM to (atZ l (i:Int))) (by rw[show renM to (atZ l (i:Int))=((⟨(atZ l (i:Int)).1.kind,(atZ l (i:Int)).1.index,atZ to ((atZ l (i:Int)).1.lo - 1),(atZ l (i:Int)).1.hi⟩,(atZ l (i:Int)).2):Mm) from (by unfold renM reN;(try simp only[List.length_map] at *);simp only[e24,e32,e49,sb])];rfl)).trans (congrArg (List.map mmC) (ren_step hi)))) trivial) Y (by show l.length - (i+1) < l.length - i;omega)
   ·refine pk (pr0 (qg 3 ?_));refine ro0 Y Y Y (fun hd=>opE_loadE (i:=i) (j:=3) tab_ok Y Y Y Y Y Y (getmap (ren_at hi)) Y hd) ?_;refine a2 (fun e49=>?_) (fun e49=>?_)
    ·have g3:1≤(atZ l (i:Int)).1.hi:=of_decide_eq_true e49;refine qg 3 ?_;refine ro0 Y Y Y (fun hd=>opE_loadE (i:=i) (j:=3) tab_ok Y Y Y Y Y Y (getmap (ren_at hi)) Y hd) ?_;refine a2 (fun e57=>?_) (fun e57=>?_)
     ·have g4:(atZ l (i:Int)).1.hi≤(to.length:Int):=by have:=of_decide_eq_true e57;rw[List.length_map] at this;exact this
      have g6:ariO .sub .i64 (atZ l (i:Int)).1.hi 1=some ((atZ l (i:Int)).1.hi - 1):=ari_sub om om om om;refine pr0' (qg 5 ?_);refine ro0 Y Y Y (fun hd=>opE_loadE (i:=i) (j:=3) tab_ok Y Y Y Y Y Y (getmap (ren_at hi)) Y hd) ?_;refine aa (c:=g6) ?_;refine ay (z:=show (atZ l (i:Int)).1.hi - 1=(((atZ l (i:Int)).1.hi - 1).toNat:Int) by omega) (c:=(getmap (f:=fun x=>[iP x]) (atZ_in g3 g4 rfl))) ?_;refine qg 3 ?_;refine ro0 Y Y Y (fun hd=>opE_storeE (i:=i) (j:=3) tab_ok Y Y Y Y Y Y Y (getmap (ren_at hi)) Y Y Y Y Y) ?_;refine aa (c:=ari_succ (by show i≤_;omega)) ?_;refine au ?_;exact pe ⟨i+1,hi⟩ (c5 Y Y Y Y Y trivial) (ai (congrArg (fun x=>some (Res.tok _ _ _ x)) ((mm_set (renM to (atZ l (i:Int))) (by rw[show renM to (atZ l (i:Int))=(⟨(atZ l (i:Int)).1.kind,(atZ l (i:Int)).1.index,(atZ l (i:Int)).1.lo,atZ to ((atZ l (i:Int)).1.hi - 1)⟩,(atZ l (i:Int)).2) from (by unfold renM reN;(try simp only[List.length_map] at *);simp only[e24,e32,e49,e57,sb])];rfl)).trans (congrArg (List.map mmC) (ren_step hi)))) trivial) Y (by show l.length - (i+1) < l.length - i;omega)
     ·refine aa (c:=ari_succ (by show i≤_;omega)) ?_;refine au ?_;exact pe ⟨i+1,hi⟩ (c5 Y Y Y Y Y trivial) (ai (congrArg (fun x=>some (Res.tok _ _ _ x)) ((mm_same (ren_at hi) (renM to (atZ l (i:Int))) (by unfold renM reN;(try simp only[List.length_map] at *);simp only[e24,e32,e49,e57,sb])).trans (congrArg (List.map mmC) (ren_step hi)))) trivial) Y (by show l.length - (i+1) < l.length - i;omega)
    ·refine aa (c:=ari_succ (by show i≤_;omega)) ?_;refine au ?_;exact pe ⟨i+1,hi⟩ (c5 Y Y Y Y Y trivial) (ai (congrArg (fun x=>some (Res.tok _ _ _ x)) ((mm_same (ren_at hi) (renM to (atZ l (i:Int))) (by unfold renM reN;(try simp only[List.length_map] at *);simp only[e24,e32,e49,sb])).trans (congrArg (List.map mmC) (ren_step hi)))) trivial) Y (by show l.length - (i+1) < l.length - i;omega)
  ·refine qg 8 ?_;refine rn Y (pj Y ?_);refine pk (pr0 (qg 3 ?_));refine ro0 Y Y Y (fun hd=>opE_loadE (i:=i) (j:=3) tab_ok Y Y Y Y Y Y (getmap (ren_at hi)) Y hd) ?_;refine a2 (fun e49=>?_) (fun e49=>?_)
   ·have g3:1≤(atZ l (i:Int)).1.hi:=of_decide_eq_true e49;refine qg 3 ?_;refine ro0 Y Y Y (fun hd=>opE_loadE (i:=i) (j:=3) tab_ok Y Y Y Y Y Y (getmap (ren_at hi)) Y hd) ?_;refine a2 (fun e57=>?_) (fun e57=>?_)
    ·have g4:(atZ l (i:Int)).1.hi≤(to.length:Int):=by have:=of_decide_eq_true e57;rw[List.length_map] at this;exact this
     have g6:ariO .sub .i64 (atZ l (i:Int)).1.hi 1=some ((atZ l (i:Int)).1.hi - 1):=ari_sub om om om om;refine pr0' (qg 5 ?_);refine ro0 Y Y Y (fun hd=>opE_loadE (i:=i) (j:=3) tab_ok Y Y Y Y Y Y (getmap (ren_at hi)) Y hd) ?_;refine aa (c:=g6) ?_;refine ay (z:=show (atZ l (i:Int)).1.hi - 1=(((atZ l (i:Int)).1.hi - 1).toNat:Int) by omega) (c:=(getmap (f:=fun x=>[iP x]) (atZ_in g3 g4 rfl))) ?_;refine qg 3 ?_;refine ro0 Y Y Y (fun hd=>opE_storeE (i:=i) (j:=3) tab_ok Y Y Y Y Y Y Y (getmap (ren_at hi)) Y Y Y Y Y) ?_;refine aa (c:=ari_succ (by show i≤_;omega)) ?_;refine au ?_;exact pe ⟨i+1,hi⟩ (c5 Y Y Y Y Y trivial) (ai (congrArg (fun x=>some (Res.tok _ _ _ x)) ((mm_set (renM to (atZ l (i:Int))) (by rw[show renM to (atZ l (i:Int))=(⟨(atZ l (i:Int)).1.kind,(atZ l (i:Int)).1.index,(atZ l (i:Int)).1.lo,atZ to ((atZ l (i:Int)).1.hi - 1)⟩,(atZ l (i:Int)).2) from (by unfold renM reN;(try simp only[List.length_map] at *);simp only[e24,e49,e57,sb])];rfl)).trans (congrArg (List.map mmC) (ren_step hi)))) trivial) Y (by show l.length - (i+1) < l.length - i;omega)
    ·refine aa (c:=ari_succ (by show i≤_;omega)) ?_;refine au ?_;exact pe ⟨i+1,hi⟩ (c5 Y Y Y Y Y trivial) (ai (congrArg (fun x=>some (Res.tok _ _ _ x)) ((mm_same (ren_at hi) (renM to (atZ l (i:Int))) (by unfold renM reN;(try simp only[List.length_map] at *);simp only[e24,e49,e57,sb])).trans (congrArg (List.map mmC) (ren_step hi)))) trivial) Y (by show l.length - (i+1) < l.length - i;omega)
   ·refine aa (c:=ari_succ (by show i≤_;omega)) ?_;refine au ?_;exact pe ⟨i+1,hi⟩ (c5 Y Y Y Y Y trivial) (ai (congrArg (fun x=>some (Res.tok _ _ _ x)) ((mm_same (ren_at hi) (renM to (atZ l (i:Int))) (by unfold renM reN;(try simp only[List.length_map] at *);simp only[e24,e49,sb])).trans (congrArg (List.map mmC) (ren_step hi)))) trivial) Y (by show l.length - (i+1) < l.length - i;omega)
 ·have hj:l.length≤i:=by have h:¬(i:Int) < (l.length:Int):=of_decide_eq_false e13;omega
  exact ar (c:=congrArg mmsP (by rw[List.take_of_length_le hj,List.drop_of_length_le hj,List.append_nil]))
def shN (by_:Nat) (x:Int):Int:=bif decide (x > 0) then x+(by_:Int) else x
def shM (by_:Nat) (m:Mm):Mm:=(⟨m.1.kind,m.1.index,shN by_ m.1.lo,shN by_ m.1.hi⟩,m.2)
theorem sh_at {b:Nat} {l:List Mm} {i:Nat} (hi:i < l.length):((l.take i).map (shM b)++l.drop i)[i]?=some (atZ l (i:Int)):=by
 rw[List.getElem?_append_right (by simp;omega)];simp only[List.length_map,List.length_take,Nat.min_eq_left (Nat.le_of_lt hi),Nat.sub_self];rw[List.getElem?_drop,Nat.add_zero,get_of hi]
theorem sh_step {b:Nat} {l:List Mm} {i:Nat} (hi:i < l.length):((l.take i).map (shM b)++l.drop i).set i (shM b (atZ l (i:Int)))=(l.take (i+1)).map (shM b)++l.drop (i+1):=by
 have h1:((l.take i).map (shM b)).length=i:=by simp;omega
 rw[List.set_append_right _ _ om,h1,Nat.sub_self,List.drop_eq_getElem_cons hi,List.set_cons_zero,List.take_add_one,get_of hi];simp
theorem shM0 (m:Mm):shM 0 m=m:=by
 obtain⟨⟨k,i,lo,hi⟩,q⟩:=m;simp[shM,shN]
theorem p_shifted {l:List Mm} {b:Nat} (h9:l.length≤1000000) (hb:b≤1000000) (hm:∀m∈l,m.1.lo≤1000000∧m.1.hi≤1000000):PCalls Tryz.prog [] 289 [mmsP l,iP b] (mmsP (l.map (shM b))):=by
 refine pcA [98] Tryz.func289 (fun D=>?_);refine pa Y Y (pr0 (qg 1 ?_));refine rcn0 9 (p_cloneM h9) Y Y Y Y Y Y Y Y ?_;refine au ?_;refine pl (ι:={i:Nat // i≤l.length}) (fun i=>[(1,.pv (iP (b:Int))),(4,.nil 98 7 [200]),(5,.tok 9),(11,.pv (iP (l.length:Int))),(12,.pv (iP i.1))]) (fun i=>[(9,.tok 98 7 [200] (((l.take i.1).map (shM b)++l.drop i.1).map mmC))]) [98] (fun i=>l.length - i.1) ⟨0,nq _⟩ (c3 Y Y Y (ai (congrArg (fun n:Nat=>some (SV.pv (iP (n:Int)))) (List.length_map ..)) (ai Y trivial))) (ai Y trivial) (fun _=>rfl) ?_;intro ⟨i,hi0⟩;refine a2 (fun e13=>?_) (fun e13=>?_)
 ·have hi:i < l.length:=by have h:(i:Int) < (l.length:Int):=of_decide_eq_true e13;omega
  obtain⟨m1,m2⟩:=hm _ (atZ_mem (z:=(i:Int)) om om);refine pk (ps (pb ?_));refine pa Y Y (pr0 (qg 2 ?_));refine ro0 Y Y Y (fun hd=>opE_idxE (i:=i) tab_ok Y Y Y Y Y Y dx Y (getmap (sh_at hi)) hd) ?_;refine qg 2 ?_;refine rn Y (ps (pr0 (qg 3 ?_)));refine ro0 Y Y Y (fun hd=>opE_loadE (i:=i) (j:=2) tab_ok Y Y Y Y Y Y (getmap (sh_at hi)) Y hd) ?_;refine a2 (fun e23=>?_) (fun e23=>?_)
  ·have g1:(atZ l (i:Int)).1.lo > 0:=of_decide_eq_true e23;have g5:ariO .add .i64 (atZ l (i:Int)).1.lo (b:Int)=some ((atZ l (i:Int)).1.lo+(b:Int)):=ari_add om om om om;refine pr0' (qg 3 ?_);refine ro0 Y Y Y (fun hd=>opE_loadE (i:=i) (j:=2) tab_ok Y Y Y Y Y Y (getmap (sh_at hi)) Y hd) ?_;refine aa (c:=g5) ?_;refine qg 2 ?_;refine ro0 Y Y Y (fun hd=>opE_storeE (i:=i) (j:=2) tab_ok Y Y Y Y Y Y Y (getmap (sh_at hi)) Y Y Y Y Y) ?_;refine rn Y (pr0 (qg 3 ?_));refine ro0 Y Y Y (fun hd=>opE_loadE (i:=i) (j:=3) tab_ok Y Y Y Y Y Y (show (List.set (((l.take i).map (shM b)++l.drop i).map mmC) i (List.set (mmC (atZ l (i:Int))) 2 (iP ((atZ l (i:Int)).1.lo+(b:Int)))))[i]?=some (mmC ((⟨(atZ l (i:Int)).1.kind,(atZ l (i:Int)).1.index,(atZ l (i:Int)).1.lo+(b:Int),(atZ l (i:Int)).1.hi⟩,(atZ l (i:Int)).2):Mm)) from set_at (r:=mmC (atZ l (i:Int))) (getmap (sh_at hi))) Y hd) ?_;refine a2 (fun e36=>?_) (fun e36=>?_)
   ·have g3:(atZ l (i:Int)).1.hi > 0:=of_decide_eq_true e36;have g6:ariO .add .i64 (atZ l (i:Int)).1.hi (b:Int)=some ((atZ l (i:Int)).1.hi+(b:Int)):=ari_add om om om om;refine pr0' (qg 3 ?_);refine ro0 Y Y Y (fun hd=>opE_loadE (i:=i) (j:=3) tab_ok Y Y Y Y Y Y (show (List.set (((l.take i).map (shM b)++l.drop i).map mmC) i (List.set (mmC (atZ l (i:Int))) 2 (iP ((atZ l (i:Int)).1.lo+(b:Int)))))[i]?=some (mmC ((⟨(atZ l (i:Int)).1.kind,(atZ l (i:Int)).1.index,(atZ l (i:Int)).1.lo+(b:Int),(atZ l (i:Int)).1.hi⟩,(atZ l (i:Int)).2):Mm)) from set_at (r:=mmC (atZ l (i:Int))) (getmap (sh_at hi))) Y hd) ?_;refine aa (c:=g6) ?_;refine qg 2 ?_;refine ro0 Y Y Y (fun hd=>opE_storeE (i:=i) (j:=3) tab_ok Y Y Y Y Y Y Y (show (List.set (((l.take i).map (shM b)++l.drop i).map mmC) i (List.set (mmC (atZ l (i:Int))) 2 (iP ((atZ l (i:Int)).1.lo+(b:Int)))))[i]?=some (mmC ((⟨(atZ l (i:Int)).1.kind,(atZ l (i:Int)).1.index,(atZ l (i:Int)).1.lo+(b:Int),(atZ l (i:Int)).1.hi⟩,(atZ l (i:Int)).2):Mm)) from set_at (r:=mmC (atZ l (i:Int))) (getmap (sh_at hi))) Y Y Y Y Y) ?_;refine aa (c:=ari_succ (by show i≤_;omega)) ?_;refine au ?_;exact pe ⟨i+1,hi⟩ (c5 Y Y Y Y Y trivial) (ai (congrArg (fun x=>some (Res.tok _ _ _ x)) (((congrArg (fun x=>List.set x i _) (mm_set ((⟨(atZ l (i:Int)).1.kind,(atZ l (i:Int)).1.index,(atZ l (i:Int)).1.lo+(b:Int),(atZ l (i:Int)).1.hi⟩,(atZ l (i:Int)).2):Mm) Y)).trans ((mm_set (shM b (atZ l (i:Int))) (by rw[show shM b (atZ l (i:Int))=(⟨(atZ l (i:Int)).1.kind,(atZ l (i:Int)).1.index,(atZ l (i:Int)).1.lo+(b:Int),(atZ l (i:Int)).1.hi+(b:Int)⟩,(atZ l (i:Int)).2) from (by unfold shM shN;simp only[e23,e36,sb])];rfl)).trans (by rw[List.set_set]))).trans (congrArg (List.map mmC) (sh_step hi)))) trivial) Y (by show l.length - (i+1) < l.length - i;omega)
   ·refine aa (c:=ari_succ (by show i≤_;omega)) ?_;refine au ?_;exact pe ⟨i+1,hi⟩ (c5 Y Y Y Y Y trivial) (ai (congrArg (fun x=>some (Res.tok _ _ _ x)) ((mm_set (shM b (atZ l (i:Int))) (by rw[show shM b (atZ l (i:Int))=((⟨(atZ l (i:Int)).1.kind,(atZ l (i:Int)).1.index,(atZ l (i:Int)).1.lo+(b:Int),(atZ l (i:Int)).1.hi⟩,(atZ l (i:Int)).2):Mm) from (by unfold shM shN;simp only[e23,e36,sb])];rfl)).trans (congrArg (List.map mmC) (sh_step hi)))) trivial) Y (by show l.length - (i+1) < l.length - i;omega)
  ·refine pk (pr0 (qg 3 ?_));refine ro0 Y Y Y (fun hd=>opE_loadE (i:=i) (j:=3) tab_ok Y Y Y Y Y Y (getmap (sh_at hi)) Y hd) ?_;refine a2 (fun e36=>?_) (fun e36=>?_)
   ·have g3:(atZ l (i:Int)).1.hi > 0:=of_decide_eq_true e36;have g6:ariO .add .i64 (atZ l (i:Int)).1.hi (b:Int)=some ((atZ l (i:Int)).1.hi+(b:Int)):=ari_add om om om om;refine pr0' (qg 3 ?_);refine ro0 Y Y Y (fun hd=>opE_loadE (i:=i) (j:=3) tab_ok Y Y Y Y Y Y (getmap (sh_at hi)) Y hd) ?_;refine aa (c:=g6) ?_;refine qg 2 ?_;refine ro0 Y Y Y (fun hd=>opE_storeE (i:=i) (j:=3) tab_ok Y Y Y Y Y Y Y (getmap (sh_at hi)) Y Y Y Y Y) ?_;refine aa (c:=ari_succ (by show i≤_;omega)) ?_;refine au ?_;exact pe ⟨i+1,hi⟩ (c5 Y Y Y Y Y trivial) (ai (congrArg (fun x=>some (Res.tok _ _ _ x)) ((mm_set (shM b (atZ l (i:Int))) (by rw[show shM b (atZ l (i:Int))=(⟨(atZ l (i:Int)).1.kind,(atZ l (i:Int)).1.index,(atZ l (i:Int)).1.lo,(atZ l (i:Int)).1.hi+(b:Int)⟩,(atZ l (i:Int)).2) from (by unfold shM shN;simp only[e23,e36,sb])];rfl)).trans (congrArg (List.map mmC) (sh_step hi)))) trivial) Y (by show l.length - (i+1) < l.length - i;omega)
   ·refine aa (c:=ari_succ (by show i≤_;omega)) ?_;refine au ?_;exact pe ⟨i+1,hi⟩ (c5 Y Y Y Y Y trivial) (ai (congrArg (fun x=>some (Res.tok _ _ _ x)) ((mm_same (sh_at hi) (shM b (atZ l (i:Int))) (by unfold shM shN;simp only[e23,e36,sb])).trans (congrArg (List.map mmC) (sh_step hi)))) trivial) Y (by show l.length - (i+1) < l.length - i;omega)
 ·have hj:l.length≤i:=by have h:¬(i:Int) < (l.length:Int):=of_decide_eq_false e13;omega
  exact ar (c:=congrArg mmsP (by rw[List.take_of_length_le hj,List.drop_of_length_le hj,List.append_nil]))
def lfC (x:En):List PV:=[lmsP x.lems,iP 0,iP 0,bP false,.nat 0,.nat 0,.rows 46 9 ndT [],bP x.empty,mmsP x.proof]
theorem p_sproves {q:Qr} {x:En} {a b:Nat} (h:(x.sc q).Va a b) (hx:EnOk x) (hg:q.goal.S 100 8):PCalls Tryz.prog TF 288 [scP (x.sc q),.agg (lfC x)] (bP (appliesR q x)):=by
 refine pcA [85,46] Tryz.func288 (fun D=>?_);refine ac (c:=p_scopeD (s:=x.sc q) h hx.lems) ?_;refine a2 (fun e7=>?_) (fun e7=>?_)
 ·replace e7:=not_t e7;exact ar (c:=by (try simp only[List.length_map] at *);simp only[appliesR,e7,sb]<;>rfl)
 ·replace e7:=not_f e7;refine a2 (fun e9=>?_) (fun e9=>?_)
  ·refine ac (c:=p_refutes (s:=x.sc q) h hx.proof) ?_;exact ar (c:=by (try simp only[List.length_map] at *);simp only[appliesR,e7,e9,sb]<;>rfl)
  ·refine ac (c:=p_proves (s:=x.sc q) h hg h.q.ok (by have:=h.n9;show q.g.inputs+q.g.units.length≤_;have:q.g.inputs+q.g.units.length≤8:=h.n9;omega) hx.proof) ?_;exact ar (c:=by (try simp only[List.length_map] at *);simp only[appliesR,e7,e9,sb]<;>rfl)
def Ob (w:World) (b:Nat) (o:Obj):Prop:=w.heap[b]?=some o
section
variable {w w':World} {b:Nat} {o:Obj}
theorem Ob.made (w:World) (o:Obj):Ob (w.alloc o) w.heap.size o:=heap_alloc_new w o
theorem Ob.lt (h:Ob w b o):b < w.heap.size:=by
 rcases Nat.lt_or_ge b w.heap.size with h1 | h1
 ·exact h1
 ·unfold Ob at h;rw[Array.getElem?_eq_none h1] at h;cases h
theorem Ob.gr (h:Ob w b o) (G:Gr w w'):Ob w' b o:=(G.below.block b h.lt).trans h
theorem Ob.fr (h:Ob w b o) {X:Nat→Prop} (F:Fr X w w') (hx:¬X b):Ob w' b o:=(F.keep b h.lt hx).trans h
def putObj (w:World) (r:Nat) (o:Obj):World:={ w with heap:=w.heap.setIfInBounds r o }
theorem putObj.fr (w:World) (r:Nat) (o:Obj):Fr (fun b=>b=r) w (putObj w r o):=by
 refine⟨⟨rfl,rfl,rfl,by simp[putObj],fun b hb=>absurd hb (Nat.not_lt_zero b)⟩,fun b hb hx=>?_⟩;simp only[putObj];rw[Array.getElem?_setIfInBounds_ne (fun e=>hx e.symm)]
theorem putObj.ob {w:World} {r:Nat} {o o':Obj} (h:Ob w r o):Ob (putObj w r o') r o':=by
 have:=h.lt;unfold Ob putObj;simp[this]
end
section
variable {P:Program} {w:World} {r:Nat}
theorem look0 {t kt et:TypeId} {c:Nat} {s:ByteArray} {z:Value} (hm:P.underlying t=some (.map kt et)) (hk:P.underlying kt=some .string) (hz:(P.info? et).map (fun i=>i.zero)=some (some z)) (hb:Ob w r (.map #[] c)):
  (Instr.lookup t (.map (some r)) (.string s) false).run P w=.ok z w:=by
 obtain⟨i,hi,hz'⟩:=Option.map_eq_some_iff.1 hz;have hf:Instr.findNow .string (.string s) ([]:List MapEntry) 0=some none:=rfl;have hc:(Instr.checkKey true 10000 kt (.string s)).run P w=.ok () w:=MapKept.run_checkKey (k:=.string s) hk (by simp[MapKept.IsKey]) true 9999;simp[Instr.lookup,run_underlying hm,MapKept.run_getObj_map hb,hc,MapKept.run_findKey hk hf,Result.andThen,zeroValue,typeInfo,hi,hz']
theorem look1 {t kt et:TypeId} {c d:Nat} {s:ByteArray} {v:Value} (hs:(s == s)=true) (hm:P.underlying t=some (.map kt et)) (hk:P.underlying kt=some .string) (hb:Ob w r (.map #[{ key:=.string s,val:=v,born:=d }] c)):
  (Instr.lookup t (.map (some r)) (.string s) false).run P w=.ok v w:=by
 have hf:Instr.findNow .string (.string s) [({ key:=.string s,val:=v,born:=d }:MapEntry)] 0=some (some (0,v)):=by simp[Instr.findNow,Instr.sameNow,hs]
 have hc:(Instr.checkKey false 10000 kt (.string s)).run P w=.ok () w:=MapKept.run_checkKey (k:=.string s) hk (by simp[MapKept.IsKey]) false 9999;simp[Instr.lookup,run_underlying hm,MapKept.run_getObj_map hb,hc,MapKept.run_findKey hk hf,Result.andThen]
theorem upd0 {t kt et:TypeId} {c:Nat} {s:ByteArray} {v:Value} (hm:P.underlying t=some (.map kt et)) (hk:P.underlying kt=some .string) (hb:Ob w r (.map #[] c)):
  (Instr.mapUpdate t (.map (some r)) (.string s) v).run P w=.ok () (putObj w r (.map #[{ key:=.string s,val:=v,born:=c }] (c+1))):=run_mapUpdate_first w t kt et r c s v hm hk hb
end
section
variable {α β:Type} {cs:β→List Value} {Is:World→β→α→Prop} {e k:Nat} {w w':World} {B:Nat} {x:Sv} {xs:List α}
theorem Own.push (hz:Own cs Is e k w B x xs) {b:β} {u:α} {v':Value} (ts:List (β×α)) (hl:xs=ts.map (·.2)) (hts:∀p∈ts,Is w p.1 p.2) (hb:Is w b u) (h:w'.ownsRow B e k v' (x.n+1) ((ts.flatMap fun p=>cs p.1)++cs b)) (hI:∀p a,Is w p a→Is w' p a):
  ∃y:Sv,v'=y.v∧y.n=x.n+1∧Own cs Is e k w' B y (xs++[u]):=by
 obtain⟨A,c,rfl⟩:=rw_form h;refine⟨⟨A,x.n+1,c⟩,rfl,rfl,ts++[(b,u)],?_,?_,?_⟩
 ·rw[List.flatMap_append];simpa using h
 ·rw[hl,List.map_append];rfl
 ·intro p hp;rcases List.mem_append.1 hp with hp | hp
  ·exact hI _ _ (hts p hp)
  ·rw[mj hp];exact hI _ _ hb
theorem Own.app1 {P:Program} {t bytes:Nat} (h:ElemS P t e k bytes) {o:Oper} {a:Act} {K:Act→World→Prop} {Q:Exit→Act→World→Prop} (s xo:Operand) (ho:o.op=.call { callee:=.builtin .append,args:=#[s,xo],argTypes:=#[t,t] }) (hs:a.eval s=x.v) (hz:Own cs Is e k w B x xs) (ad:Addr) (c:Nat) (b:β) (u:α)
  (hx:a.eval xo=.slice (some ad) 1 c) (hb:Is w b u) (hlen:(cs b).length=k) (hcell:∀j v,(cs b)[j]?=some v→w.cell? (ad.add j)=some v) (h1:∀v∈cs b,v.oneCell'=true) (h63:x.n+1≤maxLen) (hbytes:(x.n+1)*bytes≤140737488355328) (hB:B≤w.heap.size) (hI:∀w',Fr (fun b=>(x.v).ownBlock=some b) w w'→∀p a,Is w p a→Is w' p a)
  (hK:∀(y:Sv) (w':World),y.n=x.n+1→Own cs Is e k w' B y (xs++[u])→Fr (fun b=>(x.v).ownBlock=some b) w w'→K (a.put o.dst y.v) w'):o.wp P a w K Q:=by
 obtain⟨i,z,hi,hzz,hsz,hby,hzs⟩:=h.hi;have hz':=hz;obtain⟨ts,t1,t2,t3⟩:=hz';obtain⟨v',w',hrun,h2,h3,_,h5⟩:=run_append_own_at (P:=P) w B t o.type e i z k bytes h.ht hi hzz hsz hby hzs h.pos _ x.n _ t1 ad 1 c (cs b) (by rw[hlen,Nat.one_mul]) hcell h1 h63 hbytes hB;have F:=fr_own0 h3;obtain⟨y,rfl,hyn,hy⟩:=hz.push ts t2 t3 hb h2 (hI w' F);unfold Oper.wp execOp;simp only[ho,resolve,invoke,builtin,Sem.run_bind,Sem.run_pure,Result.andThen_ok,List.map_toArray,List.map_cons,List.map_nil,hs,hx,hrun];exact hK y w' hyn hy F
end
section
attribute [local go_sem] Oper.semAt_some
theorem Bk.c1 {w:World} {p t:Nat} {a:Value} (h:Bk w p t #[a]):w.cell? ⟨p,0,none⟩=some a:=h.cell 0
end
theorem Bk.c10 {w:World} {p t:Nat} {a b c d e f g h i j:Value} (hh:Bk w p t #[a,b,c,d,e,f,g,h,i,j]):w.cell? ⟨p,0,none⟩=some a∧w.cell? ⟨p,1,none⟩=some b∧w.cell? ⟨p,2,none⟩=some c∧w.cell? ⟨p,3,none⟩=some d∧w.cell? ⟨p,4,none⟩=some e∧w.cell? ⟨p,5,none⟩=some f∧w.cell? ⟨p,6,none⟩=some g∧w.cell? ⟨p,7,none⟩=some h∧w.cell? ⟨p,8,none⟩=some i∧w.cell? ⟨p,9,none⟩=some j:=⟨hh.cell 0,hh.cell 1,hh.cell 2,hh.cell 3,hh.cell 4,hh.cell 5,hh.cell 6,hh.cell 7,hh.cell 8,hh.cell 9⟩
theorem Bk.c12 {w:World} {p t:Nat} {a b c d e f g h i j k l:Value} (hh:Bk w p t #[a,b,c,d,e,f,g,h,i,j,k,l]):w.cell? ⟨p,0,none⟩=some a∧w.cell? ⟨p,1,none⟩=some b∧w.cell? ⟨p,2,none⟩=some c∧w.cell? ⟨p,3,none⟩=some d∧w.cell? ⟨p,4,none⟩=some e∧w.cell? ⟨p,5,none⟩=some f∧w.cell? ⟨p,6,none⟩=some g∧w.cell? ⟨p,7,none⟩=some h∧w.cell? ⟨p,8,none⟩=some i∧w.cell? ⟨p,9,none⟩=some j∧w.cell? ⟨p,10,none⟩=some k∧w.cell? ⟨p,11,none⟩=some l:=⟨hh.cell 0,hh.cell 1,hh.cell 2,hh.cell 3,hh.cell 4,hh.cell 5,hh.cell 6,hh.cell 7,hh.cell 8,hh.cell 9,hh.cell 10,hh.cell 11⟩
section
attribute [local go_sem] Oper.semAt_some
theorem Bk.put10 {w:World} {p t:Nat} {a b c d e f g h i j:Value} (hh:Bk w p t #[a,b,c,d,e,f,g,h,i,j]) (x0 x1 x2 x3 x4 x5 x6 x7 x8 x9:Value):Bk ((((((((((w.setCell ⟨p,0,none⟩ x0).setCell ⟨p,1,none⟩ x1).setCell ⟨p,2,none⟩ x2).setCell ⟨p,3,none⟩ x3).setCell ⟨p,4,none⟩ x4).setCell ⟨p,5,none⟩ x5).setCell ⟨p,6,none⟩ x6).setCell ⟨p,7,none⟩ x7).setCell ⟨p,8,none⟩ x8).setCell ⟨p,9,none⟩ x9) p t #[x0,x1,x2,x3,x4,x5,x6,x7,x8,x9]∧Fr (fun b=>b=p) w ((((((((((w.setCell ⟨p,0,none⟩ x0).setCell ⟨p,1,none⟩ x1).setCell ⟨p,2,none⟩ x2).setCell ⟨p,3,none⟩ x3).setCell ⟨p,4,none⟩ x4).setCell ⟨p,5,none⟩ x5).setCell ⟨p,6,none⟩ x6).setCell ⟨p,7,none⟩ x7).setCell ⟨p,8,none⟩ x8).setCell ⟨p,9,none⟩ x9):=by
 refine⟨?_,((((((((((Fr.set w ⟨p,0,none⟩ x0 rfl:Fr (fun b=>b=p) w _)).trans (Fr.set _ ⟨p,1,none⟩ x1 rfl)).trans (Fr.set _ ⟨p,2,none⟩ x2 rfl)).trans (Fr.set _ ⟨p,3,none⟩ x3 rfl)).trans (Fr.set _ ⟨p,4,none⟩ x4 rfl)).trans (Fr.set _ ⟨p,5,none⟩ x5 rfl)).trans (Fr.set _ ⟨p,6,none⟩ x6 rfl)).trans (Fr.set _ ⟨p,7,none⟩ x7 rfl)).trans (Fr.set _ ⟨p,8,none⟩ x8 rfl)).trans (Fr.set _ ⟨p,9,none⟩ x9 rfl)⟩;have:=((((((((((Bk.put hh 0 x0).put 1 x1).put 2 x2).put 3 x3).put 4 x4).put 5 x5).put 6 x6).put 7 x7).put 8 x8).put 9 x9);simpa using this
def NoX:Nat→Prop:=fun _=>False
theorem PCalls.raw {P:Program} {T:List Nat} {f:FuncId} {args:List PV} {res:PV} (h:PCalls P T f args res) {w:World} {us:List Value} (hr:PV.RepL w NoX args us):Calls P f us.toArray w fun e w'=>∃v,e=.returned v∧res.Rep w' NoX v∧Gr w w':=
 h.2 w NoX us (fun _ h=>h.elim) (fun _ _ _ _ h=>h.elim) hr
theorem PCallsG.raw {P:Program} {T:List Nat} {f:FuncId} {args:List PV} {res:PV} (h:PCallsG P T f args res) {w:World} {us:List Value} (hw:LaidG w) (hr:PV.RepL w NoX args us):Calls P f us.toArray w fun e w'=>∃v,e=.returned v∧res.Rep w' NoX v∧Gr w w':=
 h.2 w NoX us hw (fun _ h=>h.elim) (fun _ _ _ _ h=>h.elim) hr
theorem rep_agg {w:World} {X:Nat→Prop} {cs:List PV} {us:List Value} (h:PV.RepL w X cs us):(PV.agg cs).Rep w X (.agg us.toArray):=by rw[PV.Rep];exact⟨us,rfl,h⟩
theorem PV.RepL.gr {w w':World} {X:Nat→Prop} {cs:List PV} {us:List Value} (h:PV.RepL w X cs us) (G:Gr w w'):PV.RepL w' X cs us:=h.still (Still.gr G X _)
theorem PV.Rep.gr {w w':World} {X:Nat→Prop} {c:PV} {u:Value} (h:c.Rep w X u) (G:Gr w w'):c.Rep w' X u:=h.still (Still.gr G X _)
theorem still_fr {w w':World} {Y:Nat→Prop} {ts:List Nat} (F:Fr Y w w') (hY:∀b cs t fr,Y b→w.heap[b]?=some (.cells cs t fr)→t ∉ ts):Still w w' NoX NoX ts:=
 ⟨F.size,fun b cs t fr _ hh ht=>⟨F.keep b (by
  rcases Nat.lt_or_ge b w.heap.size with h | h
  ·exact h
  ·rw[Array.getElem?_eq_none h] at hh;cases hh) (fun hy=>hY b cs t fr hy hh ht),fun h=>h⟩⟩
structure Qs where
 (i:Int) (a b c d e f:Sv) (s:Bool) (h k:Sv)
def Qi (w:World) (x:Qr) (q:Qs):Prop:=PV.RepL w NoX (qyC x) [.int .i64 q.i,.slice q.a.A q.a.n q.a.c,.slice q.b.A q.b.n q.b.c,.slice q.c.A q.c.n q.c.c,.slice q.d.A q.d.n q.d.c,.slice q.e.A q.e.n q.e.c,.slice q.f.A q.f.n q.f.c,.bool q.s,.slice q.h.A q.h.n q.h.c,.slice q.k.A q.k.n q.k.c]
theorem Qi.gr {w w':World} {x:Qr} {q:Qs} (h:Qi w x q) (G:Gr w w'):Qi w' x q:=PV.RepL.gr h G
theorem raw_inv {w:World} {X:Nat→Prop} {u v:Value} (h:(PV.raw u).Rep w X v):v=u:=by rw[PV.Rep] at h;exact h
theorem PV.RepL.inv' {w:World} {X:Nat→Prop} {c:PV} {cs:List PV} {us:List Value} (h:PV.RepL w X (c::cs) us):∃u us',us=u::us'∧c.Rep w X u∧PV.RepL w X cs us':=by rwa [PV.RepL] at h
theorem PV.RepL.inv0 {w:World} {X:Nat→Prop} {us:List Value} (h:PV.RepL w X [] us):us=[]:=by rwa [PV.RepL] at h
theorem rows_inv {w:World} {X:Nat→Prop} {e k:Nat} {ts:List Nat} {xs:List (List PV)} {v:Value} (h:(PV.rows e k ts xs).Rep w X v):∃x:Sv,v=x.v∧x.n=xs.length:=by
 rw[PV.Rep] at h;obtain⟨x,us,rfl,hn,_⟩:=h;exact⟨x,rfl,hn⟩
theorem nat_inv {w:World} {X:Nat→Prop} {n:Nat} {v:Value} (h:(PV.nat n).Rep w X v):∃x:Sv,v=x.v:=by
 rw[PV.Rep] at h;obtain⟨x,rfl,_⟩:=h;exact⟨x,rfl⟩
theorem qs_of {w:World} {x:Qr} {v:Value} (h:(qyP x).Rep w NoX v):∃q:Qs,v=.agg #[.int .i64 q.i,.slice q.a.A q.a.n q.a.c,.slice q.b.A q.b.n q.b.c,.slice q.c.A q.c.n q.c.c,.slice q.d.A q.d.n q.d.c,.slice q.e.A q.e.n q.e.c,.slice q.f.A q.f.n q.f.c,.bool q.s,.slice q.h.A q.h.n q.h.c,.slice q.k.A q.k.n q.k.c]∧Qi w x q:=by
 rw[PV.Rep] at h;obtain⟨us,rfl,h⟩:=h;have h0:=h;unfold qyC at h;obtain⟨u0,us,rfl,g0,h⟩:=PV.RepL.inv' h;obtain⟨u1,us,rfl,g1,h⟩:=PV.RepL.inv' h;obtain⟨u2,us,rfl,g2,h⟩:=PV.RepL.inv' h;obtain⟨u3,us,rfl,g3,h⟩:=PV.RepL.inv' h;obtain⟨u4,us,rfl,g4,h⟩:=PV.RepL.inv' h;obtain⟨u5,us,rfl,g5,h⟩:=PV.RepL.inv' h;obtain⟨u6,us,rfl,g6,h⟩:=PV.RepL.inv' h;obtain⟨u7,us,rfl,g7,h⟩:=PV.RepL.inv' h;obtain⟨u8,us,rfl,g8,h⟩:=PV.RepL.inv' h;obtain⟨u9,us,rfl,g9,h⟩:=PV.RepL.inv' h;obtain rfl:=PV.RepL.inv0 h;obtain rfl:=raw_inv g0;obtain⟨a,rfl,-⟩:=rows_inv g1;obtain⟨b,rfl,-⟩:=rows_inv g2;obtain⟨c,rfl,-⟩:=rows_inv g3;obtain⟨d,rfl,-⟩:=rows_inv g4;obtain⟨e,rfl,-⟩:=rows_inv g5;obtain⟨f,rfl,-⟩:=rows_inv g6;obtain rfl:=raw_inv g7;obtain⟨hh,rfl⟩:=nat_inv g8;obtain⟨k,rfl⟩:=nat_inv g9;exact⟨⟨_,a,b,c,d,e,f,_,hh,k⟩,rfl,h0⟩
structure Eb where
 (pA:Option Addr) (pc:Nat) (mA:Option Addr) (mc:Nat) (a b:Sv) (kA:Option Addr) (kc:Nat) (f:Sv)
def en0 (l:List Mm):En:=⟨[],[],false,l⟩
def ebCs (d:Eb):List Value:=[.slice d.pA 0 d.pc,.slice d.mA 0 d.mc,.int .i64 0,.int .i64 0,.bool false,.slice d.a.A d.a.n d.a.c,.slice d.b.A d.b.n d.b.c,.slice d.kA 0 d.kc,.bool false,.slice d.f.A d.f.n d.f.c]
def EbI (w:World) (d:Eb) (l:List Mm):Prop:=PV.RepL w NoX (enC (en0 l)) (ebCs d)
theorem ebCs_len (d:Eb):(ebCs d).length=10:=rfl
theorem ebCs_one (d:Eb):∀u∈ebCs d,u.oneCell'=true:=fun u hu=>by
 simp only[ebCs,List.mem_cons,List.not_mem_nil,or_false] at hu;rcases hu with rfl | rfl | rfl | rfl | rfl | rfl | rfl | rfl | rfl | rfl<;>rfl
theorem EbI.gr {w w':World} {d:Eb} {l:List Mm} (h:EbI w d l) (G:Gr w w'):EbI w' d l:=PV.RepL.gr h G
theorem EbI.fr {w w':World} {d:Eb} {l:List Mm} {Y:Nat→Prop} (h:EbI w d l) (F:Fr Y w w') (hY:∀b cs t fr,Y b→w.heap[b]?=some (.cells cs t fr)→t ∉ PV.tyL (enC (en0 l))):EbI w' d l:=PV.RepL.still h (still_fr F hY)
abbrev Ebs (w:World) (x:Sv) (l:List (List Mm)):Prop:=Rows ebCs EbI 77 10 w x l
abbrev OwnB (w:World) (B:Nat) (x:Sv) (l:List (List Mm)):Prop:=Own ebCs EbI 77 10 w B x l
theorem Ebs.gr {w w':World} {x:Sv} {l:List (List Mm)} (h:Ebs w x l) (G:Gr w w'):Ebs w' x l:=Rows.gr (fun h G=>h.gr G) h G
theorem Ebs.len {w:World} {x:Sv} {l:List (List Mm)} (h:Ebs w x l):l.length=x.n:=Rows.len ebCs_len dx h
theorem eb_of {w:World} {l:List Mm} {us:List Value} (h:PV.RepL w NoX (enC (en0 l)) us):∃d:Eb,us=ebCs d:=by
 unfold enC at h;obtain⟨u0,us,rfl,g0,h⟩:=PV.RepL.inv' h;obtain⟨u1,us,rfl,g1,h⟩:=PV.RepL.inv' h;obtain⟨u2,us,rfl,g2,h⟩:=PV.RepL.inv' h;obtain⟨u3,us,rfl,g3,h⟩:=PV.RepL.inv' h;obtain⟨u4,us,rfl,g4,h⟩:=PV.RepL.inv' h;obtain⟨u5,us,rfl,g5,h⟩:=PV.RepL.inv' h;obtain⟨u6,us,rfl,g6,h⟩:=PV.RepL.inv' h;obtain⟨u7,us,rfl,g7,h⟩:=PV.RepL.inv' h;obtain⟨u8,us,rfl,g8,h⟩:=PV.RepL.inv' h;obtain⟨u9,us,rfl,g9,h⟩:=PV.RepL.inv' h;obtain rfl:=PV.RepL.inv0 h;obtain⟨⟨pA,pn,pc⟩,rfl,(h0:pn=0)⟩:=rows_inv g0;obtain⟨⟨mA,mn,mc⟩,rfl,(h1:mn=0)⟩:=rows_inv g1;obtain rfl:=raw_inv g2;obtain rfl:=raw_inv g3;obtain rfl:=raw_inv g4;obtain⟨a,rfl⟩:=nat_inv g5;obtain⟨b,rfl⟩:=nat_inv g6;obtain⟨⟨kA,kn,kc⟩,rfl,(h2:kn=0)⟩:=rows_inv g7;obtain rfl:=raw_inv g8;obtain⟨f,rfl,-⟩:=rows_inv g9;subst h0 h1 h2;exact⟨⟨pA,pc,mA,mc,a,b,kA,kc,f⟩,rfl⟩
theorem ebs_of {w:World} {l:List Mm} {v:Value} (h:(ensP [en0 l]).Rep w NoX v):∃z:Sv,v=z.v∧Ebs w z [l]:=by
 rw[PV.Rep] at h;obtain⟨x,us,rfl,hn,h1,h2,_,h3,_⟩:=h;rw[List.map_cons,List.map_nil,PV.RepLL] at h3;obtain⟨u,us',rfl,g1,g2⟩:=h3;rw[PV.RepLL] at g2;subst g2;obtain⟨d,rfl⟩:=eb_of g1;refine⟨x,rfl,[(d,l)],?_,rfl,?_,h2⟩
 ·simpa using h1
 ·intro p hp;rw[mj hp];exact g1
theorem Ebs.head {w:World} {x:Sv} {s:List Mm} {l:List (List Mm)} (h:Ebs w x (s::l)):∃(d:Eb) (ad:Addr),EbI w d s∧x.A=some ad∧w.cell? ad=some (.slice d.pA 0 d.pc)∧w.cell? ⟨ad.block,ad.off+1,none⟩=some (.slice d.mA 0 d.mc)∧w.cell? ⟨ad.block,ad.off+2,none⟩=some (.int .i64 0)∧w.cell? ⟨ad.block,ad.off+3,none⟩=some (.int .i64 0)∧w.cell? ⟨ad.block,ad.off+4,none⟩=some (.bool false)∧w.cell? ⟨ad.block,ad.off+5,none⟩=some (.slice d.a.A d.a.n d.a.c)∧w.cell? ⟨ad.block,ad.off+6,none⟩=some (.slice d.b.A d.b.n d.b.c)∧w.cell? ⟨ad.block,ad.off+7,none⟩=some (.slice d.kA 0 d.kc)∧w.cell? ⟨ad.block,ad.off+8,none⟩=some (.bool false)∧w.cell? ⟨ad.block,ad.off+9,none⟩=some (.slice d.f.A d.f.n d.f.c):=by
 obtain⟨y,hy,hc⟩:=Rows.at ebCs_len h (i:=0) rfl;obtain⟨ad,hA,_,c0⟩:=hc 0 _ rfl;obtain⟨ad1,h1,_,c1⟩:=hc 1 _ rfl;obtain⟨ad2,h2,_,c2⟩:=hc 2 _ rfl;obtain⟨ad3,h3,_,c3⟩:=hc 3 _ rfl;obtain⟨ad4,h4,_,c4⟩:=hc 4 _ rfl;obtain⟨ad5,h5,_,c5⟩:=hc 5 _ rfl;obtain⟨ad6,h6,_,c6⟩:=hc 6 _ rfl;obtain⟨ad7,h7,_,c7⟩:=hc 7 _ rfl;obtain⟨ad8,h8,_,c8⟩:=hc 8 _ rfl;obtain⟨ad9,h9,_,c9⟩:=hc 9 _ rfl;rw[hA] at h1 h2 h3 h4 h5 h6 h7 h8 h9;cases h1;cases h2;cases h3;cases h4;cases h5;cases h6;cases h7;cases h8;cases h9
 rw[add_in _ _ dx,Nat.zero_mul,add_zero] at c1 c2 c3 c4 c5 c6 c7 c8 c9;rw[Nat.zero_mul,add_zero] at c0;exact⟨y,ad,hy,hA,c0,c1,c2,c3,c4,c5,c6,c7,c8,c9⟩
theorem elemEb:ElemS Tryz.prog 51 77 10 176:=elem_of (z:=.agg #[.slice none 0 0,.slice none 0 0,.int .i64 0,.int .i64 0,.bool false,.slice none 0 0,.slice none 0 0,.slice none 0 0,.bool false,.slice none 0 0]) (by kernel_rfl) (by kernel_rfl) rfl dx
theorem Bk.c7 {w:World} {p t:Nat} {x0 x1 x2 x3 x4 x5 x6:Value} (h:Bk w p t #[x0,x1,x2,x3,x4,x5,x6]):w.cell? ⟨p,0,none⟩=some x0∧w.cell? ⟨p,1,none⟩=some x1∧w.cell? ⟨p,2,none⟩=some x2∧w.cell? ⟨p,3,none⟩=some x3∧w.cell? ⟨p,4,none⟩=some x4∧w.cell? ⟨p,5,none⟩=some x5∧w.cell? ⟨p,6,none⟩=some x6:=⟨h.cell 0,h.cell 1,h.cell 2,h.cell 3,h.cell 4,h.cell 5,h.cell 6⟩
def MultR (w:World) (y:Sv) (l:List Mm):Prop:=(mmsP l).Rep w NoX y.v
theorem MultR.gr {w w':World} {y:Sv} {l:List Mm} (h:MultR w y l) (G:Gr w w'):MultR w' y l:=PV.Rep.gr h G
theorem MultR.st {w w':World} {p t:Nat} {us:Array Value} {y:Sv} {l:List Mm} (h:MultR w y l) (F:Fr (fun b=>b=p) w w') (hb:Bk w p t us) (h0:t≠98:=by decide) (h1:t≠200:=by decide):MultR w' y l:=
 PV.Rep.still h (still_fr F fun b cs t' fr e hh ht=>by
  subst e;have ht':t'∈[98,200]:=ht;simp only[List.mem_cons,List.not_mem_nil,or_false] at ht';rcases ht' with rfl | rfl
  ·exact Bk.not_ty hb h0 cs fr hh
  ·exact Bk.not_ty hb h1 cs fr hh)
def MultA (l:List Mm) (v:Value) (w:World):Prop:=∃y:Sv,v=y.v∧MultR w y l
theorem MultA.gr {l:List Mm} {v:Value} {w w':World} (h:MultA l v w) (G:Gr w w'):MultA l v w':=by
 obtain⟨y,e,hy⟩:=h;exact⟨y,e,hy.gr G⟩
theorem MultA.is {l:List Mm} {y:Sv} {w:World} (h:MultA l y.v w):MultR w y l:=by
 obtain⟨z,e,hz⟩:=h;unfold MultR;rw[e];exact hz
structure Lf (x:Qr) (l:List Mm):Prop where
 va:∃a b,((en0 l).sc x).Va a b
 ok:EnOk (en0 l)
 goal:x.goal.S 100 8
 ap:appliesR x (en0 l)=true
 n8:x.g.inputs+x.g.units.length≤8
 len:l.length≤1000000
 num:∀m∈l,m.1.lo≤1000000∧m.1.hi≤1000000
theorem sproves0 (w:World) (q:Qs) (x:Qr) (l:List Mm) (d:Eb) (hq:Qi w x q) (hx:Lf x l) (hd:EbI w d l):
  Calls Tryz.prog 288 #[.agg #[.int .i64 q.i,q.a.v,q.b.v,q.c.v,q.d.v,q.e.v,q.f.v,.bool q.s,q.h.v,q.k.v,.slice d.pA 0 d.pc,.slice d.mA 0 d.mc],.agg #[.slice d.mA 0 d.mc,.int .i64 0,.int .i64 0,.bool false,d.a.v,d.b.v,.slice d.kA 0 d.kc,.bool false,d.f.v]] w fun e w'=>e=.returned (.bool true)∧Gr w w':=by
 obtain⟨a,b,hv⟩:=hx.va;have h1:PV.RepL w NoX (scC ((en0 l).sc x)) [.int .i64 q.i,q.a.v,q.b.v,q.c.v,q.d.v,q.e.v,q.f.v,.bool q.s,q.h.v,q.k.v,.slice d.pA 0 d.pc,.slice d.mA 0 d.mc]:=PV.RepL.append hq (PV.RepL.take 2 hd);have h2:PV.RepL w NoX (lfC (en0 l)) [.slice d.mA 0 d.mc,.int .i64 0,.int .i64 0,.bool false,d.a.v,d.b.v,.slice d.kA 0 d.kc,.bool false,d.f.v]:=PV.RepL.drop 1 hd;refine cm2 ((p_sproves hv hx.ok hx.goal).raw (PV.RepL.cons (rep_agg h1) (PV.RepL.cons (rep_agg h2) PV.RepL.nil))) fun v w' hr G=>?_
 rw[hx.ap] at hr;exact⟨congrArg _ (raw_inv hr),G⟩
theorem shifted0 (w:World) (d:Eb) (x:Qr) (l:List Mm) (hx:Lf x l) (hd:EbI w d l):
  Calls Tryz.prog 289 #[d.f.v,.int .i64 0] w fun e w'=>∃y:Sv,e=.returned y.v∧MultR w' y l∧Gr w w':=by
 have h1:PV.RepL w NoX [mmsP l] [d.f.v]:=PV.RepL.drop 9 hd;refine cm2 ((p_shifted (b:=0) hx.len dx hx.num).raw (PV.RepL.append h1 (PV.RepL.cons (c:=iP ((0:Nat):Int)) (u:=.int .i64 0) (by unfold iP;rw[PV.Rep];rfl) PV.RepL.nil))) fun v w' hr G=>?_
 obtain⟨y,rfl,-⟩:=rows_inv hr;refine⟨y,rfl,?_,G⟩;rwa [show l.map (shM 0)=l from by rw[show shM 0=id from funext shM0,List.map_id]] at hr
theorem aload_run (w:World) (a:Addr) (x:Int) (h:w.cell? a=some (.int .i64 x)):(callFunc 211 #[.pointer (some a)]).run Tryz.prog w=.ok (.value (.int .i64 x)) w:=
 run_call_load (fn:=Tryz.f211) (by kernel_rfl) (by kernel_rfl) (by kernel_rfl) (by kernel_rfl) .i64 (by kernel_rfl) h
theorem aload_any (w:World) (b o:Nat) (x:Int) (h:w.cell? ⟨b,o,none⟩=some (.int .i64 x)):
  Calls Tryz.prog 160 #[.pointer (some ⟨b,o,none⟩)] w fun e w'=>e=.returned (.int .i64 x)∧Gr w w':=by
 have hr:=aload_run w _ x h;go_enter Tryz.func160,Tryz.ntmps160;go_wp2;go_ret;exact⟨rfl,Gr.refl w⟩
theorem get0 (w:World):
  Calls Tryz.prog 152 #[.int .i64 0] w fun e w'=>e=.returned (.tuple #[.iface 281 (.agg #[]),.bool true])∧Gr w w':=by
 go_enter Tryz.func152,Tryz.ntmps152;go_wp2;refine bret Tryz.results152 ?_;exact⟨rfl,Gr.refl w⟩
theorem twice0 (w:World) (pA:Option Addr) (pc:Nat):
  Calls Tryz.prog 235 #[.slice pA 0 pc] w fun e w'=>e=.returned (.bool false)∧Gr w w':=by
 have hmm:=@run_makeMap Tryz.prog;go_enter Tryz.func235,Tryz.ntmps235;go_wp2_with fail;go_rounds 1
 go_ret;exact⟨rfl,(Gr.refl w).alloc _⟩
theorem makeI1 (w:World):(Instr.makeSlice 71 (.int .i64 1024) (.int .i64 1024)).run Tryz.prog w=.ok (.slice (some ⟨w.heap.size,0,none⟩) 1024 1024) (w.alloc (.cells (madeCells #[Value.int .i64 0] 1024) 3)):=by
 obtain⟨i0,hi,hz0,hz1,hz2⟩:=info_parts (show (Tryz.prog.info? 3).map (fun i=>(i.zero,i.size,i.bytes))=some (some (.int .i64 0),1,8) from by kernel_rfl);have:=run_make (P:=Tryz.prog) w 71 3 i0 _ (by kernel_rfl) hi hz0 .i64 .i64 1024 1024 om (Int.le_refl _) (by rw[hz2];omega) om;rw[hz1,show Int.toNat 1024=1024 from rfl,Nat.mul_one] at this;exact this
theorem path0 (w:World) (pA:Option Addr) (pc:Nat):
  Calls Tryz.prog 197 #[.slice pA 0 pc,.int .i64 1024] w fun e w'=>∃y:Sv,e=.returned (.tuple #[y.v,.int .i64 0])∧Gr w w':=by
 go_enter Tryz.func197,Tryz.ntmps197;go_wp2_with fail;refine wp_loop_rounds 1 ?_;rw[rounds_succ];go_wp2_with fail;refine cm0 (twice0 w pA pc) fun w1 G1=>?_
 have mi:=makeI1 w1;have HG:=I G1

 go_wp2_with fail;refine wp_loop_rounds 1 ?_;rw[rounds_succ];go_wp2;refine bret Tryz.results197 ?_;exact⟨⟨some ⟨w1.heap.size,0,none⟩,1024,1024⟩,rfl,HG.alloc _⟩
theorem key0 (w:World) (pA:Option Addr) (pc:Nat):
  Calls Tryz.prog 153 #[.slice pA 0 pc] w fun e w'=>e=.returned (.tuple #[.string ⟨#[]⟩,.bool true])∧Gr w w':=by
 go_enter Tryz.func153,Tryz.ntmps153;go_wp2_with fail;refine (path0 w pA pc).mono ?_;rintro e w1 ⟨y,rfl,G1⟩;have HG:=I G1;clear G1;go_wp2_with fail;refine wp_loop_rounds 1 ?_;rw[rounds_succ];go_wp2_with fail;have hb:Lib.IsBuilder 289 5 w.heap.size w1.heap.size [] (w1.alloc (.cells #[.pointer none,Nl] 289)):=.inl ⟨HG.size,Nl,Bk.made _ _ _,World.ownsRow_nil _ _ _ _,by simp[Value.ownBlock]⟩;refine (Tryz.Builder_String_empty w.heap.size w1.heap.size _ hb (by simp[World.size_alloc];have:=HG.size;omega)).mono ?_;rintro e w2 ⟨rfl,hB⟩;have HG2:=I (Gr.of ((HG.alloc _).below.trans hB):Gr w w2);clear hB hb;go_wp2;refine bret Tryz.results153 ?_;exact⟨rfl,HG2.out⟩
theorem Bk.c13 {w:World} {p t:Nat} {x0 x1 x2 x3 x4 x5 x6 x7 x8 x9 x10 x11 x12:Value} (h:Bk w p t #[x0,x1,x2,x3,x4,x5,x6,x7,x8,x9,x10,x11,x12]):w.cell? ⟨p,0,none⟩=some x0∧w.cell? ⟨p,1,none⟩=some x1∧w.cell? ⟨p,2,none⟩=some x2∧w.cell? ⟨p,3,none⟩=some x3∧w.cell? ⟨p,4,none⟩=some x4∧w.cell? ⟨p,5,none⟩=some x5∧w.cell? ⟨p,6,none⟩=some x6∧w.cell? ⟨p,7,none⟩=some x7∧w.cell? ⟨p,8,none⟩=some x8∧w.cell? ⟨p,9,none⟩=some x9∧w.cell? ⟨p,10,none⟩=some x10∧w.cell? ⟨p,11,none⟩=some x11∧w.cell? ⟨p,12,none⟩=some x12:=⟨h.cell 0,h.cell 1,h.cell 2,h.cell 3,h.cell 4,h.cell 5,h.cell 6,h.cell 7,h.cell 8,h.cell 9,h.cell 10,h.cell 11,h.cell 12⟩
theorem begin0 (w:World) (q:Qs) (x:Qr) (l:List Mm) (hq:Qi w x q) (hx:Lf x l):
  Calls Tryz.prog 98 #[.agg #[.int .i64 q.i,q.a.v,q.b.v,q.c.v,q.d.v,q.e.v,q.f.v,.bool q.s,q.h.v,q.k.v],.agg #[.int .i64 0,.int .i64 0,.bool false,.bool false,.int .i64 0,.int .i64 10,.int .i64 0]] w fun e w'=>∃r v:Nat,e=.returned (.tuple #[.pointer (some ⟨r,0,none⟩),.int .i64 0])∧w.heap.size≤r∧w.heap.size≤v∧r≠v∧Bk w' r 190 #[.int .i64 q.i,.slice q.a.A q.a.n q.a.c,.slice q.b.A q.b.n q.b.c,.slice q.c.A q.c.n q.c.c,.slice q.d.A q.d.n q.d.c,.slice q.e.A q.e.n q.e.c,.slice q.f.A q.f.n q.f.c,.bool q.s,.slice q.h.A q.h.n q.h.c,.slice q.k.A q.k.n q.k.c,.int .i64 0,.int .i64 0,.bool false,.bool false,.int .i64 0,.int .i64 10,.int .i64 0,.iface 281 (.agg #[]),.pointer (some ⟨v,0,none⟩),.slice none 0 0,.pointer none,.int .i64 0,.int .i64 0,.int .i64 0,.pointer none]∧Bk w' v 241 #[.slice none 0 0,.int .i64 0,.int .i64 0,.bool false,.slice none 0 0,.slice none 0 0,.slice none 0 0,.bool false,.slice none 0 0,.slice none 0 0]∧Gr w w':=by
 have HQ:=I hq;have HX:=I hx;clear hq hx;go_enter Tryz.func98,Tryz.ntmps98;go_wp2_with fail;refine nw2hc fun W HG D_p0 D_o0=>?_
 have q0_:=D_p0.c10;obtain⟨o0,o1,o2,o3,o4,o5,o6⟩:=D_o0.c7;generalize w.heap.size+1=o0 at*;refine cm0 (get0 W) fun w1 G1=>?_
 obtain⟨HG,D_p0,D_o0⟩:=G1.u3 HG D_p0 D_o0;clear q0_ o0 o1 o2 o3 o4 o5 o6;have q0_:=D_p0.c10;obtain⟨o0,o1,o2,o3,o4,o5,o6⟩:=D_o0.c7;go_wp2_with fail;obtain⟨av,bv,hva⟩:=HX.va;refine cm2 ((p_qvalid (q:=x) hva.q (by have:=HX.n8;omega)).raw (PV.RepL.cons (rep_agg (HQ.gr HG)) PV.RepL.nil)) fun vv w2 hvv G1=>?_
 obtain rfl:=raw_inv hvv;obtain⟨HG,D_p0,D_o0⟩:=G1.u3 HG D_p0 D_o0;clear q0_ o0 o1 o2 o3 o4 o5 o6;have q0_:=D_p0.c10;obtain⟨o0,o1,o2,o3,o4,o5,o6⟩:=D_o0.c7;go_wp2;refine bret Tryz.results98 ?_;obtain⟨B1,B2,GB⟩:=made2 w2 241 190 #[Nl,.int .i64 0,.int .i64 0,.bool false,Nl,Nl,Nl,.bool false,Nl,Nl] #[.int .i64 q.i,q.a.v,q.b.v,q.c.v,q.d.v,q.e.v,q.f.v,.bool q.s,q.h.v,q.k.v,.int .i64 0,.int .i64 0,.bool false,.bool false,.int .i64 0,.int .i64 10,.int .i64 0,.iface 281 (.agg #[]),.pointer (some ⟨w2.heap.size,0,none⟩),Nl,.pointer none,.int .i64 0,.int .i64 0,.int .i64 0,.pointer none];exact⟨w2.heap.size+1,w2.heap.size,rfl,Nat.le_succ_of_le HG.size,HG.size,Nat.succ_ne_self _,B2,B1,HG.trans GB⟩
end
end Go.Proofs.YtbhbainhmfjpdaaGreatDoor
