/- Walks of the search and of what it calls, part 14. -/
import Derived.Test.YtbhbainhmfjpdaaGreatDoorMm
import Derived.OpenShut
set_option linter.unusedVariables false
set_option linter.unusedSimpArgs false
set_option maxRecDepth 100000
set_option maxHeartbeats 8000000
namespace Go.Proofs.YtbhbainhmfjpdaaGreatDoor
open Go.RowKit
def OwnZ (X:Nat→Prop) (rs:List (Nat×Res)) (B:Nat→Nat) (T:Nat→Sv) (b:Nat):Prop:=X b∨∃i r,lookL rs i=some r∧r.blk (B i) (T i)=some b
def LentR (rs:List (Nat×Res)) (B:Nat→Nat) (T:Nat→Sv) (b:Nat):Prop:=∃i r,lookL rs i=some r∧r.blk (B i) (T i)=some b
structure MPre (w:World) (X:Nat→Prop) (B:Nat→Nat) (T:Nat→Sv) (rs:List (Nat×Res)):Prop where
 inn:∀i r,lookL rs i=some r→r.In (fun _=>True) w (OwnZ X rs B T) B T i
 alive:∀i r,lookL rs i=some r→∀j∈r.ids,(lookL rs j).isSome=true
 apart:∀i r j q b,lookL rs i=some r→lookL rs j=some q→r.blk (B i) (T i)=some b→q.blk (B j) (T j)=some b→i=j
def oppK (k:Int):Int:=bif k == 1 then 2 else bif k == 2 then 1 else bif k == 3 then 4 else bif k == 4 then 3 else 0
def LaidG (w:World):Prop:=(∃zs fr,w.heap[0]?=some (.cells zs 224 fr))∧∀i:Nat,i < 5→w.cell? ⟨0,i,none⟩=some (.int .i64 (oppK (i:Int)))
theorem LaidG.lt {w:World} (h:LaidG w):0 < w.heap.size:=by
 have:=h.2 0 (by decide);rcases Nat.eq_zero_or_pos w.heap.size with e | e
 ·exfalso
  have h0:w.heap[0]?=none:=Array.getElem?_eq_none (by omega);simp[World.cell?,h0] at this
 ·exact e
theorem LaidG.keep {w w':World} (h:LaidG w) (hk:w'.heap[0]?=w.heap[0]?):LaidG w':=⟨by obtain⟨zs,fr,e⟩:=h.1;exact⟨zs,fr,hk.trans e⟩,fun i hi=>(World.cell?_of_block hk).trans (h.2 i hi)⟩
theorem LaidG.cx {C:Cx} {B:Nat→Nat} {w:World} (h:LaidG C.w0) (hM:¬C.M 0) (g:GrC C B w):LaidG w:=h.keep (g.fr.keep 0 h.lt hM)
theorem LaidG.lo {C:Cx} (h:LaidG C.w0) (hM:¬C.M 0):¬C.lo 0:=fun hl=>hl.elim (fun g=>by have:=h.lt;omega) hM
def MCalls (P:Program) (Tg:List Nat) (f:FuncId) (args:List SV) (rs rs':List (Nat×Res)) (res:PV):Prop:=callB P f=true∧
 ∀(w:World) (X:Nat→Prop) (B:Nat→Nat) (T:Nat→Sv) (us:List Value),(∀b,X b→b < w.heap.size)→(∀b cs t fr,X b→w.heap[b]?=some (.cells cs t fr)→t ∉ Tg)→(∀b,X b→¬LentR rs B T b)→LaidG w→¬LentR rs B T 0→MPre w X B T rs→SV.RepL w (OwnZ X rs B T) B T args us→(∀i∈SV.idsL args,(lookL rs i).isSome=true)→
  Calls P f us.toArray w fun e w'=>∃v T',e=.returned v∧res.Rep w' X v∧MPre w' X B T' rs'∧Fr (LentR rs B T) w w'∧∀b,LentR rs' B T' b→LentR rs B T b∨w.heap.size≤b
theorem Res.In.wide {lo lo':Nat→Prop} {w:World} {X X':Nat→Prop} {B:Nat→Nat} {T:Nat→Sv} {i:Nat} {r:Res} (h:r.In lo w X B T i) (hl:∀b,r.blk (B i) (T i)=some b→lo b→lo' b) (hX:∀b,X' b→X b):r.In lo' w X' B T i:=by
 have S:∀ts,Still w w X X' ts:=fun ts=>⟨nr _,fun b cs t fr hx hh ht=>⟨rfl,fun hb=>hx (hX b hb)⟩⟩
 cases r with
 | box ty cells=>
  obtain⟨h1,us,h2,h3⟩:=h;exact⟨hl _ rfl h1,us,h2,h3.still (S _) fun _ _=>⟨rfl,rfl⟩⟩
 | tok e k ts xs=>
  obtain⟨us,h1,h2,h3,h4,h5,h6⟩:=h;exact⟨us,h1,PV.RepLL.still (ts:=ts) h2 (S _) fun r hr c hc=>((h3 r hr).2 c hc).2,h3,h4,h5,fun b hb=>hl b hb (h6 b hb)⟩
theorem Res.In.reB {lo:Nat→Prop} {w:World} {X:Nat→Prop} {B B':Nat→Nat} {T T':Nat→Sv} {i:Nat} {r:Res} (h:r.In lo w X B T i) (hB:B' i=B i) (hT:T' i=T i) (hs:∀j∈r.ids,B' j=B j∧T' j=T j):r.In lo w X B' T' i:=by
 have S:∀ts,Still w w X X ts:=fun ts=>⟨nr _,fun b cs t fr hx hh ht=>⟨rfl,hx⟩⟩
 cases r with
 | box ty cells=>
  obtain⟨h1,us,h2,h3⟩:=h;exact⟨by rw[hB];exact h1,us,by rw[hB];exact h2,h3.still (S _) hs⟩
 | tok e k ts xs=>
  obtain⟨us,h1,h2,h3,h4,h5,h6⟩:=h;exact⟨us,by rw[hT];exact h1,h2,h3,by rw[hT];exact h4,h5,by rw[hT];exact h6⟩
theorem Res.In.lo {lo:Nat→Prop} {w:World} {X:Nat→Prop} {B:Nat→Nat} {T:Nat→Sv} {i:Nat} {r:Res} (h:r.In lo w X B T i) {b:Nat} (hb:r.blk (B i) (T i)=some b):lo b∧b < w.heap.size:=by
 cases r with
 | box ty cells=>
  obtain⟨h1,us,h2,_⟩:=h;simp only[Res.blk,oq] at hb;rw[← hb];exact⟨h1,h2.lt⟩
 | tok e k ts xs=>
  obtain⟨us,h1,_,_,_,_,h6⟩:=h;exact⟨h6 b hb,(rw_lt h1 b hb).2⟩
theorem Res.In.typ {lo:Nat→Prop} {w:World} {X:Nat→Prop} {B:Nat→Nat} {T:Nat→Sv} {i:Nat} {r:Res} (h:r.In lo w X B T i) {b:Nat} (hb:r.blk (B i) (T i)=some b) {cs:Array Value} {t:Nat} {fr:Nat×Nat} (hh:w.heap[b]?=some (.cells cs t fr)):t=r.typ:=by
 cases r with
 | box ty cells=>
  obtain⟨h1,us,h2,_⟩:=h;simp only[Res.blk,oq] at hb;rw[← hb,h2] at hh;injection hh with hh;injection hh with _ hh _;exact hh.symm
 | tok e k ts xs=>
  obtain⟨us,h1,_⟩:=h;obtain⟨cur,h2⟩:=rw_bk h1 b hb;rw[h2] at hh;injection hh with hh;injection hh with _ hh _;exact hh.symm
mutual
def SV.tids:SV→List Nat
 | .tok i=>[i]
 | .elt i _=>[i]
 | .agg cs=>SV.tidsL cs
 | .tup cs=>SV.tidsL cs
 | .fn _ cs=>SV.tidsL cs
 | _=>[]
def SV.tidsL:List SV→List Nat
 | []=>[]
 | c::cs=>SV.tids c++SV.tidsL cs
end
mutual
theorem SV.Rep.reT {w:World} {X:Nat→Prop} {B:Nat→Nat} {T T':Nat→Sv}:∀{s:SV} {v:Value},SV.Rep w X B T s v→(∀i∈s.tids,T' i=T i)→SV.Rep w X B T' s v
 | .pv p,v,h,_=>by rw[SV.Rep] at h ⊢;exact h
 | .any,v,h,_=>by rw[SV.Rep];trivial
 | .emp,v,h,_=>by rw[SV.Rep] at h ⊢;exact h
 | .nil _ _ _,v,h,_=>by rw[SV.Rep] at h ⊢;exact h
 | .tok i,v,h,k=>by
  rw[SV.Rep] at h ⊢;rw[k i (by rw[SV.tids];exact List.mem_singleton.2 rfl)];exact h
 | .box i off,v,h,_=>by rw[SV.Rep] at h ⊢;exact h
 | .elt i off,v,h,k=>by
  rw[SV.Rep] at h ⊢;rw[k i (by rw[SV.tids];exact List.mem_singleton.2 rfl)];exact h
 | .ref e cs,v,h,_=>by rw[SV.Rep] at h ⊢;exact h
 | .agg cs,v,h,k=>by
  rw[SV.Rep] at h ⊢;obtain⟨us,rfl,h1⟩:=h;exact⟨us,rfl,SV.RepL.reT h1 (by rwa [SV.tids] at k)⟩
 | .tup cs,v,h,k=>by
  rw[SV.Rep] at h ⊢;obtain⟨us,rfl,h1⟩:=h;exact⟨us,rfl,SV.RepL.reT h1 (by rwa [SV.tids] at k)⟩
 | .fn f cs,v,h,k=>by
  rw[SV.Rep] at h ⊢;obtain⟨us,rfl,h1⟩:=h;exact⟨us,rfl,SV.RepL.reT h1 (by rwa [SV.tids] at k)⟩
theorem SV.RepL.reT {w:World} {X:Nat→Prop} {B:Nat→Nat} {T T':Nat→Sv}:∀{cs:List SV} {us:List Value},SV.RepL w X B T cs us→(∀i∈SV.tidsL cs,T' i=T i)→SV.RepL w X B T' cs us
 | [],us,h,_=>by rw[SV.RepL] at h ⊢;exact h
 | c::cs,us,h,k=>by
  rw[SV.RepL] at h ⊢;obtain⟨u,us',rfl,h1,h2⟩:=h;rw[SV.tidsL] at k;exact⟨u,us',rfl,SV.Rep.reT h1 (fun i hi=>k i (List.mem_append_left _ hi)),SV.RepL.reT h2 (fun i hi=>k i (List.mem_append_right _ hi))⟩
end
def Res.tids:Res→List Nat
 | .box _ cs=>SV.tidsL cs
 | .tok ..=>[]
theorem lookL_app {α:Type}:∀{l m:List (Nat×α)} {t:Nat},lookL (l++m) t=(match lookL l t with
  | some v=>some v
  | none=>lookL m t)
 | [],m,t=>rfl
 | (i,x)::l,m,t=>by
  rw[List.cons_append,lookL,lookL];cases Nat.beq t i with
  | true=>rfl
  | false=>exact lookL_app
def backB (dst:Option Nat) (sl:List (Nat×SV)) (keep rs rs':List (Nat×Res)) (tys:List Nat):Bool:=
 (match dst with
 | some d=>(lookL sl d).isNone
 | none=>true)&&(sl.all fun p=>p.2.tids.all fun i=>(lookL rs i).isNone)&&(keep.all fun p=>(lookL rs p.1).isNone&&p.2.tids.all fun i=>(lookL rs i).isNone)&&(rs'.all fun p=>(lookL rs p.1).isSome&&tys.contains p.2.typ)&&ofB sl (keep++rs') tys
section
variable {C:Cx} {o:Oper} {st:St}
theorem inv_back {a:Act} {w w':World} {B:Nat→Nat} {T T':Nat→Sv} {rs rs' keep:List (Nat×Res)} {sl:List (Nat×SV)} {tys:List Nat} {dst:Option Nat} {v:Value} (hi:InvB C st a w B T) (hrs:AllL st.res rs) (hsl:AllL st.slot sl) (hkeep:AllL st.res keep) (hb:backB dst sl keep rs rs' tys=true)
  (hm:MPre w' (fun b=>Own0 C st B T b∧¬LentR rs B T b) B T' rs') (F:Fr (LentR rs B T) w w') (hnew:∀b,LentR rs' B T' b→LentR rs B T b∨w.heap.size≤b) (hd:∀d,dst=some d→d < C.N):Inv C (St.of sl (keep++rs') tys) (a.put dst v) w':=by
 simp only[backB,be,List.all_eq_true,Option.isNone_iff_eq_none] at hb;obtain⟨⟨⟨⟨hb1,hb2⟩,hb3⟩,hb4⟩,hb5⟩:=hb;simp only[ofB,be,List.all_eq_true,idsOk] at hb5
 let T2:Nat→Sv:=fun i=>if (lookL rs i).isSome then T' i else T i
 have hT1:∀i,lookL rs i=none→T2 i=T i:=fun i h=>by simp only[T2,h];rfl
 have hT2:∀i,(lookL rs i).isSome=true→T2 i=T' i:=fun i h=>by simp only[T2,h];rfl
 have rs'at:∀i r,lookL rs' i=some r→(lookL rs i).isSome=true:=fun i r h=>by
  have:∀{l:List (Nat×Res)} {i:Nat} {r:Res},lookL l i=some r→∃p∈l,p.1=i∧p.2=r:=fun {l}=>by
   induction l with
   | nil=>intro i r e;cases e
   | cons p l ih=>
    intro i r e;obtain⟨j,x⟩:=p;rw[lookL] at e;cases hbq:Nat.beq i j with
    | true=>rw[hbq] at e;injection e with e;exact⟨_,mf ..,(Nat.eq_of_beq_eq_true hbq).symm,e⟩
    | false=>
     rw[hbq] at e;obtain⟨p,h1,h2⟩:=ih e;exact⟨p,List.mem_cons_of_mem _ h1,h2⟩
  obtain⟨p,h1,h2,h3⟩:=this h;rw[← h2];exact (hb4 p h1).1
 have keepat:∀i r,lookL keep i=some r→lookL rs i=none∧(∀j∈r.tids,lookL rs j=none)∧st.res i=some r:=fun i r h=>by
  have:∀{l:List (Nat×Res)} {i:Nat} {r:Res},lookL l i=some r→∃p∈l,p.1=i∧p.2=r:=fun {l}=>by
   induction l with
   | nil=>intro i r e;cases e
   | cons p l ih=>
    intro i r e;obtain⟨j,x⟩:=p;rw[lookL] at e;cases hbq:Nat.beq i j with
    | true=>rw[hbq] at e;injection e with e;exact⟨_,mf ..,(Nat.eq_of_beq_eq_true hbq).symm,e⟩
    | false=>
     rw[hbq] at e;obtain⟨p,h1,h2⟩:=ih e;exact⟨p,List.mem_cons_of_mem _ h1,h2⟩
  obtain⟨p,h1,h2,h3⟩:=this h;have h4:=hb3 p h1;rw[h2,h3] at h4;exact⟨h4.1,h4.2,hkeep.at h⟩
 have split:∀i r,lookL (keep++rs') i=some r→lookL keep i=some r∨(lookL keep i=none∧lookL rs' i=some r):=fun i r h=>by
  rw[lookL_app] at h;cases hk:lookL keep i with
  | some q=>rw[hk] at h;exact .inl h
  | none=>rw[hk] at h;exact .inr ⟨rfl,h⟩
 have old:∀i r,lookL rs i=some r→st.res i=some r:=fun i r h=>hrs.at h
 have lentOwn:∀b,LentR rs B T b→Own0 C st B T b:=fun b ⟨i,r,h1,h2⟩=>.inr ⟨i,r,old i r h1,h2⟩
 have blkOld:∀i r b,st.res i=some r→r.blk (B i) (T i)=some b→b < w.heap.size:=fun i r b h1 h2=>((hi.inn i r h1).lo h2).2
 have notLent:∀i r b,st.res i=some r→lookL rs i=none→r.blk (B i) (T i)=some b→¬LentR rs B T b:=fun i r b h1 h2 h3 ⟨j,q,h4,h5⟩=>by
  have:=hi.apart i r j q b h1 (old j q h4) h3 h5;rw[← this,h2] at h4;cases h4
 have hX:∀b,Own0 C (St.of sl (keep++rs') tys) B T2 b→(Own0 C st B T b∧¬LentR rs B T b)∨LentR rs' B T' b:=fun b hb=>by
  rcases hb with hb | ⟨i,r,h1,h2⟩
  ·exact .inl ⟨.inl hb,fun ⟨i,r,h1,h2⟩=>by
    rcases ((hi.inn i r (old i r h1)).lo h2).1 with h3 | h3
    ·have:=C.old b hb;omega
    ·exact C.hM b hb h3⟩
  ·rcases split i r h1 with h3 | ⟨_,h3⟩
   ·obtain⟨g1,g2,g3⟩:=keepat i r h3;rw[hT1 i g1] at h2;exact .inl ⟨.inr ⟨i,r,g3,h2⟩,notLent i r b g3 g1 h2⟩
   ·rw[hT2 i (rs'at i r h3)] at h2;exact .inr ⟨i,r,h3,h2⟩
 have S:∀ts,Still w w' (Own0 C st B T) (Own0 C (St.of sl (keep++rs') tys) B T2) ts:=fun ts=>⟨F.size,fun b cs t fr hx hh ht=>by
  have hlt:b < w.heap.size:=by
   rcases Nat.lt_or_ge b w.heap.size with h | h
   ·exact h
   ·rw[Array.getElem?_eq_none h] at hh;cases hh
  refine⟨F.keep b hlt fun e=>hx (lentOwn b e),fun hb=>?_⟩;rcases hX b hb with h1 | h1
  ·exact hx h1.1
  ·rcases hnew b h1 with h2 | h2
   ·exact hx (lentOwn b h2)
   ·omega⟩
 have S':∀ts,Still w' w' (OwnZ (fun b=>Own0 C st B T b∧¬LentR rs B T b) rs' B T') (Own0 C (St.of sl (keep++rs') tys) B T2) ts:=fun ts=>⟨nr _,fun b cs t fr hx hh ht=>⟨rfl,fun hb=>hx (hX b hb)⟩⟩
 have reS:∀{s:SV} {u:Value},SV.Rep w (Own0 C st B T) B T s u→(∀i∈s.tids,lookL rs i=none)→SV.Rep w' (Own0 C (St.of sl (keep++rs') tys) B T2) B T2 s u:=fun h1 h2=>(h1.still (S _) (B':=B) (T':=T) fun _ _=>⟨rfl,rfl⟩).reT fun i hi=>hT1 i (h2 i hi)
 refine⟨B,T2,put_size.trans hi.size,put_dfr.trans hi.dfr,hi.gr.step F fun b _ ⟨i,r,h1,h2⟩=>((hi.inn i r (old i r h1)).lo h2).1,fun t s e=>?_,fun t s e i hi2=>?_,fun i r e=>?_,fun i r e j hj=>?_,fun i r j q b h1 h2 h3 h4=>?_⟩
 ·have e':lookL sl t=some s:=e;have h1:=hi.slot t s (hsl.at e');have h2:(a.put dst v).tmps.getD t undef=a.tmps.getD t undef:=by
   cases dst with
   | none=>rfl
   | some d=>
    refine getD_put_ne fun e3=>?_
    rw[e3,show lookL sl d=none from by simpa using hb1] at e';cases e'
  rw[h2];obtain⟨p,hp,rfl⟩:=lookL_mem e';exact reS h1 (hb2 p hp)
 ·have e':lookL sl t=some s:=e;obtain⟨p,hp,rfl⟩:=lookL_mem e';exact hb5.1 p hp i hi2
 ·rcases split i r e with h3 | ⟨_,h3⟩
  ·obtain⟨g1,g2,g3⟩:=keepat i r h3;have hin:=hi.inn i r g3;have oth:∀b,r.blk (B i) (T i)=some b→w'.heap[b]?=w.heap[b]?:=fun b hb=>F.keep b (blkOld i r b g3 hb) (notLent i r b g3 g1 hb)
   cases r with
   | box ty cells=>
    obtain⟨k1,us,k2,k3⟩:=hin;exact⟨k1,us,Bk.keep k2 (oth _ rfl),(k3.still (S _) (B':=B) (T':=T) fun _ _=>⟨rfl,rfl⟩).reT fun j hj=>hT1 j (g2 j hj)⟩
   | tok e k ts xs=>
    obtain⟨us,k1,k2,k3,k4,k5,k6⟩:=hin;refine⟨us,?_,PV.RepLL.still (ts:=ts) k2 (S _) fun r hr c hc=>((k3 r hr).2 c hc).2,k3,?_,k5,?_⟩
    ·rw[hT1 i g1];exact rw_keep k1 oth
    ·rw[hT1 i g1];exact k4
    ·rw[hT1 i g1];exact k6
  ·have hin:=hm.inn i r h3;have hin2:r.In C.lo w' (Own0 C (St.of sl (keep++rs') tys) B T2) B T' i:=hin.wide (fun b hb _=>by
    rcases hnew b ⟨i,r,h3,hb⟩ with ⟨j,q,g1,g2⟩ | g1
    ·exact ((hi.inn j q (old j q g1)).lo g2).1
    ·exact .inl (nt hi.gr.size g1)) fun b hb=>hX b hb
   exact hin2.reB rfl (hT2 i (rs'at i r h3)) fun j hj=>⟨rfl,hT2 j (by
    obtain⟨q,hq⟩:=Option.isSome_iff_exists.1 (hm.alive i r h3 j hj);exact rs'at j q hq)⟩
 ·obtain⟨p,hp,rfl⟩:=lookL_mem e;exact (hb5.2 p hp).1 j hj
 ·have bl:∀i r,lookL (keep++rs') i=some r→r.blk (B i) (T2 i)=some b→(st.res i=some r∧lookL rs i=none∧r.blk (B i) (T i)=some b)∨(lookL rs' i=some r∧r.blk (B i) (T' i)=some b):=fun i r h1 h2=>by
   rcases split i r h1 with h3 | ⟨_,h3⟩
   ·obtain⟨g1,g2,g3⟩:=keepat i r h3;rw[hT1 i g1] at h2;exact .inl ⟨g3,g1,h2⟩
   ·rw[hT2 i (rs'at i r h3)] at h2;exact .inr ⟨h3,h2⟩
  have cross:∀i r j q,st.res i=some r→lookL rs i=none→r.blk (B i) (T i)=some b→lookL rs' j=some q→q.blk (B j) (T' j)=some b→False:=fun i r j q g1 g2 g3 g4 g5=>by
   rcases hnew b ⟨j,q,g4,g5⟩ with g6 | g6
   ·exact notLent i r b g1 g2 g3 g6
   ·have:=blkOld i r b g1 g3;omega
  rcases bl i r h1 h3 with ⟨g1,g2,g3⟩ | ⟨g1,g2⟩
  ·rcases bl j q h2 h4 with ⟨g4,g5,g6⟩ | ⟨g4,g5⟩
   ·exact hi.apart i r j q b g1 g4 g3 g6
   ·exact (cross i r j q g1 g2 g3 g4 g5).elim
  ·rcases bl j q h2 h4 with ⟨g4,g5,g6⟩ | ⟨g4,g5⟩
   ·exact (cross j q i r g4 g5 g6 g1 g2).elim
   ·exact hm.apart i r j q b g1 g4 g2 g5
theorem pre_lent {a:Act} {w:World} {B:Nat→Nat} {T:Nat→Sv} {rs:List (Nat×Res)} (hi:InvB C st a w B T) (hrs:AllL st.res rs) (hal:(rs.all fun p=>idsOk rs p.2.ids)=true):MPre w (fun b=>Own0 C st B T b∧¬LentR rs B T b) B T rs∧∀b,OwnZ (fun b=>Own0 C st B T b∧¬LentR rs B T b) rs B T b→Own0 C st B T b:=by
 have sub:∀b,OwnZ (fun b=>Own0 C st B T b∧¬LentR rs B T b) rs B T b→Own0 C st B T b:=fun b hb=>by
  rcases hb with hb | ⟨i,r,h1,h2⟩
  ·exact hb.1
  ·exact .inr ⟨i,r,hrs.at h1,h2⟩
 refine⟨⟨fun i r h=>(hi.inn i r (hrs.at h)).wide (fun _ _ _=>trivial) sub,fun i r h j hj=>?_,fun i r j q b h1 h2 h3 h4=>hi.apart i r j q b (hrs.at h1) (hrs.at h2) h3 h4⟩,sub⟩;obtain⟨p,hp,rfl⟩:=lookL_mem h;exact List.all_eq_true.1 (List.all_eq_true.1 hal p hp) j hj
theorem does_m {c:Call} {f:FuncId} {args:List SV} {res:PV} {rs rs' keep:List (Nat×Res)} {sl:List (Nat×SV)} {Tg:List Nat} {a:Act} {w:World} (hG:LaidG C.w0) (hM:¬C.M 0) (hp:MCalls C.P Tg f args rs rs' res) (ho:o.op=.call c) (run:∀us:List Value,c.args.toList.map a.eval=us→∃us2:List Value,(execOp a.eval o).run C.P w=.ok (.enter f (us++us2).toArray) w∧∀B T,InvB C st a w B T→SV.RepL w (Own0 C st B T) B T args (us++us2)∧∀i∈SV.idsL args,(lookL rs i).isSome=true)
  (hrs:AllL st.res rs) (hsl:AllL st.slot sl) (hkeep:AllL st.res keep) (hal:(rs.all fun p=>idsOk rs p.2.ids)=true) (hb:backB o.dst sl keep rs rs' st.tys=true) (hT:Tg.all (fun t=>C.T.contains t)=true) (hty:Tg.all (fun t=>!st.tys.contains t)=true) (hd:∀d,o.dst=some d→d < C.N) (ht:TysOk st st.tys) (hi:Inv C st a w):doesAt C.P o a w fun v w'=>TysOk (St.of sl (keep++rs') st.tys) st.tys∧Inv C (St.of sl (keep++rs') st.tys) (a.put o.dst v) w':=by
 obtain⟨B,T,hi⟩:=hi;obtain⟨us2,hrun,hargs⟩:=run _ rfl;obtain⟨ha,hids⟩:=hargs B T hi;obtain⟨hpre,sub⟩:=pre_lent hi hrs hal;have old:∀b,Own0 C st B T b→b < w.heap.size:=fun b hb=>by
  rcases hb with hb | ⟨i,r,hr,hb⟩
  ·exact nk (C.old b hb) hi.gr.size
  ·exact ((hi.inn i r hr).lo hb).2
 have hcall:=hp.2 w (fun b=>Own0 C st B T b∧¬LentR rs B T b) B T _ (fun b hb=>old b hb.1) (fun b cs t fr hb hh htg=>by
  have htc:=List.all_eq_true.1 hT t htg;have hty':=List.all_eq_true.1 hty t htg;rcases hb.1 with hb1 | ⟨i,r,hr,hb1⟩
  ·have hh':C.w0.heap[b]?=some (.cells cs t fr):=by rw[← hi.gr.old hb1];exact hh
   exact C.hT b cs t fr hb1 hh' (List.contains_iff_mem.1 htc)
  ·have h1:=(hi.inn i r hr).typ hb1 hh;have h2:=ht i r hr;rw[← h1] at h2;rw[List.contains_iff_mem.2 h2] at hty';cases hty') (fun b hb=>hb.2) (hG.cx hM hi.gr) (fun ⟨i,r,h1,h2⟩=>hG.lo hM ((hi.inn i r (hrs.at h1)).lo h2).1) hpre (ha.still (B':=B) (T':=T) ⟨nr _,fun b cs t fr hx hh ht=>⟨rfl,fun hb=>hx (sub b hb)⟩⟩ fun _ _=>⟨rfl,rfl⟩) hids
 refine doesAt_enter hrun (hcall.mono fun e w' ⟨v,T',he,_,hm,F,hnew⟩=>⟨v,he,fun i r hr=>?_,inv_back hi hrs hsl hkeep hb hm F hnew hd⟩);simp only[backB,be] at hb;have hb5:=hb.2;simp only[ofB,be,List.all_eq_true] at hb5;obtain⟨p,hp,rfl⟩:=lookL_mem hr;exact List.contains_iff_mem.1 (hb5.2 p hp).2
end
def St.initM (args:List SV) (rs:List (Nat×Res)) (tys:List Nat):St:=⟨fun t=>args[t]?,lookL rs,tys⟩
def RetM (P:Program) (tab:Tab) (fn:Func) (res:PV) (rs':List (Nat×Res)):Exit→St→Prop
 | .ret,st | .normal,st=>RetOk P tab fn st res∧AllL st.res rs'
 | _,_=>False
def mcB (rs rs':List (Nat×Res)) (tys:List Nat) (N:Nat):Bool:=(rs.all fun p=>Nat.ble N p.1&&tys.contains p.2.typ)&&rs'.all fun p=>(lookL rs p.1).isSome&&p.2.ids.all fun i=>(lookL rs' i).isSome
section
variable {P:Program} {tab:Tab}
theorem MCalls.of {T:List Nat} {f:FuncId} {args:List SV} {rs rs':List (Nat×Res)} {res:PV} {fn:Func} {c:Code} (tys:List Nat) (hT:TblOk P tab) (hm:P.follows .mixedOrders=true) (hcall:callB P f=true) (hf:P.funcs[f]?=some fn) (hb:fn.body=some c) (hn:Nat.ble args.length fn.ntmps=true) (hck:mcB rs rs' tys fn.ntmps=true) (h:∀D:Dom P T,LaidG D.w0→¬D.M 0→PW (D.cx fn.ntmps) c (St.initM args rs tys) (RetM P tab fn res rs')):MCalls P T f args rs rs' res:=by
 refine⟨hcall,fun w X B Tk us hX hXT hXL hG hM0 hpre hr hids=>?_⟩;have hn:=Nat.le_of_ble_eq_true hn;simp only[mcB,be,List.all_eq_true] at hck
 let D:Dom P T:=⟨w,X,hX,hm,hXT,LentR rs B Tk,hXL,fun i=>(lookL rs i).isSome=true,B⟩
 have mem:∀{l:List (Nat×Res)} {i:Nat} {r:Res},lookL l i=some r→∃p∈l,p.1=i∧p.2=r:=fun {l}=>by
  induction l with
  | nil=>intro i r e;cases e
  | cons p l ih=>
   intro i r e;obtain⟨j,x⟩:=p;rw[lookL] at e;cases hbq:Nat.beq i j with
   | true=>rw[hbq] at e;injection e with e;exact⟨_,mf ..,(Nat.eq_of_beq_eq_true hbq).symm,e⟩
   | false=>
    rw[hbq] at e;obtain⟨p,h1,h2⟩:=ih e;exact⟨p,List.mem_cons_of_mem _ h1,h2⟩
 refine calls_of_wp hf hb ?_;have hlen:=hr.len;have hinv:Inv (D.cx fn.ntmps) (St.initM args rs tys) { tmps:=us.toArray++Array.replicate (fn.ntmps - us.toArray.size) undef,defers:=[] } w:=by
  refine⟨B,Tk,⟨by simp;omega,rfl,⟨Fr.refl _ w,fun i h=>rfl⟩,fun t s e=>?_,fun t s e i hi=>?_,fun i r e=>?_,fun i r e=>hpre.alive i r e,fun i r j q b e1 e2=>hpre.apart i r j q b e1 e2⟩⟩
  ·obtain⟨u,hu,hpr⟩:=hr.at (show args[t]?=some s from e);have hut:(us.toArray++Array.replicate (fn.ntmps - us.toArray.size) undef).getD t undef=u:=by
    have hlt:=(gs hu).1;rw[Array.getD_eq_getD_getElem?,Array.getElem?_append_left (by simpa using hlt)];simp[hu]
   rw[hut];exact hpr
  ·exact hids i (idsL_mem (mg (show args[t]?=some s from e)) hi)
  ·exact (hpre.inn i r e).wide (fun b hb _=>.inr ⟨i,r,e,hb⟩) fun b hb=>hb
 refine Code.wp_mono (fun e a w' hq=>?_) (h D hG hM0 _ w (fun i r e=>by
  obtain⟨p,h1,h2,h3⟩:=mem (show lookL rs i=some r from e);have:=(hck.1 p h1).2;rw[h3] at this;exact List.contains_iff_mem.1 this) hinv)
 obtain⟨st,h1,_,h3⟩:=hq;have fin:RetOk P tab fn st res∧AllL st.res rs'→∃v,(results fn a.tmps).run P w'=.ok v w'∧a.defers=[]∧∃T',res.Rep w' X v∧MPre w' X B T' rs'∧Fr (LentR rs B Tk) w w'∧∀b,LentR rs' B T' b→LentR rs B Tk b∨w.heap.size≤b:=fun ⟨h1,h2⟩=>by
  obtain⟨v,g1,g2⟩:=ret_run (C:=D.cx fn.ntmps) hT h3 h1;obtain⟨B',T',hi⟩:=h3;have inrs:∀i,(lookL rs' i).isSome=true→(lookL rs i).isSome=true∧fn.ntmps≤i:=fun i hi=>by
   obtain⟨r,hr⟩:=Option.isSome_iff_exists.1 hi;obtain⟨p,k1,k2,k3⟩:=mem hr;have k4:=(hck.2 p k1).1;obtain⟨q,hq⟩:=Option.isSome_iff_exists.1 k4;obtain⟨p2,k5,k6,k7⟩:=mem hq;rw[← k2];exact⟨k4,by rw[← k6];exact Nat.le_of_ble_eq_true (hck.1 p2 k5).1⟩
  have fixB:∀i,(lookL rs' i).isSome=true→B i=B' i:=fun i hi2=>(hi.gr.fix i (inrs i hi2)).symm
  have some':∀{i r},lookL rs' i=some r→(lookL rs' i).isSome=true:=fun h=>by rw[h];rfl
  have sub:∀b,OwnZ X rs' B T' b→Own0 (D.cx fn.ntmps) st B' T' b:=fun b hb=>by
   rcases hb with hb | ⟨i,r,k1,k2⟩
   ·exact .inl hb
   ·rw[fixB i (some' k1)] at k2;exact .inr ⟨i,r,h2.at k1,k2⟩
  have hal:∀i r,lookL rs' i=some r→∀j∈r.ids,(lookL rs' j).isSome=true:=fun i r k1 j hj=>by
   obtain⟨p,k2,k3,k4⟩:=mem k1;have:=(hck.2 p k2).2 j (by rw[k4];exact hj);exact this
  refine⟨v,g1,hi.dfr,T',g2,⟨fun i r k1=>?_,hal,fun i r j q b k1 k2 k3 k4=>?_⟩,hi.gr.fr,fun b ⟨i,r,k1,k2⟩=>?_⟩
  ·exact ((hi.inn i r (h2.at k1)).wide (fun _ _ _=>trivial) sub).reB (fixB i (some' k1)) rfl fun j hj=>⟨fixB j (hal i r k1 j hj),rfl⟩
  ·rw[fixB i (some' k1)] at k3;rw[fixB j (some' k2)] at k4;exact hi.apart i r j q b (h2.at k1) (h2.at k2) k3 k4
  ·rw[fixB i (some' k1)] at k2;exact ((hi.inn i r (h2.at k1)).lo k2).1.symm
 cases e with
 | ret=>
  obtain⟨v,g1,g2,T',g3⟩:=fin h1;exact bodyPost_ret g1 g2 ⟨v,T',rfl,g3⟩
 | normal=>
  obtain⟨v,g1,g2,T',g3⟩:=fin h1;exact bodyPost_end g1 g2 ⟨v,T',rfl,g3⟩
 | _=>exact h1.elim
end
def PCallsG (P:Program) (T:List Nat) (f:FuncId) (args:List PV) (res:PV):Prop:=callB P f=true∧
 ∀(w:World) (X:Nat→Prop) (us:List Value),LaidG w→(∀b,X b→b < w.heap.size)→(∀b cs t fr,X b→w.heap[b]?=some (.cells cs t fr)→t ∉ T)→PV.RepL w X args us→
  Calls P f us.toArray w fun e w'=>∃v,e=.returned v∧res.Rep w' X v∧Gr w w'
def NCalls (P:Program) (Tg:List Nat) (f:FuncId) (args:List PV) (e k:Nat) (ts:List Nat) (xs:List (List PV)):Prop:=callB P f=true∧
 ∀(w:World) (X:Nat→Prop) (us:List Value),(∀b,X b→b < w.heap.size)→(∀b cs t fr,X b→w.heap[b]?=some (.cells cs t fr)→t ∉ Tg)→PV.RepL w X args us→
  Calls P f us.toArray w fun ex w'=>∃(x:Sv) (vs:List (List Value)),ex=.returned x.v∧w'.ownsRow 0 e k x.v x.n vs.flatten∧(∀b,x.v.ownBlock=some b→w.heap.size≤b)∧PV.RepLL w' (fun b=>X b∨x.v.ownBlock=some b) xs vs∧RowOk k ts xs∧x.n=xs.length∧0 < k∧Gr w w'
theorem NCalls.p {P:Program} {Tg:List Nat} {f:FuncId} {args:List PV} {e k:Nat} {ts:List Nat} {xs:List (List PV)} (h:NCalls P Tg f args e k ts xs):PCalls P Tg f args (.rows e k ts xs):=
 ⟨h.1,fun w X us hX hXT hr=>(h.2 w X us hX hXT hr).mono fun ex w' ⟨x,vs,h1,h2,h3,h4,h5,h6,h7,G⟩=>⟨x.v,h1,by
  obtain⟨g1,g2⟩:=row_is h2 rfl rfl h7;rw[PV.Rep];exact⟨x,vs,rfl,h6,g1,g2,fun ad ha hn hx=>absurd (hX _ hx) (Nat.not_lt.2 (h3 ad.block (by show (Value.slice x.A x.n x.c).ownBlock=_;rw[ha];rfl))),PV.RepLL.still (ts:=ts) h4 ⟨nr _,fun b cs t fr hx hh ht=>⟨rfl,fun hb=>hx (.inl hb)⟩⟩ fun r hr c hc=>((h5 r hr).2 c hc).2,h5⟩,G⟩⟩
def RetN (fn:Func) (e k:Nat) (ts:List Nat) (xs:List (List PV)):Exit→St→Prop
 | .ret,st=>∃t,fn.results.toList=[.tmp t]∧0 < k∧((∃i,st.slot t=some (.tok i)∧st.res i=some (.tok e k ts xs))∨∃s,st.slot t=some s∧s.nul=true∧xs=[])
 | _,_=>False
theorem NCalls.of {P:Program} {T:List Nat} {f:FuncId} {args:List PV} {e k:Nat} {ts:List Nat} {xs:List (List PV)} {fn:Func} {c:Code} (tys:List Nat) (hm:P.follows .mixedOrders=true) (hcall:callB P f=true) (hf:P.funcs[f]?=some fn) (hb:fn.body=some c) (hn:Nat.ble args.length fn.ntmps=true) (h:∀D:Dom P T,(∀b,¬D.M b)→PW (D.cx fn.ntmps) c (St.init args tys) (RetN fn e k ts xs)):NCalls P T f args e k ts xs:=by
 refine⟨hcall,fun w X us hX hXT hr=>?_⟩;have hn:=Nat.le_of_ble_eq_true hn
 let D:Dom P T:=⟨w,X,hX,hm,hXT,fun _=>False,(fun _ _ h=>h),fun _=>False,fun _=>0⟩
 refine calls_of_wp hf hb ?_;have hlen:=hr.len;have hinv:Inv (D.cx fn.ntmps) (St.init args tys) { tmps:=us.toArray++Array.replicate (fn.ntmps - us.toArray.size) undef,defers:=[] } w:=by
  refine⟨fun _=>0,fun _=>Sv.none,⟨by simp;omega,rfl,⟨Fr.refl _ w,fun i h=>h.1.elim⟩,fun t s e=>?_,fun t s e i hi=>?_,(fun i r e=>by cases e),(fun i r e=>by cases e),fun i r j q b e=>by cases e⟩⟩
  ·simp only[St.init] at e;obtain⟨p,hp,rfl⟩:=Option.map_eq_some_iff.1 e;obtain⟨u,hu,hpr⟩:=hr.at hp;rw[SV.Rep];have hut:(us.toArray++Array.replicate (fn.ntmps - us.toArray.size) undef).getD t undef=u:=by
    have hlt:=(gs hu).1;rw[Array.getD_eq_getD_getElem?,Array.getElem?_append_left (by simpa using hlt)];simp[hu]
   rw[hut];exact hpr.still ⟨nr _,fun b cs t fr hx hh ht=>⟨rfl,fun hb=>by
    rcases hb with hb | ⟨i,r,hr,_⟩
    ·exact hx hb
    ·cases hr⟩⟩
  ·simp only[St.init] at e;obtain⟨p,hp,rfl⟩:=Option.map_eq_some_iff.1 e;cases (show i∈([]:List Nat) from hi)
 refine Code.wp_mono (fun ex a w' hq=>?_) (h D (fun _ h=>h) _ w (fun i r e=>by cases e) hinv);obtain⟨st,h1,_,⟨B,T',hi⟩⟩:=hq;cases ex with
 | ret=>
  obtain⟨t,ht,hk0,h1⟩:=h1;have hres:(results fn a.tmps).run P w'=.ok (a.tmps.getD t undef) w':=by
   unfold results;rw[show fn.results=#[.tmp t] from by rw[← ht]];rw[Sem.run_bind,Array.mapM_eq_mapM_toList,map_eq_pure_bind,Sem.run_bind];simp[List.mapM_cons,Sem.run_bind]
  have G:Gr w w':=Gr.of_fr hi.gr.fr;rcases h1 with ⟨i,h2,h3⟩ | ⟨s,h2,h3,rfl⟩
  ·have h4:=hi.slot t _ h2;rw[SV.Rep] at h4;obtain⟨vs,g1,g2,g3,g4,g5,g6⟩:=hi.inn i _ h3;refine bodyPost_ret hres hi.dfr ⟨T' i,vs,by rw[h4],g1,fun b hb=>(g6 b hb).elim id (fun h=>h.elim),PV.RepLL.still (ts:=ts) g2 ⟨nr _,fun b cs t fr hx hh ht=>⟨rfl,fun hb=>hx (hb.elim .inl fun h=>.inr ⟨i,_,h3,h⟩)⟩⟩ fun r hr c hc=>((g3 r hr).2 c hc).2,g3,g4,g5,G⟩
  ·have h4:=nul_rep h3 (hi.slot t s h2);exact bodyPost_ret hres hi.dfr ⟨Sv.none,[],by rw[h4],World.ownsRow_nil w' _ _ _,(fun b hb=>by cases hb),PV.RepLL.nil,(fun r hr=>by cases hr),rfl,hk0,G⟩
 | _=>exact h1.elim
section
variable {C:Cx} {tys:List Nat} {o:Oper} {st:St}
theorem opE_callN {c:Call} {f:FuncId} {ss:List SV} {ps:List PV} {e k id:Nat} {ts:List Nat} {xs:List (List PV)} {Tg:List Nat} (hp:NCalls C.P Tg f ps e k ts xs) (ho:o.op=.call c) (hc:c.callee=.value (.func f)) (ha:evL st c.args.toList=some ss) (hco:coSVL st ss=some ps) (hids:(SV.idsL ss).isEmpty=true) (hre:st.res id=none) (he:st.tys.contains e=true) (hT:Tg.all (fun t=>C.T.contains t)=true) (hty:Tg.all (fun t=>!st.tys.contains t)=true) (hd:∀d,o.dst=some d→d < C.N):
  OpE C st.tys o st ⟨.tok id,some (id,.tok e k ts xs),[id],true⟩:=by
 have hids:=List.isEmpty_iff.1 hids;refine⟨fun i r e1=>by injection e1 with e1;injection e1 with e1 e2;subst e1 e2;exact⟨List.mem_singleton.2 rfl,List.contains_iff_mem.1 he⟩,fun st1 h1 h2 h3 a w ⟨B,T,hi⟩=>?_⟩;rw[← h2 id (List.mem_singleton.2 rfl)] at hre;have ha':=ha;rw[← evL_agree (o:=o) (st1:=st1) (rb:=[]) ⟨h1,fun i hi=>by cases hi⟩ fun x hx=>by
  rw[ho];simp only[Op.operands,Call.operands,hc,Array.mem_append];exact .inr (Array.mem_toList_iff.1 hx)] at ha'
 obtain⟨g1,g2⟩:=evL_rep hi ha';have hco':=(coSVL_ok hco).move (st1:=st1) fun i hi=>by rw[hids] at hi;cases hi
 have old:∀b,Own0 C st1 B T b→b < w.heap.size:=fun b hb=>by
  rcases hb with hb | ⟨i,r,hr,hb⟩
  ·exact nk (C.old b hb) hi.gr.size
  ·exact ((hi.inn i r hr).lo hb).2
 have hrep:PV.RepL w (Own0 C st1 B T) ps (c.args.toList.map a.eval):=CoL.rep hi hco' g1 fun b hb=>⟨hb,fun ⟨i,hi,k⟩=>by rw[hids] at hi;cases hi⟩
 have run:(execOp a.eval o).run C.P w=.ok (.enter f (c.args.map a.eval)) w:=by
  simp only[execOp,ho,resolve,hc,Sem.run_bind];have hf:a.eval (.func f)=.func (.func f) #[] #[]:=rfl;rw[hf];simp only[Deferred.ofValue];simp[invoke,callB_run hp.1]
 refine doesAt_enter run ?_;have hcall:=hp.2 w (Own0 C st1 B T) (c.args.toList.map a.eval) old (fun b cs t fr hb hh ht=>by
  have htc:=List.all_eq_true.1 hT t ht;have hty':=List.all_eq_true.1 hty t ht;rcases hb with hb1 | ⟨i,r,hr,hb1⟩
  ·have hh':C.w0.heap[b]?=some (.cells cs t fr):=by rw[← hi.gr.old hb1];exact hh
   exact C.hT b cs t fr hb1 hh' (List.contains_iff_mem.1 htc)
  ·have h4:=(hi.inn i r hr).typ hb1 hh;have h5:=h3 i r hr;rw[← h4] at h5;rw[List.contains_iff_mem.2 h5] at hty';cases hty') hrep
 rw[show (c.args.map a.eval)=(c.args.toList.map a.eval).toArray from by rw[← Array.toList_map,Array.toArray_toList]];refine hcall.mono fun ex w' ⟨x,vs,hv,k1,k2,k3,k4,k5,k6,G⟩=>⟨x.v,hv,?_⟩
 exact inv_tokG (own:=none) hi (fun r hr=>by rw[hre] at hr;cases hr) (fun _=>rfl) (G.fr.wide fun _ _ h=>h.elim) k1 (by
  cases hb:x.v.ownBlock with
  | none=>exact .inr (.inr rfl)
  | some b=>exact .inr (.inl ⟨b,rfl,k2 b hb⟩)) k3 k4 k5 k6 hd
end
theorem doesAt_mono {P:Program} {o:Oper} {a:Act} {W:World} {K K':Value→World→Prop} (h:∀v w,K v w→K' v w) (hd:doesAt P o a W K):doesAt P o a W K':=by
 unfold doesAt at hd ⊢;split at hd<;>first
  | exact h _ _ hd
  | exact hd
  | exact hd.mono fun e w' ⟨v,e1,e2⟩=>⟨v,e1,h _ _ e2⟩
def coArg (st:St) (s:SV):Option SV:=match s.ids with
 | []=>(match coSV st s with
  | some p=>some (.pv p)
  | none=>none)
 | _=>some s
def coArgs (st:St):List SV→Option (List SV)
 | []=>some []
 | s::ss=>match coArg st s,coArgs st ss with
  | some a,some qs=>some (a::qs)
  | _,_=>none
section
variable {C:Cx} {st:St} {a:Act} {w:World} {B:Nat→Nat} {T:Nat→Sv}
theorem coArg_rep (h:InvB C st a w B T) {s p:SV} {v:Value} (hc:coArg st s=some p) (hr:s.Rep w (Own0 C st B T) B T v) (hl:∀i∈s.ids,(st.res i).isSome=true):p.Rep w (Own0 C st B T) B T v∧∀i∈p.ids,i∈s.ids:=by
 unfold coArg at hc;split at hc
 ·rename_i hids
  split at hc
  ·rename_i q hq
   injection hc with hc;subst hc;refine⟨?_,fun i hi=>by cases (show i∈([]:List Nat) from hi)⟩;rw[SV.Rep];exact Co.rep h (coSV_ok hq) hr fun b hb=>⟨hb,fun ⟨i,hi,_⟩=>by rw[hids] at hi;cases hi⟩
  ·cases hc
 ·injection hc with hc;subst hc;exact⟨hr,fun i hi=>hi⟩
theorem coArgs_rep (h:InvB C st a w B T):∀{ss ps:List SV} {us:List Value},coArgs st ss=some ps→SV.RepL w (Own0 C st B T) B T ss us→(∀i∈SV.idsL ss,(st.res i).isSome=true)→SV.RepL w (Own0 C st B T) B T ps us
 | [],ps,us,hc,hr,_=>by rw[coArgs] at hc;injection hc with hc;subst hc;exact hr
 | s::ss,ps,us,hc,hr,hl=>by
  rw[coArgs] at hc;split at hc
  ·rename_i p ps' h1 h2
   injection hc with hc;subst hc;rw[SV.RepL] at hr;obtain⟨u,us',rfl,h3,h4⟩:=hr;rw[SV.idsL] at hl;exact SV.RepL.cons (coArg_rep h h1 h3 fun i hi=>hl i (List.mem_append_left _ hi)).1 (coArgs_rep h h2 h4 fun i hi=>hl i (List.mem_append_right _ hi))
  ·cases hc
end
def mB (st:St) (dst:Option Nat) (args:List SV) (sl:List (Nat×SV)) (keep rs rs':List (Nat×Res)) (Tg T:List Nat):Bool:=
 (rs.all fun p=>idsOk rs p.2.ids)&&idsOk rs (SV.idsL args)&&backB dst sl keep rs rs' st.tys&&(Tg.all (fun t=>T.contains t)&&Tg.all (fun t=>!st.tys.contains t))
section
variable {T:List Nat} {D:Dom Tryz.prog T} {N:Nat} {st:St} {Q:Exit→St→Prop} {ops:List Oper} {draw:Bool} {acc:List Itm}
theorem rm0 {k:Nat} {c:Call} {f:FuncId} {ss args:List SV} {rs rs':List (Nat×Res)} {res:PV} {Tg:List Nat} {dst:Option Nat} {ty:TypeId} {pos:String} {af:Array Edge} {gd:Option (Nat×Bool)} (sl:List (Nat×SV)) (keep:List (Nat×Res)) (hG:LaidG D.w0∧¬D.M 0) (hp:MCalls Tryz.prog Tg f args rs rs' res) (hk:nthL ops k=some ⟨dst,.call c,ty,pos,af,gd⟩) (hw:wantS ops.toArray ⟨dst,.call c,ty,pos,af,gd⟩ st=some true) (hd:dstB ⟨dst,.call c,ty,pos,af,gd⟩ N=true) (hc:c.callee=.value (.func f)) (ha:evL st c.args.toList=some ss) (hco:coArgs st ss=some args) (hrs:AllL st.res rs) (hsl:AllL st.slot sl) (hkeep:AllL st.res keep) (hB:mB st dst args sl keep rs rs' Tg T=true) (hch:(!draw||(monoB ops.toArray (depsOf ops.toArray)&&freeB (depsOf ops.toArray) acc))=true) (hl:(!draw||lastB (depsOf ops.toArray) k acc)=true) (q:Q .normal (St.of sl (keep++rs') st.tys)):Reg (D.cx N) ops draw Q acc [k] st:=by
 simp only[mB,be] at hB;obtain⟨⟨⟨h1,h2⟩,h3⟩,h4,h5⟩:=hB;refine reg_last hch hl ⟨_,nthL_arr hk,hw,fun a w ht hi=>?_⟩;have:=does_m (C:=D.cx N) (o:=⟨dst,.call c,ty,pos,af,gd⟩) (sl:=sl) (keep:=keep) (a:=a) (w:=w) hG.1 hG.2 hp rfl (fun us hus=>⟨[],?_,fun B T hi=>?_⟩) hrs hsl hkeep h1 h3 h4 h5 (dstB_ok hd) ht hi
 ·exact doesAt_mono (fun v w' ⟨h6,h7⟩=>⟨_,q,h6,h7⟩) this
 ·subst hus;rw[List.append_nil];simp only[execOp,resolve,hc,Sem.run_bind];have hf:a.eval (.func f)=.func (.func f) #[] #[]:=rfl;rw[hf];simp only[Deferred.ofValue];simp[invoke,callB_run hp.1];rw[← Array.toList_map,Array.toArray_toList]
 ·subst hus;obtain⟨g1,g2⟩:=evL_rep hi ha;rw[List.append_nil];exact⟨coArgs_rep hi hco g1 g2,fun i hi=>List.all_eq_true.1 h2 i hi⟩
theorem rmv0 {k:Nat} {c:Call} {f:FuncId} {x:Operand} {ss args caps:List SV} {rs rs':List (Nat×Res)} {res:PV} {Tg:List Nat} {dst:Option Nat} {ty:TypeId} {pos:String} {af:Array Edge} {gd:Option (Nat×Bool)} (sl:List (Nat×SV)) (keep:List (Nat×Res)) (hG:LaidG D.w0∧¬D.M 0) (hp:MCalls Tryz.prog Tg f (args++caps) rs rs' res) (hk:nthL ops k=some ⟨dst,.call c,ty,pos,af,gd⟩) (hw:wantS ops.toArray ⟨dst,.call c,ty,pos,af,gd⟩ st=some true) (hd:dstB ⟨dst,.call c,ty,pos,af,gd⟩ N=true) (hc:c.callee=.value x) (hx:ev st x=some (.fn f caps)) (ha:evL st c.args.toList=some ss) (hco:coArgs st ss=some args) (hrs:AllL st.res rs) (hsl:AllL st.slot sl) (hkeep:AllL st.res keep) (hB:mB st dst (args++caps) sl keep rs rs' Tg T=true) (hch:(!draw||(monoB ops.toArray (depsOf ops.toArray)&&freeB (depsOf ops.toArray) acc))=true) (hl:(!draw||lastB (depsOf ops.toArray) k acc)=true) (q:Q .normal (St.of sl (keep++rs') st.tys)):Reg (D.cx N) ops draw Q acc [k] st:=by
 simp only[mB,be] at hB;obtain⟨⟨⟨h1,h2⟩,h3⟩,h4,h5⟩:=hB;refine reg_last hch hl ⟨_,nthL_arr hk,hw,fun a w ht hi=>?_⟩;obtain⟨us2,hf⟩:∃us2:List Value,a.eval x=.func (.func f) #[] us2.toArray:=by
  obtain⟨B,T,hi⟩:=hi;have:=(ev_rep hi hx).1;rw[SV.Rep] at this;obtain⟨us2,h6,_⟩:=this;exact⟨us2,h6⟩
 have:=does_m (C:=D.cx N) (o:=⟨dst,.call c,ty,pos,af,gd⟩) (sl:=sl) (keep:=keep) (a:=a) (w:=w) hG.1 hG.2 hp rfl (fun us hus=>⟨us2,?_,fun B T hi=>?_⟩) hrs hsl hkeep h1 h3 h4 h5 (dstB_ok hd) ht hi
 ·exact doesAt_mono (fun v w' ⟨h6,h7⟩=>⟨_,q,h6,h7⟩) this
 ·subst hus;simp only[execOp,resolve,hc,Sem.run_bind];rw[hf];simp only[Deferred.ofValue];simp[invoke,callB_run hp.1]
 ·subst hus;obtain⟨g1,g2⟩:=evL_rep hi ha;have g3:=(ev_rep hi hx).1;rw[SV.Rep,hf] at g3;obtain⟨us3,g4,g5⟩:=g3;have:us2=us3:=by injection g4 with _ _ g4;simpa using g4
  subst this;exact⟨(coArgs_rep hi hco g1 g2).append g5,fun i hi=>List.all_eq_true.1 h2 i hi⟩
theorem rcn0 {k:Nat} {ks:List Nat} {c:Call} {f:FuncId} {ss:List SV} {ps:List PV} {e kk:Nat} {ts:List Nat} {xs:List (List PV)} {Tg:List Nat} {dst:Option Nat} {ty:TypeId} {pos:String} {af:Array Edge} {gd:Option (Nat×Bool)} (id:Nat) (hp:NCalls Tryz.prog Tg f ps e kk ts xs) (hk:nthL ops k=some ⟨dst,.call c,ty,pos,af,gd⟩) (hw:wantS ops.toArray ⟨dst,.call c,ty,pos,af,gd⟩ st=some true) (hd:dstB ⟨dst,.call c,ty,pos,af,gd⟩ N=true) (hc:c.callee=.value (.func f)) (ha:evL st c.args.toList=some ss) (hco:coSVL st ss=some ps) (hr:st.res id=none) (hT:((SV.idsL ss).isEmpty&&st.tys.contains e&&(Tg.all (fun t=>T.contains t)&&Tg.all (fun t=>!st.tys.contains t)))=true) (next:Reg (D.cx N) ops draw Q (acc++[⟨k,true,⟨.tok id,some (id,.tok e kk ts xs),[id],true⟩,lkOf ops k st (⟨.tok id,some (id,.tok e kk ts xs),[id],true⟩:Eff)⟩]) ks ((⟨.tok id,some (id,.tok e kk ts xs),[id],true⟩:Eff).app dst st)):Reg (D.cx N) ops draw Q acc (k::ks) st:=by
 simp only[be] at hT;exact reg_op hk hw hd (fun hd=>opE_callN (C:=D.cx N) hp rfl hc ha hco hT.1.1 hr hT.1.2 hT.2.1 hT.2.2 hd) next
theorem rmk0 {k:Nat} {ks:List Nat} {dst:Option Nat} {t n:Nat} {x y:Operand} {ty:TypeId} {ps:String} {af:Array Edge} {gd:Option (Nat×Bool)} {l le:Lay} {kd kc:IntKind} {zm zc:Int} (id:Nat) (hn:n*l.esz≤1000000) (hi:∃i z,(Tryz.prog).info? l.elem=some i∧i.zero=some z∧i.size=l.esz∧i.bytes≤1000) (hk:nthL ops k=some ⟨dst,.makeSlice t x y,ty,ps,af,gd⟩) (hw:wantS ops.toArray ⟨dst,.makeSlice t x y,ty,ps,af,gd⟩ st=some true) (hd:dstB ⟨dst,.makeSlice t x y,ty,ps,af,gd⟩ N=true) (hl:tab.get t=some l) (hle:tab.get l.elem=some le) (hx:ev st x=some (.pv (.raw (.int kd zm)))) (hy:ev st y=some (.pv (.raw (.int kc zc)))) (hzm:zm=(n:Int)) (hzc:zc=(n:Int)) (hre:st.res id=none) (hc:(Nat.blt 0 l.esz&&Nat.beq le.zero.length l.esz&&rowOkB l.esz l.ets [le.zero.map Zk.pv]&&st.tys.contains l.elem)=true)
  (next:Reg (D.cx N) ops draw Q (acc++[⟨k,true,⟨.tok id,some (id,.tok l.elem l.esz l.ets (List.replicate n (le.zero.map Zk.pv))),[id],true⟩,lkOf ops k st (⟨.tok id,some (id,.tok l.elem l.esz l.ets (List.replicate n (le.zero.map Zk.pv))),[id],true⟩:Eff)⟩]) ks ((⟨.tok id,some (id,.tok l.elem l.esz l.ets (List.replicate n (le.zero.map Zk.pv))),[id],true⟩:Eff).app dst st)):Reg (D.cx N) ops draw Q acc (k::ks) st:=by
 simp only[be] at hc;exact reg_op hk hw hd (fun hd=>opE_make (C:=D.cx N) tab_ok rfl hl hc.1.1.1 hle hc.1.1.2 hi hx hy hzm hzc hn hre (rowOkB_ok hc.1.2) hc.2 hd) next
theorem opE_boxI {C:Cx} {o:Oper} {st:St} {t id:Nat} {x:Operand} {s:SV} {cs:List SV} (hF:¬C.F id) (ho:o.op=.box t x) (hx:ev st x=some s) (hcl:s.cl=some cs) (hres:st.res id=none) (ht:st.tys.contains t=true) (hd:∀d,o.dst=some d→d < C.N):OpE C st.tys o st ⟨.box id 0,some (id,.box t cs),id::SV.idsL cs,false⟩:=by
 refine⟨fun i r e=>by injection e with e;injection e with e1 e2;subst e1 e2;exact⟨mf ..,List.contains_iff_mem.1 ht⟩,fun st1 h1 h2 _ a w ⟨B,T,hi⟩=>?_⟩;rw[← h2 id (mf ..)] at hres;rw[← Agree.ev ⟨h1,h2⟩ (by rw[ho];simp[Op.operands])] at hx;obtain⟨h3,h4⟩:=ev_rep hi hx;obtain⟨us,h5,h6,h7,_⟩:=cl_rep h3 hcl;have run:(execOp a.eval o).run C.P w=.ok (.value (.pointer (some ⟨w.heap.size,0,none⟩))) (w.alloc (.cells us.toArray t)):=by
  simp[execOp,ho,Instr.box,newVar,newRow,h5]
 exact doesAt_value run (inv_new hi hres hF h6 (fun i hi2=>h4 i (h7 i hi2)) hd)
theorem opE_allocI {C:Cx} {o:Oper} {st:St} {tab:Tab} (hT:TblOk C.P tab) {t id:Nat} {l:Lay} (hF:¬C.F id) (ho:o.op=.alloc t) (hl:tab.get t=some l) (hres:st.res id=none) (ht:st.tys.contains t=true) (hd:∀d,o.dst=some d→d < C.N):OpE C st.tys o st ⟨.box id 0,some (id,.box t (l.zero.map Zk.sv)),[id],false⟩:=by
 have lk:=Tab.get_ok hT hl;refine⟨fun i r e=>by injection e with e;injection e with e1 e2;subst e1 e2;exact⟨mf ..,List.contains_iff_mem.1 ht⟩,fun st1 h1 h2 _ a w ⟨B,T,hi⟩=>?_⟩;rw[← h2 id (mf ..)] at hres;have hz:∃z:Value,(C.P.info? t).bind (·.zero)=some z∧z.cells=(l.zero.map Zk.val).toArray:=by
  refine⟨_,lk.zero,?_⟩;cases hag:l.agg with
  | true=>rfl
  | false=>
   have:=lk.one hag;obtain⟨z,hz⟩:=List.length_eq_one_iff.1 this;rw[hz];exact one_cells (lk.cel z (by rw[hz];exact List.mem_singleton.2 rfl))
 obtain⟨z,hz1,hz2⟩:=hz;have run:(execOp a.eval o).run C.P w=.ok (.value (.pointer (some ⟨w.heap.size,0,none⟩))) (w.alloc (.cells (l.zero.map Zk.val).toArray t)):=by
  simp[execOp,ho,Instr.alloc,rzero hz1,newVar,newRow,hz2]
 exact doesAt_value run (inv_new (id:=id) (ty:=t) (rb:=[id]) hi hres hF zk_rep (fun i hi=>(zk_ids hi).elim) hd)
theorem rbx0 {k:Nat} {ks:List Nat} {dst:Option Nat} {t:Nat} {x:Operand} {ty:TypeId} {ps:String} {af:Array Edge} {gd:Option (Nat×Bool)} {s:SV} {cs:List SV} (id:Nat) (hF:∀i,¬D.F i) (hk:nthL ops k=some ⟨dst,.box t x,ty,ps,af,gd⟩) (hw:wantS ops.toArray ⟨dst,.box t x,ty,ps,af,gd⟩ st=some true) (hd:dstB ⟨dst,.box t x,ty,ps,af,gd⟩ N=true) (hx:ev st x=some s) (hcl:s.cl=some cs) (hre:st.res id=none) (ht:st.tys.contains t=true)
  (next:Reg (D.cx N) ops draw Q (acc++[⟨k,true,⟨.box id 0,some (id,.box t cs),id::SV.idsL cs,false⟩,lkOf ops k st (⟨.box id 0,some (id,.box t cs),id::SV.idsL cs,false⟩:Eff)⟩]) ks ((⟨.box id 0,some (id,.box t cs),id::SV.idsL cs,false⟩:Eff).app dst st)):Reg (D.cx N) ops draw Q acc (k::ks) st:=
 reg_op hk hw hd (fun hd=>opE_boxI (C:=D.cx N) (fun h=>hF id h.1) rfl hx hcl hre ht hd) next
theorem ral0 {k:Nat} {ks:List Nat} {dst:Option Nat} {t:Nat} {ty:TypeId} {ps:String} {af:Array Edge} {gd:Option (Nat×Bool)} {l:Lay} (id:Nat) (hF:∀i,¬D.F i) (hk:nthL ops k=some ⟨dst,.alloc t,ty,ps,af,gd⟩) (hw:wantS ops.toArray ⟨dst,.alloc t,ty,ps,af,gd⟩ st=some true) (hd:dstB ⟨dst,.alloc t,ty,ps,af,gd⟩ N=true) (hl:tab.get t=some l) (hre:st.res id=none) (ht:st.tys.contains t=true)
  (next:Reg (D.cx N) ops draw Q (acc++[⟨k,true,⟨.box id 0,some (id,.box t (l.zero.map Zk.sv)),[id],false⟩,lkOf ops k st (⟨.box id 0,some (id,.box t (l.zero.map Zk.sv)),[id],false⟩:Eff)⟩]) ks ((⟨.box id 0,some (id,.box t (l.zero.map Zk.sv)),[id],false⟩:Eff).app dst st)):Reg (D.cx N) ops draw Q acc (k::ks) st:=
 reg_op hk hw hd (fun hd=>opE_allocI (C:=D.cx N) tab_ok (fun h=>hF id h.1) rfl hl hre ht hd) next
theorem rcg0 {k:Nat} {ks:List Nat} {c:Call} {f:FuncId} {ss:List SV} {ps:List PV} {res:PV} {Tg:List Nat} {dst:Option Nat} {ty:TypeId} {pos:String} {af:Array Edge} {gd:Option (Nat×Bool)} (hG:LaidG D.w0∧¬D.M 0) (hp:PCallsG Tryz.prog Tg f ps res) (hk:nthL ops k=some ⟨dst,.call c,ty,pos,af,gd⟩) (hw:wantS ops.toArray ⟨dst,.call c,ty,pos,af,gd⟩ st=some true) (hd:dstB ⟨dst,.call c,ty,pos,af,gd⟩ N=true) (hc:c.callee=.value (.func f)) (ha:evL st c.args.toList=some ss) (hco:coSVL st ss=some ps) (hT:(Tg.all (fun t=>T.contains t)&&(Tg.all (fun t=>!st.tys.contains t)&&lentB st (SV.idsL ss) res.ty))=true) (next:Reg (D.cx N) ops draw Q (acc++[⟨k,true,valE (.pv res) (SV.idsL ss),lkOf ops k st (valE (.pv res) (SV.idsL ss))⟩]) ks ((valE (.pv res) (SV.idsL ss)).app dst st)):Reg (D.cx N) ops draw Q acc (k::ks) st:=by
 simp only[be] at hT;exact reg_op hk hw hd (fun hd=>opE_callK (C:=D.cx N) rfl hc ha (coSVL_ok hco) ⟨hp.1,fun w B g X us=>hp.2 w X us (LaidG.cx (C:=D.cx N) hG.1 hG.2 g)⟩ hT.1 hT.2.1 hT.2.2 hd) next
theorem rz0 {k:Nat} {dst:Option Nat} {t t2:Nat} {x:Operand} {d:Nat} {ty:TypeId} {pos:String} {af:Array Edge} {gd:Option (Nat×Bool)} {e kk:Nat} {ts:List Nat} {xs:List (List PV)} (hdst:dst=some d) (hk:nthL ops k=some ⟨dst,.binOp .eql t x (.const (.slice none 0 0)) t2,ty,pos,af,gd⟩) (hw:wantS ops.toArray ⟨dst,.binOp .eql t x (.const (.slice none 0 0)) t2,ty,pos,af,gd⟩ st=some true) (hd:dstB ⟨dst,.binOp .eql t x (.const (.slice none 0 0)) t2,ty,pos,af,gd⟩ N=true) (hx:ev st x=some (.pv (.rows e kk ts xs))) (hu:∃e,(Tryz.prog).underlying t=some (.slice e)) (hch:(!draw||(monoB ops.toArray (depsOf ops.toArray)&&freeB (depsOf ops.toArray) acc))=true) (hl:(!draw||lastB (depsOf ops.toArray) k acc)=true) (q1:xs=[]→Q .normal ((valE (.pv (.raw (.bool true))) []).app dst st)) (q2:Q .normal ((valE (.pv (.raw (.bool false))) []).app dst st)):Reg (D.cx N) ops draw Q acc [k] st:=by
 refine reg_last hch hl ⟨_,nthL_arr hk,hw,fun a w ht hi=>?_⟩;obtain⟨B,T,hi⟩:=hi;have x1:=(ev_rep hi hx).1;rw[SV.Rep,PV.Rep] at x1;obtain⟨v,us,hv,hn,his,hty,hav,hrep,hok⟩:=x1;obtain⟨el,hu⟩:=hu;have hev:a.eval (.const (.slice none 0 0))=.slice none 0 0:=rfl;have app:∀b:Bool,TysOk ((valE (.pv (.raw (.bool b))) []).app dst st) ((valE (.pv (.raw (.bool b))) []).app dst st).tys∧Inv (D.cx N) ((valE (.pv (.raw (.bool b))) []).app dst st) (a.put dst (.bool b)) w:=fun b=>⟨app_tys ht fun i r e=>(by cases e),inv_val hi (Gr.refl w) (by rw[SV.Rep,PV.Rep]) (fun i hi=>by cases (show i∈([]:List Nat) from hi)) (dstB_ok hd)⟩
 cases hA:v.A with
 | none=>
  have run:(execOp a.eval ⟨dst,.binOp .eql t x (.const (.slice none 0 0)) t2,ty,pos,af,gd⟩).run (D.cx N).P w=.ok (.value (.bool true)) w:=by
   simp only[execOp,hv,hev,Sem.run_bind,Lib.run_eql_slice_nil (P:=(D.cx N).P) w t el v.A v.n v.c 0 0 hu,hA];simp[eqGuard];rw[show (v.v:Value)=.slice v.A v.n v.c from rfl,Lib.run_eql_slice_nil (P:=Tryz.prog) w t el v.A v.n v.c 0 0 hu,hA];rfl
  refine doesAt_value run ⟨_,q1 ?_,app true⟩;have h1:=(his.mk0 hA).1;rw[h1] at hn;exact List.length_eq_zero_iff.1 hn.symm
 | some ad=>
  have run:(execOp a.eval ⟨dst,.binOp .eql t x (.const (.slice none 0 0)) t2,ty,pos,af,gd⟩).run (D.cx N).P w=.ok (.value (.bool false)) w:=by
   simp only[execOp,hv,hev,Sem.run_bind,Lib.run_eql_slice_nil (P:=(D.cx N).P) w t el v.A v.n v.c 0 0 hu,hA];simp[eqGuard];rw[show (v.v:Value)=.slice v.A v.n v.c from rfl,Lib.run_eql_slice_nil (P:=Tryz.prog) w t el v.A v.n v.c 0 0 hu,hA];rfl
  exact doesAt_value run ⟨_,q2,app false⟩
theorem pcm {f:FuncId} {args:List SV} {rs rs':List (Nat×Res)} {res:PV} {fn:Func} {c:Code} (tys:List Nat) (hcall:callB Tryz.prog f=true) (hf:(Tryz.prog).funcs[f]?=some fn) (hb:fn.body=some c) (hn:(Nat.ble args.length fn.ntmps&&mcB rs rs' tys fn.ntmps)=true) (h:∀D:Dom Tryz.prog T,LaidG D.w0∧¬D.M 0→W D fn.ntmps c (St.initM args rs tys) (RetM Tryz.prog tab fn res rs')):MCalls Tryz.prog T f args rs rs' res:=by
 rw[be] at hn;exact MCalls.of tys tab_ok mixed hcall hf hb hn.1 hn.2 fun D h1 h2=>h D ⟨h1,h2⟩
theorem pcn {f:FuncId} {args:List PV} {e k:Nat} {ts:List Nat} {xs:List (List PV)} {fn:Func} {c:Code} (tys:List Nat) (hcall:callB Tryz.prog f=true) (hf:(Tryz.prog).funcs[f]?=some fn) (hb:fn.body=some c) (hn:Nat.ble args.length fn.ntmps=true) (h:∀D:Dom Tryz.prog T,W D fn.ntmps c (St.init args tys) (RetN fn e k ts xs)):NCalls Tryz.prog T f args e k ts xs:=NCalls.of tys mixed hcall hf hb hn fun D _=>h D
theorem retm {P:Program} {tab:Tab} {fn:Func} {p res:PV} {rs':List (Nat×Res)} (h:retE tab st fn.results.toList=some p) (e:p=res) (h2:AllL st.res rs'):RetM P tab fn res rs' .ret st:=⟨ret_ok h e,h2⟩
theorem retm' {P:Program} {tab:Tab} {fn:Func} {p res:PV} {rs':List (Nat×Res)} (h:retE tab st fn.results.toList=some p) (e:p=res) (h2:AllL st.res rs'):RetM P tab fn res rs' .normal st:=⟨ret_ok h e,h2⟩
theorem retn {fn:Func} {t i e k:Nat} {ts:List Nat} {xs ys:List (List PV)} (h:fn.results.toList=[.tmp t]) (hk:Nat.blt 0 k=true) (h1:st.slot t=some (.tok i)) (h2:st.res i=some (.tok e k ts ys)) (e0:ys=xs):RetN fn e k ts xs .ret st:=⟨t,h,Nat.le_of_ble_eq_true hk,.inl ⟨i,h1,by rw[h2,e0]⟩⟩
theorem retn0 {fn:Func} {t e k:Nat} {ts:List Nat} {xs:List (List PV)} {s:SV} (h:fn.results.toList=[.tmp t]) (hk:Nat.blt 0 k=true) (h1:st.slot t=some s) (h2:s.nul=true) (e0:xs=[]):RetN fn e k ts xs .ret st:=⟨t,h,Nat.le_of_ble_eq_true hk,.inr ⟨s,h1,h2,e0⟩⟩
end
theorem PCalls.ofF {P:Program} {tab:Tab} {T:List Nat} {f:FuncId} {args:List PV} {res:PV} {fn:Func} {c:Code} (tys:List Nat) (hT:TblOk P tab) (hm:P.follows .mixedOrders=true) (hcall:callB P f=true) (hf:P.funcs[f]?=some fn) (hb:fn.body=some c) (hn:Nat.ble args.length fn.ntmps=true) (h:∀D:Dom P T,(∀i,¬D.F i)→LaidG D.w0∧¬D.M 0→PW (D.cx fn.ntmps) c (St.init args tys) (RetQ P tab fn res)):PCallsG P T f args res:=by
 refine⟨hcall,fun w X us hG hX hXT hr=>?_⟩;have hn:=Nat.le_of_ble_eq_true hn
 let D:Dom P T:=⟨w,X,hX,hm,hXT,fun _=>False,(fun _ _ h=>h),fun _=>False,fun _=>0⟩
 refine calls_of_wp hf hb ?_;have hlen:=hr.len;have hinv:Inv (D.cx fn.ntmps) (St.init args tys) { tmps:=us.toArray++Array.replicate (fn.ntmps - us.toArray.size) undef,defers:=[] } w:=by
  refine⟨fun _=>0,fun _=>Sv.none,⟨by simp;omega,rfl,⟨Fr.refl _ w,fun i h=>h.1.elim⟩,fun t s e=>?_,fun t s e i hi=>?_,(fun i r e=>by cases e),(fun i r e=>by cases e),fun i r j q b e=>by cases e⟩⟩
  ·simp only[St.init] at e;obtain⟨p,hp,rfl⟩:=Option.map_eq_some_iff.1 e;obtain⟨u,hu,hpr⟩:=hr.at hp;rw[SV.Rep];have hut:(us.toArray++Array.replicate (fn.ntmps - us.toArray.size) undef).getD t undef=u:=by
    have hlt:=(gs hu).1;rw[Array.getD_eq_getD_getElem?,Array.getElem?_append_left (by simpa using hlt)];simp[hu]
   rw[hut];exact hpr.still ⟨nr _,fun b cs t fr hx hh ht=>⟨rfl,fun hb=>by
    rcases hb with hb | ⟨i,r,hr,_⟩
    ·exact hx hb
    ·cases hr⟩⟩
  ·simp only[St.init] at e;obtain⟨p,hp,rfl⟩:=Option.map_eq_some_iff.1 e;cases (show i∈([]:List Nat) from hi)
 refine Code.wp_mono (fun e a w' hq=>?_) (h D (fun _ h=>h) ⟨hG,fun h=>h⟩ _ w (fun i r e=>by cases e) hinv);obtain⟨st,h1,_,h3⟩:=hq;cases e with
 | ret=>
  obtain⟨v,g1,g2⟩:=ret_run (C:=D.cx fn.ntmps) hT h3 h1;obtain⟨B,T',h4⟩:=h3;exact bodyPost_ret g1 h4.dfr ⟨v,rfl,g2,Gr.of_fr h4.gr.fr⟩
 | normal=>
  obtain⟨v,g1,g2⟩:=ret_run (C:=D.cx fn.ntmps) hT h3 h1;obtain⟨B,T',h4⟩:=h3;exact bodyPost_end g1 h4.dfr ⟨v,rfl,g2,Gr.of_fr h4.gr.fr⟩
 | _=>exact h1.elim
theorem pcF {T:List Nat} {f:FuncId} {args:List PV} {res:PV} {fn:Func} {c:Code} (tys:List Nat) (hcall:callB Tryz.prog f=true) (hf:(Tryz.prog).funcs[f]?=some fn) (hb:fn.body=some c) (hn:Nat.ble args.length fn.ntmps=true) (h:∀D:Dom Tryz.prog T,(∀i,¬D.F i)→LaidG D.w0∧¬D.M 0→W D fn.ntmps c (St.init args tys) (RetQ Tryz.prog tab fn res)):PCallsG Tryz.prog T f args res:=PCalls.ofF tys tab_ok mixed hcall hf hb hn h
section
variable {C:Cx} {o:Oper} {st:St}
theorem opE_loadB {tab:Tab} (hT:TblOk C.P tab) {t:Nat} {x:Operand} {l:Lay} {id ty off:Nat} {cs:List SV} {s:SV} (ho:o.op=.load t x) (hl:tab.get t=some l) (hag:l.agg=false) (hx:ev st x=some (.box id off)) (hre:st.res id=some (.box ty cs)) (hs:cs[off]?=some s) (hd:∀d,o.dst=some d→d < C.N):OpE C st.tys o st (valE s [id]):=by
 have lk:=Tab.get_ok hT hl;obtain⟨d,hu,hdr⟩:=lk.agg;refine opE_val hd fun st1 ag a w B T hi=>?_
 rw[← ag.ev (by rw[ho];simp[Op.operands])] at hx;rw[← ag.2 id (List.mem_append_left _ (List.mem_singleton.2 rfl))] at hre;have h1:=(ev_rep hi hx).1;rw[SV.Rep] at h1;obtain⟨g1,us,g2,g3⟩:=hi.inn id _ hre;obtain⟨u,hu1,hu2⟩:=g3.at hs;have hc:w.cell? ⟨B id,off,none⟩=some u:=by rw[g2.cell];simpa using hu1
 refine⟨u,?_,hu2,fun i hi2=>hi.alive id _ hre i (idsL_mem (mg hs) hi2)⟩;simp only[execOp,ho,h1,Instr.loadAt,Instr.sureAddr,Sem.run_bind,Sem.run_pure,Result.andThen_ok];have:=rloadVar1 (P:=C.P) (w:=w) hu (hdr.trans hag) hc;simp only[this,Result.andThen_ok]
theorem opE_idxA {t n e:Nat} {x y:Operand} {id off i:Nat} {kd:IntKind} {z:Int} (ho:o.op=.indexAddr t x y) (hu:C.P.underlying t=some (.array n e)) (hsz:(C.P.info? e).map (·.size)=some 1) (hx:ev st x=some (.box id off)) (hy:ev st y=some (.pv (.raw (.int kd z)))) (hz:z=(i:Int)) (hi:i < n) (hd:∀d,o.dst=some d→d < C.N):OpE C st.tys o st (valE (.box id (off+i)) []):=by
 refine opE_val hd fun st1 ag a w B T hi'=>?_
 rw[← ag.ev (by rw[ho];simp[Op.operands])] at hx hy;obtain⟨h1,h3⟩:=ev_rep hi' hx;have h2:=(ev_rep hi' hy).1;rw[SV.Rep] at h1;rw[SV.Rep,PV.Rep] at h2;refine⟨.pointer (some ((⟨B id,off,none⟩:Addr).add i)),?_,by rw[SV.Rep,add_mk],h3⟩;have hlt:(i:Int) < (n:Int):=by omega
 simp[execOp,ho,h1,h2,hz,Instr.indexAt,Instr.sureAddr,asIntOf,run_underlying hu,hlt,rsize hsz];intro h;omega
theorem opE_arr {t n e:Nat} {parts:Array (Nat×Operand)} {zs us:List Value} (ho:o.op=.build t parts) (hu:C.P.underlying t=some (.array n e)) (hsz:(C.P.info? e).map (·.size)=some 1) (hz:(C.P.info? t).bind (·.zero)=some (.agg zs.toArray)) (hparts:parts.toList.all (fun p=>match p.2 with
  | .func _=>true
  | _=>false)=true) (hfill:Instr.fill (fun i=>some (i,1)) zs.toArray (parts.toList.map fun p=>(p.1,match p.2 with
  | .func f=>.func (.func f) #[] #[]
  | _=>undef))=some us.toArray) (hd:∀d,o.dst=some d→d < C.N):OpE C st.tys o st (valE (.agg (us.map fun v=>.pv (.raw v))) []):=by
 refine opE_val hd fun st1 ag a w B T hi=>?_
 have hpm:(parts.map fun x=>match x with | (i,x)=>(i,a.eval x)).toList=parts.toList.map fun p=>(p.1,match p.2 with
  | .func f=>.func (.func f) #[] #[]
  | _=>undef):=by
  rw[Array.toList_map];refine List.map_congr_left fun p hp=>?_
  have h1:=List.all_eq_true.1 hparts p hp;obtain⟨i,x⟩:=p;cases x with
  | func f=>rfl
  | _=>cases h1
 refine⟨.agg us.toArray,?_,?_,fun i hi=>?_⟩
 ·simp only[execOp,ho,Instr.build,Sem.run_bind,rzero hz,Result.andThen_ok,run_underlying hu,rsize hsz,Value.cells,hpm];have h2:(fun i=>some (i*1,1))=fun i=>some (i,1):=funext fun i=>by rw[Nat.mul_one]
  first
   | (simp only[Nat.mul_one,hfill];rfl)
   | (simp[h2,hfill])
 ·rw[SV.Rep];refine⟨us,rfl,?_⟩;clear hfill ag
  induction us with
  | nil=>rw[List.map_nil,SV.RepL]
  | cons u us ih=>rw[List.map_cons];exact SV.RepL.cons (by rw[SV.Rep,PV.Rep]) ih
 ·obtain⟨c,hc,hi2⟩:=idsL_of (show i∈SV.idsL (us.map fun v=>.pv (.raw v)) from hi);obtain⟨v,_,rfl⟩:=List.mem_map.1 hc;cases (show i∈([]:List Nat) from hi2)
end
section
variable {T:List Nat} {D:Dom Tryz.prog T} {N:Nat} {st:St} {Q:Exit→St→Prop} {ops:List Oper} {draw:Bool} {acc:List Itm}
theorem rcr {k:Nat} {ks:List Nat} {c:Call} {f:FuncId} {x:Operand} {sf:SV} {ss:List SV} {ps:List PV} {res:PV} {Tg:List Nat} {dst:Option Nat} {ty:TypeId} {pos:String} {af:Array Edge} {gd:Option (Nat×Bool)} (hp:PCalls Tryz.prog Tg f ps res) (hk:nthL ops k=some ⟨dst,.call c,ty,pos,af,gd⟩) (hw:wantS ops.toArray ⟨dst,.call c,ty,pos,af,gd⟩ st=some true) (hd:dstB ⟨dst,.call c,ty,pos,af,gd⟩ N=true) (hc:c.callee=.value x) (hx:ev st x=some sf) (hsf:sf=.pv (.raw (.func (.func f) #[] #[]))) (ha:evL st c.args.toList=some ss) (hco:coSVL st ss=some ps) (hT:(Tg.all (fun t=>T.contains t)&&(Tg.all (fun t=>!st.tys.contains t)&&lentB st (SV.idsL ss) res.ty))=true) (next:Reg (D.cx N) ops draw Q (acc++[⟨k,true,valE (.pv res) (SV.idsL ss),lkOf ops k st (valE (.pv res) (SV.idsL ss))⟩]) ks ((valE (.pv res) (SV.idsL ss)).app dst st)):Reg (D.cx N) ops draw Q acc (k::ks) st:=by
 simp only[be] at hT;subst hsf;have h0:SV.idsL ss++(SV.pv (.raw (.func (.func f) #[] #[]))).ids=SV.idsL ss:=List.append_nil _;have h:=fun hd=>opE_callV (C:=D.cx N) (o:=⟨dst,.call c,ty,pos,af,gd⟩) (ps2:=[]) (f:=f) rfl hc hx (.fnr f) ha (coSVL_ok hco) (by rw[List.append_nil];exact hp) hT.1 hT.2.1 (by rw[h0];exact hT.2.2) hd
 rw[h0] at h;exact reg_op hk hw hd h next
end
theorem opE_glob {C:Cx} {o:Oper} {st:St} {y:Operand} {kd:IntKind} {z:Int} (hP:C.P=Tryz.prog) (hG:LaidG C.w0∧¬C.M 0) (ho:o.op=.indexAddr 224 (.global 0) y) (hy:ev st y=some (.pv (.raw (.int kd z)))) (h0:0≤z) (h5:z < 5) (hT:(C.T.contains 224)=true) (hd:∀d,o.dst=some d→d < C.N):OpE C st.tys o st (valE (.ref 224 [.raw (.int .i64 (oppK z))]) []):=by
 refine opE_val hd fun st1 ag a w B T hi=>?_
 rw[← ag.ev (by rw[ho];simp[Op.operands])] at hy;have h2:=(ev_rep hi hy).1;rw[SV.Rep,PV.Rep] at h2;have hl:=hG.1.cx hG.2 hi.gr;obtain⟨zs,fr,hz⟩:=hl.1;obtain⟨n,rfl⟩:∃n:Nat,z=(n:Int):=⟨z.toNat,by omega⟩;have hn:n < 5:=by omega
 have hu:C.P.underlying 224=some (.array 5 3):=by rw[hP];kernel_rfl
 have hsz:(C.P.info? 3).map (·.size)=some 1:=by rw[hP];kernel_rfl
 refine⟨.pointer (some ((⟨0,0,none⟩:Addr).add n)),?_,?_,fun i hi=>by cases (show i∈([]:List Nat) from hi)⟩
 ·have hlt:(n:Int) < 5:=by omega
  have hg:a.eval (.global 0)=.pointer (some ⟨0,0,none⟩):=rfl;simp[execOp,ho,hg,h2,Instr.indexAt,Instr.sureAddr,asIntOf,run_underlying hu,hlt,rsize hsz];intro h;omega
 ·rw[SV.Rep];refine⟨(⟨0,0,none⟩:Addr).add n,[.int .i64 (oppK (n:Int))],rfl,PV.RepL.cons (by rw[PV.Rep]) PV.RepL.nil,fun _=>?_,fun j u hu=>?_⟩
  ·rw[add_blk];refine⟨fun hx=>?_,zs,fr,hz⟩;rcases hx with hx | ⟨i,r,h1,h3⟩
   ·have h4:=C.hT 0 zs _ fr hx (by rw[← hi.gr.old hx];exact hz);exact h4 (List.contains_iff_mem.1 hT)
   ·exact hG.1.lo hG.2 ((hi.inn i r h1).lo h3).1
  ·rw[add_mk,Nat.zero_add];cases j with
   | zero=>simp at hu;subst hu;rw[add_zero];exact hl.2 n hn
   | succ j=>simp at hu
theorem MCalls.nil {P:Program} {Tg:List Nat} {f:FuncId} {pre post:List SV} {e k:Nat} {ts:List Nat} {rs rs':List (Nat×Res)} {res:PV} (h:MCalls P Tg f (pre++.pv (.rows e k ts [])::post) rs rs' res):MCalls P Tg f (pre++.pv (.raw (.slice none 0 0))::post) rs rs' res:=by
 refine⟨h.1,fun w X B T us h1 h2 h3 h4 h5 h6 h7 h8=>h.2 w X B T us h1 h2 h3 h4 h5 h6 ?_ ?_⟩
 ·have key:∀(pre:List SV) (us:List Value),SV.RepL w (OwnZ X rs B T) B T (pre++.pv (.raw (.slice none 0 0))::post) us→SV.RepL w (OwnZ X rs B T) B T (pre++.pv (.rows e k ts [])::post) us:=fun pre=>by
   induction pre with
   | nil=>
    intro us h;rw[List.nil_append,SV.RepL] at h;obtain⟨u,us',rfl,g1,g2⟩:=h;rw[SV.Rep,PV.Rep] at g1;subst g1;refine SV.RepL.cons ?_ g2;rw[SV.Rep,PV.Rep];exact⟨Sv.none,[],rfl,rfl,Sv.Is.none w k,(fun ad h=>by cases h),(fun ad h=>by cases h),by rw[PV.RepLL],fun r hr=>by cases hr⟩
   | cons p pre ih=>
    intro us h;rw[List.cons_append,SV.RepL] at h;obtain⟨u,us',rfl,g1,g2⟩:=h;exact SV.RepL.cons g1 (ih us' g2)
  exact key pre us h7
 ·have ids:∀(pre:List SV),SV.idsL (pre++.pv (.raw (.slice none 0 0))::post)=SV.idsL (pre++.pv (.rows e k ts [])::post):=fun pre=>by
   induction pre with
   | nil=>rfl
   | cons p pre ih=>rw[List.cons_append,List.cons_append,SV.idsL,SV.idsL,ih]
  rw[← ids];exact h8
def PCallsW (H:World→Prop) (P:Program) (T:List Nat) (f:FuncId) (args:List PV) (res:PV):Prop:=callB P f=true∧
 ∀(w:World) (X:Nat→Prop) (us:List Value),H w→(∀b,X b→b < w.heap.size)→(∀b cs t fr,X b→w.heap[b]?=some (.cells cs t fr)→t ∉ T)→PV.RepL w X args us→
  Calls P f us.toArray w fun e w'=>∃v,e=.returned v∧res.Rep w' X v∧Gr w w'
theorem PCallsW.of {H:World→Prop} {P:Program} {tab:Tab} {T:List Nat} {f:FuncId} {args:List PV} {res:PV} {fn:Func} {c:Code} (tys:List Nat) (hT:TblOk P tab) (hm:P.follows .mixedOrders=true) (hcall:callB P f=true) (hf:P.funcs[f]?=some fn) (hb:fn.body=some c) (hn:Nat.ble args.length fn.ntmps=true) (h:∀D:Dom P T,(∀i,¬D.F i)→(∀b,¬D.M b)→H D.w0→PW (D.cx fn.ntmps) c (St.init args tys) (RetQ P tab fn res)):PCallsW H P T f args res:=by
 refine⟨hcall,fun w X us hG hX hXT hr=>?_⟩;have hn:=Nat.le_of_ble_eq_true hn
 let D:Dom P T:=⟨w,X,hX,hm,hXT,fun _=>False,(fun _ _ h=>h),fun _=>False,fun _=>0⟩
 refine calls_of_wp hf hb ?_;have hlen:=hr.len;have hinv:Inv (D.cx fn.ntmps) (St.init args tys) { tmps:=us.toArray++Array.replicate (fn.ntmps - us.toArray.size) undef,defers:=[] } w:=by
  refine⟨fun _=>0,fun _=>Sv.none,⟨by simp;omega,rfl,⟨Fr.refl _ w,fun i h=>h.1.elim⟩,fun t s e=>?_,fun t s e i hi=>?_,(fun i r e=>by cases e),(fun i r e=>by cases e),fun i r j q b e=>by cases e⟩⟩
  ·simp only[St.init] at e;obtain⟨p,hp,rfl⟩:=Option.map_eq_some_iff.1 e;obtain⟨u,hu,hpr⟩:=hr.at hp;rw[SV.Rep];have hut:(us.toArray++Array.replicate (fn.ntmps - us.toArray.size) undef).getD t undef=u:=by
    have hlt:=(gs hu).1;rw[Array.getD_eq_getD_getElem?,Array.getElem?_append_left (by simpa using hlt)];simp[hu]
   rw[hut];exact hpr.still ⟨nr _,fun b cs t fr hx hh ht=>⟨rfl,fun hb=>by
    rcases hb with hb | ⟨i,r,hr,_⟩
    ·exact hx hb
    ·cases hr⟩⟩
  ·simp only[St.init] at e;obtain⟨p,hp,rfl⟩:=Option.map_eq_some_iff.1 e;cases (show i∈([]:List Nat) from hi)
 refine Code.wp_mono (fun e a w' hq=>?_) (h D (fun _ h=>h) (fun _ h=>h) hG _ w (fun i r e=>by cases e) hinv);obtain⟨st,h1,_,h3⟩:=hq;cases e with
 | ret=>
  obtain⟨v,g1,g2⟩:=ret_run (C:=D.cx fn.ntmps) hT h3 h1;obtain⟨B,T',h4⟩:=h3;exact bodyPost_ret g1 h4.dfr ⟨v,rfl,g2,Gr.of_fr h4.gr.fr⟩
 | normal=>
  obtain⟨v,g1,g2⟩:=ret_run (C:=D.cx fn.ntmps) hT h3 h1;obtain⟨B,T',h4⟩:=h3;exact bodyPost_end g1 h4.dfr ⟨v,rfl,g2,Gr.of_fr h4.gr.fr⟩
 | _=>exact h1.elim
theorem pcW {H:World→Prop} {T:List Nat} {f:FuncId} {args:List PV} {res:PV} {fn:Func} {c:Code} (tys:List Nat) (hcall:callB Tryz.prog f=true) (hf:(Tryz.prog).funcs[f]?=some fn) (hb:fn.body=some c) (hn:Nat.ble args.length fn.ntmps=true) (h:∀D:Dom Tryz.prog T,(∀i,¬D.F i)→(∀b,¬D.M b)→H D.w0→W D fn.ntmps c (St.init args tys) (RetQ Tryz.prog tab fn res)):PCallsW H Tryz.prog T f args res:=PCallsW.of tys tab_ok mixed hcall hf hb hn h
theorem GrC.gr {C:Cx} {B:Nat→Nat} {w:World} (h:GrC C B w) (hM:∀b,¬C.M b):Gr C.w0 w:=Gr.of_fr h.fr hM
section
variable {T:List Nat} {D:Dom Tryz.prog T} {N:Nat} {st:St} {Q:Exit→St→Prop} {ops:List Oper} {draw:Bool} {acc:List Itm}
theorem rcw {k:Nat} {ks:List Nat} {c:Call} {f:FuncId} {ss:List SV} {ps:List PV} {res:PV} {Tg:List Nat} {dst:Option Nat} {ty:TypeId} {pos:String} {af:Array Edge} {gd:Option (Nat×Bool)} {H:World→Prop} (hM:∀b,¬D.M b) (hH:∀w,Gr D.w0 w→H w) (hp:PCallsW H Tryz.prog Tg f ps res) (hk:nthL ops k=some ⟨dst,.call c,ty,pos,af,gd⟩) (hw:wantS ops.toArray ⟨dst,.call c,ty,pos,af,gd⟩ st=some true) (hd:dstB ⟨dst,.call c,ty,pos,af,gd⟩ N=true) (hc:c.callee=.value (.func f)) (ha:evL st c.args.toList=some ss) (hco:coSVL st ss=some ps) (hT:(Tg.all (fun t=>T.contains t)&&(Tg.all (fun t=>!st.tys.contains t)&&lentB st (SV.idsL ss) res.ty))=true) (next:Reg (D.cx N) ops draw Q (acc++[⟨k,true,valE (.pv res) (SV.idsL ss),lkOf ops k st (valE (.pv res) (SV.idsL ss))⟩]) ks ((valE (.pv res) (SV.idsL ss)).app dst st)):Reg (D.cx N) ops draw Q acc (k::ks) st:=by
 simp only[be] at hT;exact reg_op hk hw hd (fun hd=>opE_callK (C:=D.cx N) rfl hc ha (coSVL_ok hco) ⟨hp.1,fun w B g X us=>hp.2 w X us (hH w (GrC.gr (C:=D.cx N) g hM))⟩ hT.1 hT.2.1 hT.2.2 hd) next
end
section
variable {C:Cx} {o:Oper} {st:St}
theorem opE_lenR {x:Operand} {A:Option Addr} {n k:Nat} (hP:C.P=Tryz.prog) (ho:o.op=.call { callee:=.builtin .len,args:=#[x],argTypes:=#[22] }) (hx:ev st x=some (.pv (.raw (.slice A n k)))) (hd:∀d,o.dst=some d→d < C.N):OpE C st.tys o st (valE (.pv (.raw (.int .i64 (n:Int)))) []):=by
 refine opE_val hd fun st1 ag a w B T hi=>?_
 rw[← ag.ev (by rw[ho];simp[Op.operands,Call.operands])] at hx;have h1:=(ev_rep hi hx).1;rw[SV.Rep,PV.Rep] at h1;have hu:C.P.underlying 22=some (.slice 5):=by rw[hP];kernel_rfl
 refine⟨.int .i64 (n:Int),?_,by rw[SV.Rep,PV.Rep],fun i hi=>by cases (show i∈([]:List Nat) from hi)⟩;simp[execOp,ho,resolve,invoke,builtin,Builtin.len_,h1,run_underlying hu,goInt]
theorem opE_idxR {x y:Operand} {ad:Addr} {n k i:Nat} {kd:IntKind} {z:Int} (hP:C.P=Tryz.prog) (ho:o.op=.indexAddr 22 x y) (hx:ev st x=some (.pv (.raw (.slice (some ad) n k)))) (hy:ev st y=some (.pv (.raw (.int kd z)))) (hz:z=(i:Int)) (hi:i < n) (hd:∀d,o.dst=some d→d < C.N):OpE C st.tys o st (valE (.pv (.raw (.pointer (some (ad.add i))))) []):=by
 refine opE_val hd fun st1 ag a w B T hin=>?_
 rw[← ag.ev (by rw[ho];simp[Op.operands])] at hx hy;have h1:=(ev_rep hin hx).1;have h2:=(ev_rep hin hy).1;rw[SV.Rep,PV.Rep] at h1 h2;have hu:C.P.underlying 22=some (.slice 5):=by rw[hP];kernel_rfl
 have hsz:(C.P.info? 5).map (·.size)=some 1:=by rw[hP];kernel_rfl
 refine⟨.pointer (some (ad.add i)),?_,by rw[SV.Rep,PV.Rep],fun i hi=>by cases (show i∈([]:List Nat) from hi)⟩;have hlt:(i:Int) < (n:Int):=by omega
 simp[execOp,ho,h1,h2,hz,Instr.indexAt,asIntOf,run_underlying hu,hlt,rsize hsz];intro h;omega
theorem opE_loadR {x:Operand} {ad:Addr} {u:Value} (hP:C.P=Tryz.prog) (hM:∀b,¬C.M b) (hc:∀w,Gr C.w0 w→w.cell? ad=some u) (ho:o.op=.load 5 x) (hx:ev st x=some (.pv (.raw (.pointer (some ad))))) (hd:∀d,o.dst=some d→d < C.N):OpE C st.tys o st (valE (.pv (.raw u)) []):=by
 refine opE_val hd fun st1 ag a w B T hin=>?_
 rw[← ag.ev (by rw[ho];simp[Op.operands])] at hx;have h1:=(ev_rep hin hx).1;rw[SV.Rep,PV.Rep] at h1;have hu:C.P.underlying 5=some (.int .u8):=by rw[hP];kernel_rfl
 refine⟨u,?_,by rw[SV.Rep,PV.Rep],fun i hi=>by cases (show i∈([]:List Nat) from hi)⟩;simp only[execOp,ho,h1,Instr.loadAt,Instr.sureAddr,Sem.run_bind,Sem.run_pure,Result.andThen_ok];have:=rloadVar1 (P:=C.P) (w:=w) hu rfl (hc w (hin.gr.gr hM));simp only[this,Result.andThen_ok]
end
abbrev TQ:List Nat:=[35,37,138,200]
section
variable {w:World} {X:Nat→Prop}
theorem q_ok (l:List Q):RowOk 3 [200] (l.map qC):=fun r hr=>by
 obtain⟨t,_,rfl⟩:=List.mem_map.1 hr;refine⟨rfl,fun c hc=>?_⟩;unfold qC at hc;simp only[List.mem_cons,List.not_mem_nil,or_false] at hc;rcases hc with rfl | rfl | rfl<;>exact⟨rfl,fun t ht=>by first | exact ht | cases ht⟩
theorem rats_to {T:List Nat} {x:Sv} {l:List Q} (h:Rats w x l) (hX:XOk w X T) (h0:35∈T) (hu:200∈T):(ratsP l).Rep w X x.v:=rows_to h hX h0 (fun b a hb=>q_to hb hX hu) Rv.len (by decide) (q_ok _)
theorem forms_to {T:List Nat} {x:Sv} {l:List Fm} (h:Forms w x l) (hX:XOk w X T) (h0:37∈T) (ht:138∈T) (hu:200∈T):(formsP l).Rep w X x.v:=rows_to h hX h0 (fun b a hb=>fm_to hb hX hu ht) Fv.len (by decide) (fm_ok _)
theorem query_to {q:Qv} {x:Qr} (h:q.Iq w x) (hX:XOk w X TQ):(qyP x).Rep w X q.v:=by
 rw[PV.Rep];refine⟨_,rfl,?_⟩;unfold qyC;have hu:200∈TQ:=by simp
 have ht:138∈TQ:=by simp
 have ha:37∈TQ:=by simp
 have hr:35∈TQ:=by simp
 have hg:=fm_to h.goal hX hu ht;unfold fmC at hg;refine PV.RepL.cons ?_ (PV.RepL.cons (forms_to h.g.units hX ha ht hu) (PV.RepL.cons (forms_to h.g.outs hX ha ht hu) (PV.RepL.cons (rats_to h.rg.lo hX hr hu) (PV.RepL.cons (rats_to h.rg.hi hX hr hu) (PV.RepL.cons (forms_to h.rg.rows hX ha ht hu) hg)))));rw[← h.g.inputs];exact raw_to _
end
def By (x:Sv) (L:List Nat) (w:World):Prop:=x.Is w 1 (L.map bv)
theorem By.gr {x:Sv} {L:List Nat} {w w':World} (h:By x L w) (G:Gr w w'):By x L w':=Sv.Is.gr h G
theorem By.at {x:Sv} {L:List Nat} {w:World} (h:By x L w) {i:Nat} (hi:i < L.length):∃ad,x.A=some ad∧w.cell? (ad.add i)=some (bv (atZ L (i:Int))):=by
 obtain⟨ad,h1,_,h2⟩:=h.look (i:=i) (u:=bv (atZ L (i:Int))) (by rw[List.getElem?_map,get_of hi];rfl);exact⟨ad,h1,h2⟩
theorem r_instance {x:Sv} {L:List Nat} (hl:∀y∈L,y < 256) (hn:L.length≤1000):PCallsW (By x L) Tryz.prog TQ 24 [.raw x.v] (qyP (queryQ L).1):=⟨by kernel_rfl,fun w X us hx h1 h2 h3=>by
 obtain⟨u,rfl,g⟩:=args1 h3;rw[PV.Rep] at g;subst g;have hxn:x.n=L.length:=by have:=hx.len;rw[List.length_map] at this;omega
 exact (instance_any w x L hx hl (by omega)).mono fun e w' ⟨q,he,hq,G⟩=>⟨_,he,query_to hq (XOk.gr ⟨h1,h2⟩ G),G⟩⟩
def IsRow (k:IntKind) (w:World) (a:Option Addr) (len cap:Nat) (zs:List Int):Prop:=
 (a=none∧len=0∧cap=0∧zs=[])∨
 ∃x,a=some x∧len≤cap∧cap≤maxLen∧zs.length=cap∧(∀i,i < zs.length→w.cell? (x.add i)=some (.int k (zs.getD i 0)))∧∀n∈zs,(Lit.int k n).wf=true
section
variable {k:IntKind} {w:World} {a:Option Addr} {len cap:Nat} {zs:List Int}
theorem IsRow.caps (h:IsRow k w a len cap zs):len≤cap∧cap≤maxLen:=by
 rcases h with ⟨_,rfl,rfl,_⟩ | ⟨x,_,h1,h2,_⟩
 ·exact⟨nr _,nq _⟩
 ·exact⟨h1,h2⟩
theorem IsRow.nil0 (h:IsRow k w a len cap zs) (h0:a=none):cap=0:=by
 rcases h with ⟨_,rfl,rfl,_⟩ | ⟨x,e,_⟩
 ·rfl
 ·rw[h0] at e;cases e
theorem IsRow.lens (h:IsRow k w a len cap zs):(zs.take len).length=len:=by
 rcases h with ⟨_,rfl,rfl,rfl⟩ | ⟨x,_,h1,h2,h3,_⟩
 ·rfl
 ·rw[List.length_take];omega
theorem IsRow.sees (h:IsRow k w a len cap zs):Sees w w.heap.size a ((zs.take len).map (Value.int k)):=by
 rcases h with ⟨_,rfl,rfl,rfl⟩ | ⟨x,rfl,h1,h2,h3,h4,_⟩
 ·exact Sees.nil
 ·intro j u hu;rw[List.getElem?_map] at hu;have hj:j < (zs.take len).length:=by
   rcases Nat.lt_or_ge j (zs.take len).length with h | h
   ·exact h
   ·rw[List.getElem?_eq_none h] at hu;cases hu
  rw[List.length_take] at hj;rw[List.getElem?_take_of_lt (by omega),ge (by omega)] at hu;simp only[Option.map_some,oq] at hu;have hc:=h4 j (by omega);rw[List.getD_eq_getElem?_getD,ge (by omega),Option.getD_some,hu] at hc;exact⟨x,rfl,by have:=World.block_lt_of_cell? w _ hc;rwa [add_blk] at this,hc⟩
theorem IsRow.bytes (h:IsRow .u8 w a len cap zs):∀x∈zs.take len,0≤x∧x≤255:=by
 rcases h with ⟨_,rfl,rfl,rfl⟩ | ⟨x,rfl,h1,h2,h3,h4,h5⟩
 ·intro x hx;simp at hx
 ·intro x hx;exact bounds_u8 (h5 x (List.mem_of_mem_take hx))
def bytesOf (zs:List Int) (len:Nat):List Nat:=(zs.take len).map Int.toNat
theorem IsRow.nats (h:IsRow .u8 w a len cap zs):(bytesOf zs len).map bv=(zs.take len).map (Value.int .u8):=by
 unfold bytesOf;rw[List.map_map]
 apply List.map_congr_left
 intro x hx;have:=(h.bytes x hx).1;show Value.int .u8 ((x.toNat:Nat):Int)=Value.int .u8 x;rw[Int.toNat_of_nonneg this]
theorem IsRow.is (h:IsRow .u8 w a len cap zs):Sv.Is w ⟨a,len,cap⟩ 1 ((bytesOf zs len).map bv):=by
 refine⟨?_,h.caps.1,by have:=h.caps.2;unfold maxLen at this;exact this,h.nil0,?_⟩
 ·rw[h.nats,List.length_map,h.lens,Nat.mul_one]
 ·rw[h.nats];exact h.sees
theorem IsRow.lim (h:IsRow .u8 w a len cap zs):∀y∈bytesOf zs len,y < 256:=fun y hy=>by
 unfold bytesOf at hy;obtain⟨x,hx,rfl⟩:=List.mem_map.1 hy;have:=h.bytes x hx;omega
end
set_option maxHeartbeats 4000000 in
theorem p_indexD {l:List Dc} {f:Nat} {caps:List PV} {F:Dc→Bool} (hl:l.length≤100000) (h:∀d∈l,PCalls Tryz.prog TU f (dcP d::caps) (bP (F d))):PCalls Tryz.prog TU 185 [dcsP l,.fn f caps] (iP (idxG F l 0)):=by
 refine pcA [] Tryz.func185 (fun D=>?_);refine au ?_;refine pl (ι:={i:Nat // i≤l.length∧idxG F (l.drop i) i=idxG F l 0}) (fun i=>[(0,.pv (dcsP l)),(1,.pv (.fn f caps)),(7,.pv (iP ((l.map dcC).length:Int))),(8,.pv (iP i.1))]) (fun _=>[]) [] (fun i=>l.length - i.1) ⟨0,nq _,rfl⟩ (c4 Y Y Y Y trivial) trivial (fun _=>rfl) ?_;intro ⟨i,hi0,hg⟩;refine a2 (fun e9=>?_) (fun e9=>?_)
 ·have hi:i < l.length:=lt_of e9;refine ax (c:=(getmap (get_of hi))) ?_;refine au ?_;refine rcv (h _ (mg (get_of hi))) Y Y Y Y Y Y Y Y Y ?_;refine a2 (fun e16=>?_) (fun e16=>?_)
  ·exact ar (c:=congrArg iP (idxG_hit hg hi e16))
  ·refine aa (c:=ari_succ (by show i≤_;omega)) ?_;refine au ?_;exact pe ⟨i+1,hi,idxG_step hg hi e16⟩ (c4 Y Y Y Y trivial) trivial Y (by show l.length - (i+1) < l.length - i;omega)
 ·have hj:l.length≤i:=ge_of e9;exact ar (c:=congrArg iP (idxG_end hg hj))
set_option maxHeartbeats 4000000 in
theorem p_containsD {l:List Dc} {f:Nat} {caps:List PV} {F:Dc→Bool} (hl:l.length≤100000) (h:∀d∈l,PCalls Tryz.prog TU f (dcP d::caps) (bP (F d))):PCalls Tryz.prog TU 135 [dcsP l,.fn f caps] (bP (l.any F)):=by
 refine pcA [] Tryz.func135 (fun D=>?_);refine ac (c:=p_indexD hl h) ?_;exact ar (c:=congrArg bP idxG_any)
set_option maxHeartbeats 4000000 in
theorem p_indexA {l:List Fm} {f:Nat} {caps:List PV} {F:Fm→Bool} (hl:l.length≤100000) (h:∀d∈l,PCalls Tryz.prog TU f (fmP d::caps) (bP (F d))):PCalls Tryz.prog TU 181 [formsP l,.fn f caps] (iP (idxG F l 0)):=by
 refine pcA [] Tryz.func181 (fun D=>?_);refine au ?_;refine pl (ι:={i:Nat // i≤l.length∧idxG F (l.drop i) i=idxG F l 0}) (fun i=>[(0,.pv (formsP l)),(1,.pv (.fn f caps)),(7,.pv (iP ((l.map fmC).length:Int))),(8,.pv (iP i.1))]) (fun _=>[]) [] (fun i=>l.length - i.1) ⟨0,nq _,rfl⟩ (c4 Y Y Y Y trivial) trivial (fun _=>rfl) ?_;intro ⟨i,hi0,hg⟩;refine a2 (fun e9=>?_) (fun e9=>?_)
 ·have hi:i < l.length:=lt_of e9;refine ax (c:=(getmap (get_of hi))) ?_;refine au ?_;refine rcv (h _ (mg (get_of hi))) Y Y Y Y Y Y Y Y Y ?_;refine a2 (fun e16=>?_) (fun e16=>?_)
  ·exact ar (c:=congrArg iP (idxG_hit hg hi e16))
  ·refine aa (c:=ari_succ (by show i≤_;omega)) ?_;refine au ?_;exact pe ⟨i+1,hi,idxG_step hg hi e16⟩ (c4 Y Y Y Y trivial) trivial Y (by show l.length - (i+1) < l.length - i;omega)
 ·have hj:l.length≤i:=ge_of e9;exact ar (c:=congrArg iP (idxG_end hg hj))
set_option maxHeartbeats 4000000 in
theorem p_containsA {l:List Fm} {f:Nat} {caps:List PV} {F:Fm→Bool} (hl:l.length≤100000) (h:∀d∈l,PCalls Tryz.prog TU f (fmP d::caps) (bP (F d))):PCalls Tryz.prog TU 128 [formsP l,.fn f caps] (bP (l.any F)):=by
 refine pcA [] Tryz.func128 (fun D=>?_);refine ac (c:=p_indexA hl h) ?_;exact ar (c:=congrArg bP idxG_any)
set_option maxHeartbeats 4000000 in
theorem p_zero {q:Q}:PCalls Tryz.prog [] 223 [ratP q] (bP (decide (q=Q.zero))):=by
 refine pcA [35] Tryz.func223 (fun D=>?_);refine a2 (fun e6=>?_) (fun e6=>?_)
 ·replace e6:=not_t e6;refine a2 (fun e12=>?_) (fun e12=>?_)
  ·exact ar (c:=by rw[zero_all];simp only[e6,e12,sb])
  ·exact ar (c:=by rw[zero_all];simp only[e6,e12,sb])
 ·replace e6:=not_f e6;exact ar (c:=by rw[zero_all];simp only[e6,sb])
set_option maxHeartbeats 4000000 in
theorem p_fits {q:Qr} {d:Dc} {s:Nat} (h:d.at_.S s) (hs:s≤10000):PCalls Tryz.prog [] 186 [qyP q,dcP d] (bP (fitsQ q d)):=by
 refine pcA [39,42] Tryz.func186 (fun D=>?_);refine a2 (fun e7=>?_) (fun e7=>?_)
 ·refine a2 (fun e13=>?_) (fun e13=>?_)
  ·refine a2 (fun e22=>?_) (fun e22=>?_)
   ·refine ac (c:=p_zero) ?_;exact ar (c:=by (try simp only[List.length_map] at *);simp only[fitsQ,e7,e13,e22,sb]<;>rfl)
   ·exact ar (c:=by (try simp only[List.length_map] at *);simp only[fitsQ,e7,e13,e22,sb]<;>rfl)
  ·exact ar (c:=by (try simp only[List.length_map] at *);simp only[fitsQ,e7,e13,sb]<;>rfl)
 ·refine a2 (fun e7'=>?_) (fun e7'=>?_)
  ·refine a2 (fun e13=>?_) (fun e13=>?_)
   ·refine a2 (fun e22=>?_) (fun e22=>?_)
    ·refine ac (c:=p_zero) ?_;exact ar (c:=by (try simp only[List.length_map] at *);simp only[fitsQ,e7,e7',e13,e22,sb]<;>rfl)
    ·exact ar (c:=by (try simp only[List.length_map] at *);simp only[fitsQ,e7,e7',e13,e22,sb]<;>rfl)
   ·exact ar (c:=by (try simp only[List.length_map] at *);simp only[fitsQ,e7,e7',e13,sb]<;>rfl)
  ·refine a2 (fun e27=>?_) (fun e27=>?_)
   ·refine a2 (fun e33=>?_) (fun e33=>?_)
    ·refine a2 (fun e41=>?_) (fun e41=>?_)
     ·refine ac (c:=p_valid (h.sm hs) h.ok) ?_;exact ar (c:=by (try simp only[List.length_map] at *);simp only[fitsQ,e7,e7',e27,e33,e41,sb]<;>rfl)
     ·exact ar (c:=by (try simp only[List.length_map] at *);simp only[fitsQ,e7,e7',e27,e33,e41,sb]<;>rfl)
    ·exact ar (c:=by (try simp only[List.length_map] at *);simp only[fitsQ,e7,e7',e27,e33,sb]<;>rfl)
   ·refine a2 (fun e27'=>?_) (fun e27'=>?_)
    ·refine a2 (fun e33=>?_) (fun e33=>?_)
     ·refine a2 (fun e41=>?_) (fun e41=>?_)
      ·refine ac (c:=p_valid (h.sm hs) h.ok) ?_;exact ar (c:=by (try simp only[List.length_map] at *);simp only[fitsQ,e7,e7',e27,e27',e33,e41,sb]<;>rfl)
      ·exact ar (c:=by (try simp only[List.length_map] at *);simp only[fitsQ,e7,e7',e27,e27',e33,e41,sb]<;>rfl)
     ·exact ar (c:=by (try simp only[List.length_map] at *);simp only[fitsQ,e7,e7',e27,e27',e33,sb]<;>rfl)
    ·exact ar (c:=by (try simp only[List.length_map] at *);simp only[fitsQ,e7,e7',e27,e27',sb]<;>rfl)
set_option maxHeartbeats 4000000 in
theorem p_decided1 {s:Sc} {d:Dc} {n:Nat} {kind unit:Int} (h:d.at_.S n) (hn:n≤10000):PCalls Tryz.prog TU 386 [dcP d,.ptr 3 [iP kind],.ptr 3 [iP unit],.ptr 85 (scC s)] (bP (hitQ s.q kind unit d)):=by
 refine pcA [42] Tryz.func386 (fun D=>?_);refine a2 (fun e10=>?_) (fun e10=>?_)
 ·refine a2 (fun e16=>?_) (fun e16=>?_)
  ·refine ac (c:=p_fits h hn) ?_;exact ar (c:=by (try simp only[List.length_map] at *);simp only[hitQ,e10,e16,sb]<;>rfl)
  ·exact ar (c:=by (try simp only[List.length_map] at *);simp only[hitQ,e10,e16,sb]<;>rfl)
 ·exact ar (c:=by (try simp only[List.length_map] at *);simp only[hitQ,e10,sb]<;>rfl)
set_option maxHeartbeats 4000000 in
theorem p_decided {s:Sc} {a b:Nat} {kind unit:Int} (h:s.Va a b):PCalls Tryz.prog TU 337 [scP s,iP kind,iP unit] (bP (decidedQ s kind unit)):=by
 refine pcA [85,3] Tryz.func337 (fun D=>?_);refine au ?_;refine rmk Y Y Y Y ?_;refine ac (c:=p_containsD (F:=hitQ s.q kind unit) (by have:=h.p9;omega) fun d hd=>p_decided1 (s:=s) (h.path d hd) (by have:=h.a9;omega)) ?_;exact ar (c:=rfl)
set_option maxHeartbeats 8000000 in
theorem p_num {q:Q} {s:Nat} (h:q.S s) (hs:s≤10000):PCalls Tryz.prog TF 277 [ratP q] (fmP (numR q)):=by
 refine pcA [37,35] Tryz.func277 (fun D=>?_);refine ac (c:=p_canon (h.sm hs)) ?_;exact ar (c:=by rw[h.canon];rfl)
set_option maxHeartbeats 8000000 in
theorem p_var (v:Int):PCalls Tryz.prog TF 276 [iP v] (fmP (varR v)):=by
 refine pcA [37] Tryz.func276 (fun D=>?_);refine ac (c:=p_of 1 (by decide) (by decide)) ?_;exact ar (c:=rfl)
set_option maxHeartbeats 8000000 in
theorem p_minus {f:Fm} {s l:Nat} (h:f.S s l) (hs:s≤10000) (hl:l≤400):PCalls Tryz.prog TF 278 [fmP f] (fmP (Fm.scaleR f Q.mone)):=by
 refine pcA [37] Tryz.func278 (fun D=>?_);refine ac (c:=p_of (-1) (by decide) (by decide)) ?_;refine ac (c:=p_fscale (q:=Q.mone) h sz_mone hs (by decide) hl) ?_;exact ar (c:=rfl)
set_option maxHeartbeats 8000000 in
theorem p_lemma {s:Sc} {a b:Nat} {n unit:Int} {upper:Bool} (h:s.Va a b):PCalls Tryz.prog TU 279 [scP s,iP n,iP unit,bP upper] (.tup [ratP (lemmaQ s.lems n unit upper).1,bP (lemmaQ s.lems n unit upper).2]):=by
 refine pcA [85,35] Tryz.func279 (fun D=>?_);refine a2 (fun e12=>?_) (fun e12=>?_)
 ·exact ar (c:=by (try simp only[List.length_map] at *);simp only[lemmaQ,e12,sb]<;>rfl)
 ·have g1:1≤n:=by have:=of_decide_eq_false e12;omega
  refine a2 (fun e19=>?_) (fun e19=>?_)
  ·exact ar (c:=by (try simp only[List.length_map] at *);simp only[lemmaQ,e12,e19,sb]<;>rfl)
  ·have g2:n≤s.lems.length:=by have:=of_decide_eq_false e19;rw[List.length_map] at this;omega
   have h1:0≤n - 1:=by omega
   have h2:n - 1 < s.lems.length:=by omega
   have h9:=h.l9;refine aa (c:=ari_sub (by omega) (by omega) (by omega) (by omega)) ?_;refine ay (z:=toN h1) (c:=(getmap (atZ_get h1 h2))) ?_;refine a2 (fun e30=>?_) (fun e30=>?_)
   ·exact ar (c:=by (try simp only[List.length_map] at *);simp only[lemmaQ,e12,e19,e30,sb]<;>rfl)
   ·refine aa (c:=ari_sub (by omega) (by omega) (by omega) (by omega)) ?_;refine ay (z:=toN h1) (c:=(getmap (atZ_get h1 h2))) ?_;refine au ?_;refine re0 (((atZ s.lems (n - 1)).upper != upper)) Y Y Y Y Y Y (.inr ⟨rfl,rfl⟩) ?_;refine a2 (fun e40=>?_) (fun e40=>?_)
    ·exact ar (c:=by (try simp only[List.length_map] at *);simp only[lemmaQ,e12,e19,e30,e40,sb]<;>rfl)
    ·refine aa (c:=ari_sub (by omega) (by omega) (by omega) (by omega)) ?_;refine ay (z:=toN h1) (c:=(getmap (atZ_get h1 h2))) ?_;refine ac (c:=p_canon ((h.lems _ (atZ_mem h1 h2)).sm (by have:=h.b9;omega))) ?_;exact ar (c:=by (try simp only[List.length_map] at *);simp only[lemmaQ,e12,e19,e30,e40,sb]<;>rfl)
set_option maxHeartbeats 8000000 in
theorem p_useOn {s:Sc} {a b n:Nat} {r:Rw} {v p:Fm} {l u:Q×Bool} (h:s.Va a b) (hq:l.1.S n) (hn:n≤10000):PCalls Tryz.prog TU 280 [.agg (usC s r v p l u)] (bP (onQ s r l)):=by
 refine pcA [367] Tryz.func280 (fun D=>?_);refine a2 (fun e7=>?_) (fun e7=>?_)
 ·refine a2 (fun e12=>?_) (fun e12=>?_)
  ·refine ac (c:=p_decided h) ?_;refine a2 (fun e20=>?_) (fun e20=>?_)
   ·exact ar (c:=by (try simp only[List.length_map] at *);simp only[onQ,e7,e12,e20,sb]<;>rfl)
   ·refine a2 (fun e23=>?_) (fun e23=>?_)
    ·refine ac (c:=p_sgn (hq.sm hn)) ?_;exact ar (c:=by (try simp only[List.length_map] at *);simp only[onQ,e7,e12,e20,e23,sb]<;>rfl)
    ·exact ar (c:=by (try simp only[List.length_map] at *);simp only[onQ,e7,e12,e20,e23,sb]<;>rfl)
  ·refine a2 (fun e23=>?_) (fun e23=>?_)
   ·refine ac (c:=p_sgn (hq.sm hn)) ?_;exact ar (c:=by (try simp only[List.length_map] at *);simp only[onQ,e7,e12,e23,sb]<;>rfl)
   ·exact ar (c:=by (try simp only[List.length_map] at *);simp only[onQ,e7,e12,e23,sb]<;>rfl)
 ·exact ar (c:=by (try simp only[List.length_map] at *);simp only[onQ,e7,sb]<;>rfl)
set_option maxHeartbeats 8000000 in
theorem p_useOff {s:Sc} {a b n:Nat} {r:Rw} {v p:Fm} {l u:Q×Bool} (h:s.Va a b) (hq:u.1.S n) (hn:n≤10000):PCalls Tryz.prog TU 281 [.agg (usC s r v p l u)] (bP (offQ s r u)):=by
 refine pcA [367] Tryz.func281 (fun D=>?_);refine a2 (fun e7=>?_) (fun e7=>?_)
 ·refine a2 (fun e12=>?_) (fun e12=>?_)
  ·refine ac (c:=p_decided h) ?_;refine a2 (fun e20=>?_) (fun e20=>?_)
   ·exact ar (c:=by (try simp only[List.length_map] at *);simp only[offQ,e7,e12,e20,sb]<;>rfl)
   ·refine a2 (fun e23=>?_) (fun e23=>?_)
    ·refine ac (c:=p_sgn (hq.sm hn)) ?_;exact ar (c:=by (try simp only[List.length_map] at *);simp only[offQ,e7,e12,e20,e23,sb]<;>rfl)
    ·exact ar (c:=by (try simp only[List.length_map] at *);simp only[offQ,e7,e12,e20,e23,sb]<;>rfl)
  ·refine a2 (fun e23=>?_) (fun e23=>?_)
   ·refine ac (c:=p_sgn (hq.sm hn)) ?_;exact ar (c:=by (try simp only[List.length_map] at *);simp only[offQ,e7,e12,e23,sb]<;>rfl)
   ·exact ar (c:=by (try simp only[List.length_map] at *);simp only[offQ,e7,e12,e23,sb]<;>rfl)
 ·exact ar (c:=by (try simp only[List.length_map] at *);simp only[offQ,e7,sb]<;>rfl)
end Go.Proofs.YtbhbainhmfjpdaaGreatDoor
