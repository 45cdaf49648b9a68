/- Walks of the search and of what it calls, part 1. -/
import Derived.WalkKit
import Derived.Below
import Derived.Laws.OwnMore
import Derived.Maps.AppendAt
import Derived.Deep.Draws
import Derived.Lib.Hide
import Derived.Sort.Grow
import Derived.Sort.Statements
import Derived.Laws.World
import Derived.OrdersHeld
import Derived.Deep.RegionHeld
set_option linter.unusedVariables false
set_option linter.unusedSimpArgs false
set_option maxRecDepth 100000
set_option maxHeartbeats 8000000
namespace Go.Proofs.YtbhbainhmfjpdaaGreatDoor
open Go.RowKit
abbrev zB:=@List.length_map
abbrev zC:=@List.mem_cons_of_mem
abbrev zD:=@Nat.le_of_ble_eq_true
abbrev zE:=@List.contains_iff_mem
abbrev zF:=@Nat.eq_of_beq_eq_true
abbrev zG:=@List.all_eq_true
abbrev zH:=@List.mem_singleton
abbrev zI:=@List.length_append
abbrev zJ:=@List.mem_append
abbrev zK:=@of_decide_eq_true
abbrev zL:=@List.mem_append_left
abbrev zM:=@of_decide_eq_false
abbrev zN:=@List.map_append
abbrev zO:=@Nat.mul_assoc
abbrev zP:=@List.mem_cons
abbrev zQ:=@List.drop_eq_getElem_cons
abbrev zR:=@Array.getElem?_eq_none
abbrev zS:=@Nat.pow_le_pow_right
abbrev zT:=@Nat.mul_le_mul_right
abbrev zU:=@Nat.lt_or_ge
abbrev zV:=@List.mem_append_right
abbrev zW:=@List.length_cons
abbrev zX:=@List.nil_append
abbrev zY:=@List.cons_append
theorem dx {p:Prop} (h:p:=by decide):p:=h
theorem om {p:Prop} (h:p:=by omega):p:=h
theorem I {p:Prop} (h:p):Hid p:=h
theorem nt {a b c:Nat} (h:a≤b) (k:b≤c):a≤c:=Nat.le_trans h k
theorem nj {a b c:Nat} (h:a≤b) (k:b < c):a < c:=Nat.lt_of_le_of_lt h k
theorem nk {a b c:Nat} (h:a < b) (k:b≤c):a < c:=Nat.lt_of_lt_of_le h k
theorem nm {a b c:Nat} (h:a < b) (k:b < c):a < c:=Nat.lt_trans h k
theorem nr (n:Nat):n≤n:=Nat.le_refl n
theorem nq (n:Nat):0≤n:=Nat.zero_le n
theorem ni (n:Nat):¬n < n:=Nat.lt_irrefl n
theorem dt {p:Prop} [Decidable p] (h:p):decide p=true:=decide_eq_true h
theorem df {p:Prop} [Decidable p] (h:¬p):decide p=false:=decide_eq_false h
theorem de {p:Prop} [Decidable p]:(decide p=true)=p:=decide_eq_true_eq
theorem be (a b:Bool):((a&&b)=true)=(a=true∧b=true):=Bool.and_eq_true a b
theorem ai {a b:Prop} (h:a) (k:b):a∧b:=⟨h,k⟩
theorem wi (n:Int) (h:-9223372036854775808≤n∧n≤9223372036854775807):IntKind.i64.wrap n=n:=IntWalk.i64_in n h
section
universe u
variable {α:Type u} {l:List α} {a b:α}
theorem oq (a b:α):(some a=some b)=(a=b):=Option.some.injEq a b
theorem ge {i} (h:i < l.length):l[i]?=some l[i]:=List.getElem?_eq_getElem h
theorem mg {i:Nat} (e:l[i]?=some a):a∈l:=List.mem_of_getElem? e
theorem gs {i:Nat} (e:l[i]?=some a):∃h:i < l.length,l[i]=a:=List.getElem?_eq_some_iff.1 e
theorem mj (h:a∈[b]):a=b:=List.mem_singleton.1 h
theorem mf:a∈a::l:=List.mem_cons_self
end
theorem dq (a:Addr) (n:Nat):(a.add n).block=a.block:=by unfold Addr.add;split<;>rfl
theorem sr (a:Addr) (i j:Nat):(a.add i).add j=a.add (i+j):=by
 unfold Addr.add;by_cases hi:i=0<;>by_cases hj:j=0<;>simp[hi,hj,Nat.add_assoc]
theorem ij (g o i:Nat):(⟨g,o,none⟩:Addr).add i=⟨g,o+i,none⟩:=by
 unfold Addr.add;by_cases h:i=0<;>simp[h]
def Sees (w:World) (B:Nat) (A:Option Addr) (xs:List Value):Prop:=
 ∀j u,xs[j]?=some u→∃ad,A=some ad∧ad.block < B∧w.cell? (ad.add j)=some u
section
variable {w w':World} {B B':Nat} {A:Option Addr} {xs:List Value}
theorem Sees.nil:Sees w B A []:=fun j u h=>by simp at h
theorem Sees.look (h:Sees w B A xs) {k:Nat} (hk:k < xs.length):∃ad,A=some ad∧ad.block < B∧w.cell? (ad.add k)=some xs[k]:=
 h k _ (List.getElem?_eq_getElem hk)
theorem Sees.kept (h:Sees w B A xs) (hk:∀b,b < B→w'.heap[b]?=w.heap[b]?):Sees w' B A xs:=fun j u hu=>by
 obtain⟨ad,e,hb,hc⟩:=h j u hu;exact⟨ad,e,hb,(World.cell?_of_block (hk _ (by rw[dq];exact hb))).trans hc⟩
theorem Sees.below (h:Sees w B A xs) (hb:Below B w w'):Sees w' B A xs:=h.kept hb.block
theorem Sees.up (h:Sees w B A xs) (hB:B≤B'):Sees w B' A xs:=fun j u hu=>by
 obtain⟨ad,e,hb,hc⟩:=h j u hu;exact⟨ad,e,by omega,hc⟩
theorem Sees.go (h:Sees w w.heap.size A xs) (hb:Below w.heap.size w w'):Sees w' w'.heap.size A xs:=(h.below hb).up hb.size
theorem Sees.alloc (h:Sees w B A xs) (hB:B≤w.heap.size) (o:Obj):Sees (w.alloc o) B A xs:=h.kept fun b hb=>Below.heap_alloc w o b om
theorem Sees.tail (h:Sees w B A xs) {k cap:Nat} (hc:xs.length≤cap):Sees w B (if cap=k then A else A.map (·.add k)) (xs.drop k):=fun j u hu=>by
 rw[List.getElem?_drop] at hu;obtain⟨ad,rfl,hb,hcell⟩:=h _ _ hu;have hlt:k+j < xs.length:=by
  rcases Nat.lt_or_ge (k+j) xs.length with h | h
  ·exact h
  ·rw[List.getElem?_eq_none h] at hu;cases hu
 rw[if_neg om];exact⟨ad.add k,rfl,by rw[dq];exact hb,by rw[sr];exact hcell⟩
theorem Sees.own {base:Nat} {e:TypeId} {n c:Nat} (h:w.ownsRow base e 1 (.slice A n c) n xs):Sees w w.heap.size A xs:=fun j u hu=>by
 have hj:j < xs.length:=by
  rcases Nat.lt_or_ge j xs.length with h | h
  ·exact h
  ·rw[List.getElem?_eq_none h] at hu;cases hu
 obtain⟨hl,h0 | ⟨g,cap,cur,hv,_,hh,_,_,_,ht⟩⟩:=h
 ·omega
 ·have hA:A=some ⟨g,0,none⟩:=by injection hv
  subst hA;refine⟨_,rfl,?_,?_⟩
  ·rcases Nat.lt_or_ge g w.heap.size with hlt | hge
   ·exact hlt
   ·rw[Array.getElem?_eq_none hge] at hh;cases hh
  ·rw[ij,Nat.zero_add,cell_of_row w g j cur e (0,0) hh,← Array.getElem?_toList,← hu,← ht,List.getElem?_take_of_lt om]
end
def Bk (w:World) (g:Nat) (t:TypeId) (cs:Array Value):Prop:=w.heap[g]?=some (.cells cs t (0,0))
section
variable {w w':World} {g:Nat} {t:TypeId} {cs:Array Value}
theorem Bk.lt (h:Bk w g t cs):g < w.heap.size:=by
 rcases Nat.lt_or_ge g w.heap.size with hlt | hge
 ·exact hlt
 ·unfold Bk at h;rw[Array.getElem?_eq_none hge] at h;cases h
theorem Bk.cell (h:Bk w g t cs) (i:Nat):w.cell? ⟨g,i,none⟩=cs[i]?:=cell_of_row w g i cs t (0,0) h
theorem Bk.frozen (h:Bk w g t cs) (i:Nat):w.frozen? ⟨g,i,none⟩=false:=by
 unfold Bk at h;simp[World.frozen?,h]
theorem Bk.made (w:World) (t:TypeId) (cs:Array Value):Bk (w.alloc (.cells cs t)) w.heap.size t cs:=heap_alloc_new w _
theorem Bk.alloc (h:Bk w g t cs) (o:Obj):Bk (w.alloc o) g t cs:=(Below.heap_alloc w o g h.lt).trans h
theorem Bk.put (h:Bk w g t cs) (i:Nat) (u:Value):Bk (w.setCell ⟨g,i,none⟩ u) g t (cs.setIfInBounds i u):=by
 unfold Bk at h ⊢;simp[World.setCell,Array.getElem?_modify,h]
theorem Bk.keep (h:Bk w g t cs) (hk:w'.heap[g]?=w.heap[g]?):Bk w' g t cs:=hk.trans h
theorem Bk.below {B:Nat} (h:Bk w g t cs) (hb:Below B w w') (hg:g < B):Bk w' g t cs:=h.keep (hb.block g hg)
theorem Bk.ne {g':Nat} {t':TypeId} {cs':Array Value} (h:Bk w g t cs) (h':Bk w g' t' cs') (hne:t≠t'):g≠g':=by
 rintro rfl;unfold Bk at h h';rw[h] at h';injection h' with h';injection h' with _ ht;exact hne ht
theorem Bk.sees (h:Bk w g t cs) {xs:List Value} (hx:xs <+: cs.toList):Sees w w.heap.size (some ⟨g,0,none⟩) xs:=fun j u hu=>by
 refine⟨_,rfl,h.lt,?_⟩;rw[ij,Nat.zero_add,h.cell];obtain⟨r,hr⟩:=hx;have hj:j < xs.length:=by
  rcases Nat.lt_or_ge j xs.length with h | h
  ·exact h
  ·rw[List.getElem?_eq_none h] at hu;cases hu
 rw[← Array.getElem?_toList,← hr,List.getElem?_append_left hj];exact hu
end
structure Fr (X:Nat→Prop) (w w':World):Prop where
 bel:Below 0 w w'
 keep:∀b,b < w.heap.size→¬X b→w'.heap[b]?=w.heap[b]?
section
variable {X Y:Nat→Prop} {w w' w'':World}
theorem Fr.refl (X:Nat→Prop) (w:World):Fr X w w:=⟨.refl _ _,fun _ _ _=>rfl⟩
theorem Fr.trans (h:Fr X w w') (k:Fr X w' w''):Fr X w w'':=⟨h.bel.trans k.bel,fun b hb hx=>(k.keep b (nk hb h.bel.size) hx).trans (h.keep b hb hx)⟩
theorem Fr.wide (h:Fr X w w') (hX:∀b,b < w.heap.size→X b→Y b):Fr Y w w':=⟨h.bel,fun b hb hy=>h.keep b hb fun hx=>hy (hX b hb hx)⟩
theorem Fr.drew (X:Nat→Prop) (w:World):Fr X w w.drew:=⟨⟨rfl,rfl,rfl,nr _,fun _ _=>rfl⟩,fun _ _ _=>rfl⟩
theorem Fr.alloc (X:Nat→Prop) (w:World) (o:Obj):Fr X w (w.alloc o):=⟨(Below.refl 0 w).alloc (nq _) o,fun b hb _=>Below.heap_alloc w o b hb⟩
theorem Fr.set (w:World) (p:Addr) (v:Value) (hX:X p.block):Fr X w (w.setCell p v):=⟨(Below.refl 0 w).setCell (nq _) v,fun b _ hx=>Below.heap_setCell w p v b fun e=>hx (e▸hX)⟩
theorem Fr.bk (h:Fr X w w') {g t:Nat} {cs:Array Value} (hb:Bk w g t cs) (hx:¬X g):Bk w' g t cs:=Bk.keep hb (h.keep g hb.lt hx)
theorem Fr.size (h:Fr X w w'):w.heap.size≤w'.heap.size:=h.bel.size
theorem Fr.below (h:Fr X w w') {B:Nat} (hB:B≤w.heap.size) (hx:∀b,b < B→¬X b):Below B w w':=⟨h.bel.os,h.bel.tape,h.bel.output,h.bel.size,fun b hb=>h.keep b (nk hb hB) (hx b hb)⟩
end
structure ElemS (P:Program) (t e:TypeId) (size bytes:Nat):Prop where
 ht:P.underlying t=some (.slice e)
 hi:∃i z,P.info? e=some i∧i.zero=some z∧i.size=size∧i.bytes=bytes∧z.cells.size=size
 pos:0 < size
section
variable {P:Program} {t e size bytes:Nat}
theorem fe (h:ElemS P t e size bytes) {w:World} {ops:Array Oper} {rest:List Oper} {o:Oper} {a:Act} {Q:Exit→Act→World→Prop} (hgd:o.guard=none) (s x:Operand) (ho:o.op=.call { callee:=.builtin .append,args:=#[s,x],argTypes:=#[t,t] })
  (base:Nat) (v:Value) (n:Nat) (xs:List Value) (us:Array Value) (hs:a.eval s=v) (hx:a.eval x=.slice (some ⟨w.heap.size,0,none⟩) 1 1) (hus:us.size=size) (hown:w.ownsRow base e size v n xs) (h1:∀u∈us.toList,u.oneCell'=true)
  (h63:n+1≤maxLen) (hbytes:(n+1)*bytes≤140737488355328) (hbase:base≤w.heap.size)
  (hK:∀v' w',w'.ownsRow base e size v' (n+1) (xs++us.toList)→Fr (fun b=>v.ownBlock=some b) w w'→(v'.ownBlock=v.ownBlock∨∀b,v'.ownBlock=some b→w.heap.size < b)→wpList P ops Q rest (a.put o.dst v') w'):
  wpList P ops Q (o::rest) a (w.alloc (.cells us e)):=by
 obtain⟨i,z,hi,hz,hsz,hby,hzs⟩:=h.hi;have hcell:∀j u,us.toList[j]?=some u→(w.alloc (.cells us e)).cell? ((⟨w.heap.size,0,none⟩:Addr).add j)=some u:=fun j u hu=>by
  rw[ij,Nat.zero_add,(Bk.made w e us).cell,← Array.getElem?_toList];exact hu
 obtain⟨v',w',hrun,h2,h3,_,h5⟩:=run_append_own_at (P:=P) (w.alloc (.cells us e)) base t o.type e i z size bytes h.ht hi hz hsz hby hzs h.pos v n xs (hown.alloc _) ⟨w.heap.size,0,none⟩ 1 1 us.toList (by simp[hus]) hcell h1 h63 hbytes (by simp;omega);refine wpList_plain hgd fun _ hK'=>?_
 unfold Oper.wp execOp;simp only[ho,resolve,invoke,builtin,Sem.run_bind,Sem.run_pure,Result.andThen_ok,List.map_toArray,List.map_cons,List.map_nil,hs,hx,hrun];refine hK' _ _ (hK v' w' h2 ⟨((Below.refl _ _).alloc (nq _) _).grown h3 (by simp) (fun _ _=>nq _),?_⟩ ?_)
 ·intro b hb hne;exact (h3.block b (by simp;omega) (fun e=>hne e.symm)).trans (Below.heap_alloc _ _ _ hb)
 ·rcases h5 with h5 | h5
  ·exact .inl h5
  ·refine .inr fun b hb=>?_
   rw[hb] at h5;injection h5 with h5;simp at h5;omega
end
section
variable {w w':World} {B e size n:Nat} {v:Value} {xs:List Value}
theorem md (h:w.ownsRow B e size v n xs) (hk:∀b,v.ownBlock=some b→w'.heap[b]?=w.heap[b]?):w'.ownsRow B e size v n xs:=by
 refine⟨h.1,?_⟩;rcases h.2 with hn | ⟨g,cap,cur,rfl,hb,hgg,rest⟩
 ·exact .inl hn
 ·exact .inr ⟨g,cap,cur,rfl,hb,(hk g rfl).trans hgg,rest⟩
theorem a8h (h:w.ownsRow B e size v n xs):∀b,v.ownBlock=some b→∃cur,Bk w b e cur:=by
 rcases h.2 with ⟨rfl,_⟩ | ⟨g,cap,cur,rfl,_,hgg,rest⟩
 ·intro b e;cases e
 ·intro b e;obtain rfl:g=b:=by simpa [Value.ownBlock] using e
  exact⟨cur,hgg⟩
theorem ma (h:w.ownsRow B e size v n xs):∀b,v.ownBlock=some b→B≤b∧b < w.heap.size:=World.ownsRow.lt h
theorem ahn (h:w.ownsRow B e size v n xs):∃A c,v=.slice A n c:=by
 obtain⟨_,⟨rfl,rfl⟩ | ⟨g,cap,cur,rfl,_⟩⟩:=h
 ·exact⟨none,0,rfl⟩
 ·exact⟨_,cap,rfl⟩
end
section
variable {α:Type} {F:α→List Value} {k:Nat}
theorem a0h (hF:∀a,(F a).length=k):∀l:List α,(l.flatMap F).length=l.length*k
 | []=>by simp
 | a::l=>by rw[List.flatMap_cons,zI,hF,a0h hF l,zW,Nat.add_mul];omega
theorem abo (hF:∀a,(F a).length=k):∀{l:List α} {i j:Nat} {a:α},l[i]?=some a→j < k→(l.flatMap F)[i*k+j]?=(F a)[j]?
 | [],i,j,a,h,_=>by simp at h
 | b::l,0,j,a,h,hj=>by
  simp at h;subst h;rw[List.flatMap_cons,Nat.zero_mul,Nat.zero_add,List.getElem?_append_left (by rw[hF];exact hj)]
 | b::l,i+1,j,a,h,hj=>by
  simp at h;rw[List.flatMap_cons,List.getElem?_append_right (by rw[hF,Nat.add_mul];omega),hF,show (i+1)*k+j - k=i*k+j from by rw[Nat.add_mul];omega];exact abo hF h hj
end
section
variable {α:Type} {F:α→List Value} {k:Nat} {w:World} {B e g c n:Nat} {l:List α}
end
theorem ux {P:Program} {t e size bytes:Nat} (h:ElemS P t e size bytes) {w:World} {ops:Array Oper} {rest:List Oper} {o:Oper} {a:Act} {Q:Exit→Act→World→Prop} (hgd:o.guard=none) (s x:Operand) (ho:o.op=.call { callee:=.builtin .append,args:=#[s,x],argTypes:=#[t,t] })
  (base:Nat) (v:Value) (n:Nat) (xs:List Value) (hs:a.eval s=v) (hown:w.ownsRow base e size v n xs) (ad:Addr) (m c:Nat) (news:List Value) (hx:a.eval x=.slice (some ad) m c) (hl:news.length=m*size) (hnews:∀j u,news[j]?=some u→w.cell? (ad.add j)=some u) (h1:∀u∈news,u.oneCell'=true)
  (h63:n+m≤maxLen) (hbytes:(n+m)*bytes≤140737488355328) (hbase:base≤w.heap.size)
  (hK:∀v' w',w'.ownsRow base e size v' (n+m) (xs++news)→w.grownBy w' v.ownBlock→(v'.ownBlock=v.ownBlock∨v'.ownBlock=some w.heap.size)→wpList P ops Q rest (a.put o.dst v') w'):
  wpList P ops Q (o::rest) a w:=by
 obtain⟨i,z,hi,hz,hsz,hby,hzs⟩:=h.hi;obtain⟨v',w',hrun,h2,h3,_,h5⟩:=run_append_own_at (P:=P) w base t o.type e i z size bytes h.ht hi hz hsz hby hzs h.pos v n xs hown ad m c news hl hnews h1 h63 hbytes hbase;refine wpList_plain hgd fun _ hK'=>?_
 unfold Oper.wp execOp;simp only[ho,resolve,invoke,builtin,Sem.run_bind,Sem.run_pure,Result.andThen_ok,List.map_toArray,List.map_cons,List.map_nil,hs,hx,hrun];exact hK' _ _ (hK v' w' h2 h3 h5)
def Gr (w w':World):Prop:=Fr (fun b=>w.heap.size≤b) w w'
section
variable {w w1 w2:World} {X:Nat→Prop}
theorem Gr.refl (w:World):Gr w w:=Fr.refl _ _
theorem Gr.step (h:Gr w w1) (k:Fr X w1 w2) (hX:∀b,b < w1.heap.size→X b→w.heap.size≤b):Gr w w2:=Fr.trans h (k.wide hX)
theorem Gr.no (h:Gr w w1) (k:Fr (fun _=>False) w1 w2):Gr w w2:=h.step k fun _ _ h=>h.elim
theorem Gr.alloc (h:Gr w w1) (o:Obj):Gr w (w1.alloc o):=h.no (Fr.alloc _ _ _)
theorem Gr.below (h:Gr w w1):Below w.heap.size w w1:=Fr.below h (nr _) fun b hb h=>by omega
theorem Gr.size (h:Gr w w1):w.heap.size≤w1.heap.size:=Fr.size h
theorem Gr.of (h:Below w.heap.size w w1):Gr w w1:=⟨⟨h.os,h.tape,h.output,h.size,fun b hb=>absurd hb (Nat.not_lt_zero b)⟩,fun b hb _=>h.block b hb⟩
theorem Gr.no_of (h:Below w.heap.size w w1):Fr (fun _=>False) w w1:=⟨⟨h.os,h.tape,h.output,h.size,fun b hb=>absurd hb (Nat.not_lt_zero b)⟩,fun b hb _=>h.block b hb⟩
theorem Gr.fr (h:Gr w w1):Fr (fun _=>False) w w1:=Gr.no_of h.below
theorem Gr.then (h:Gr w w1) (k:Below w1.heap.size w1 w2):Gr w w2:=h.no (Gr.no_of k)
theorem Gr.set (h:Gr w w1) {p:Addr} (hp:w.heap.size≤p.block) (v:Value):Gr w (w1.setCell p v):=Fr.trans h (Fr.set _ _ _ hp)
end
abbrev B32:Nat:=4294967296
theorem ba:B32=4294967296:=rfl
def val:List Nat→Nat
 | []=>0
 | x::r=>x+B32*val r
def Lim (l:List Nat):Prop:=∀x,x∈l→x < B32
def a7 (n:Nat):List Nat:=if h:n=0 then [] else (n % B32)::a7 (n / B32)
 termination_by n
 decreasing_by exact Nat.div_lt_self (by omega) (by decide)
theorem al:a7 0=[]:=by rw[a7];rfl
theorem gq {n:Nat} (h:n≠0):a7 n=(n % B32)::a7 (n / B32):=by rw[a7,dif_neg h]
theorem fi {n:Nat} (h:n≠0) (hn:n < B32):a7 n=[n]:=by
 rw[gq h,Nat.mod_eq_of_lt hn,Nat.div_eq_of_lt hn,al]
theorem vl (n:Nat):val (a7 n)=n:=by
 induction n using Nat.strongRecOn with
 | ind n ih=>
  by_cases h:n=0
  ·subst h;rw[al];rfl
  ·rw[gq h,val,ih _ (Nat.div_lt_self (by omega) (by decide))];exact Nat.mod_add_div n B32
theorem f8 (n:Nat):Lim (a7 n):=by
 induction n using Nat.strongRecOn with
 | ind n ih=>
  by_cases h:n=0
  ·subst h;rw[al];intro x hx;cases hx
  ·rw[gq h];intro x hx;rcases List.mem_cons.1 hx with rfl | hx
   ·exact Nat.mod_lt _ (by decide)
   ·exact ih _ (Nat.div_lt_self (by omega) (by decide)) x hx
theorem aaz {n:Nat}:a7 n=[]↔n=0:=by
 constructor
 ·intro h;rw[← vl n,h];rfl
 ·rintro rfl;exact al
theorem qx {a b:Nat} (h:a7 a=a7 b):a=b:=by rw[← vl a,h,vl]
theorem bw {n:Nat}:(a7 n).length=0↔n=0:=by rw[List.length_eq_zero_iff,aaz]
theorem Lim.tail {x:Nat} {l:List Nat} (h:Lim (x::l)):Lim l:=fun y hy=>h y (List.mem_cons_of_mem _ hy)
theorem Lim.head {x:Nat} {l:List Nat} (h:Lim (x::l)):x < B32:=h x (List.mem_cons_self ..)
theorem Lim.take {l:List Nat} (h:Lim l) (k:Nat):Lim (l.take k):=fun y hy=>h y (List.mem_of_mem_take hy)
theorem Lim.at {l:List Nat} (h:Lim l) {i x:Nat} (hx:l[i]?=some x):x < B32:=h x (List.mem_of_getElem? hx)
theorem Lim.append {a b:List Nat} (ha:Lim a) (hb:Lim b):Lim (a++b):=fun y hy=>(List.mem_append.1 hy).elim (ha y) (hb y)
theorem Lim.nil:Lim []:=fun y hy=>by cases hy
theorem Lim.one {x:Nat} (h:x < B32):Lim [x]:=fun y hy=>by rw[List.mem_singleton.1 hy];exact h
theorem jg:∀(a b:List Nat),val (a++b)=val a+B32 ^ a.length*val b
 | [],b=>by simp[val]
 | x::a,b=>by
  rw[List.cons_append,val,jg a b,val,List.length_cons,Nat.pow_succ,Nat.mul_add,← Nat.mul_assoc,Nat.mul_comm B32 (B32 ^ a.length)];omega
theorem en:∀{l:List Nat},Lim l→val l < B32 ^ l.length
 | [],_=>by simp[val]
 | x::l,h=>by
  have h1:=h.head;have h2:=en h.tail;rw[val,List.length_cons,Nat.pow_succ];have h3:B32*(val l+1)≤B32*B32 ^ l.length:=Nat.mul_le_mul_left _ h2;rw[Nat.mul_add] at h3;rw[Nat.mul_comm (B32 ^ l.length)];omega
theorem te:∀{l:List Nat},(∀x∈l,x=0)→val l=0
 | [],_=>rfl
 | x::l,h=>by
  rw[val,te fun y hy=>h y (List.mem_cons_of_mem _ hy),h x (List.mem_cons_self ..),Nat.mul_zero]
theorem n5 {l:List Nat} {k:Nat} (h:∀i x,k≤i→l[i]?=some x→x=0):val (l.take k)=val l:=by
 have hz:val (l.drop k)=0:=te fun x hx=>by
  obtain⟨i,hi⟩:=List.mem_iff_getElem?.1 hx;rw[List.getElem?_drop] at hi;exact h _ x (by omega) hi
 have e:=jg (l.take k) (l.drop k);rw[List.take_append_drop,hz,Nat.mul_zero,Nat.add_zero] at e;exact e.symm
def Cano (l:List Nat):Prop:=∀x,l.getLast?=some x→x≠0
theorem Cano.tail {x y:Nat} {l:List Nat} (h:Cano (x::y::l)):Cano (y::l):=fun z hz=>h z (by rw[List.getLast?_cons_cons];exact hz)
theorem a24:∀{l:List Nat},Lim l→Cano l→a7 (val l)=l
 | [],_,_=>by rw[val,al]
 | [x],h,hc=>by
  have h0:x≠0:=hc x rfl;rw[show val [x]=x by simp[val],fi h0 h.head]
 | x::y::l,h,hc=>by
  have ih:=a24 h.tail hc.tail;have h1:=h.head;have hne:val (y::l)≠0:=fun e=>by rw[e,al] at ih;cases ih
  rw[val,gq (by have:B32*val (y::l)≠0:=Nat.mul_ne_zero (by decide) hne;omega),Nat.add_mul_mod_self_left,Nat.mod_eq_of_lt h1,Nat.add_mul_div_left _ _ (by decide),Nat.div_eq_of_lt h1,Nat.zero_add,ih]
theorem si (n:Nat):Cano (a7 n):=by
 induction n using Nat.strongRecOn with
 | ind n ih=>
  by_cases h:n=0
  ·subst h;rw[al];intro x hx;cases hx
  ·by_cases h2:n / B32=0
   ·rw[gq h,h2,al];intro x hx;have:n < B32:=by
     rcases Nat.lt_or_ge n B32 with h3 | h3
     ·exact h3
     ·have:=Nat.div_pos h3 (by decide:0 < B32);omega
    have hx':n % B32=x:=by simpa using hx
    rw[Nat.mod_eq_of_lt this] at hx';omega
   ·rw[gq h,gq h2];have:=ih _ (Nat.div_lt_self (by omega) (by decide:1 < B32));rw[gq h2] at this;intro x hx;rw[List.getLast?_cons_cons] at hx;exact this x hx
theorem a7h {l:List Nat} (h:Lim l) {k:Nat} (hk:k≤l.length) (hz:∀i x,k≤i→l[i]?=some x→x=0) (hl:∀x,0 < k→l[k - 1]?=some x→x≠0):a7 (val l)=l.take k:=by
 rw[← n5 hz];refine a24 (h.take k) fun x hx=>?_
 rw[List.getLast?_eq_getElem?,List.length_take,Nat.min_eq_left hk] at hx;rcases Nat.eq_zero_or_pos k with rfl | h0
 ·simp at hx
 ·rw[List.getElem?_take_of_lt (by omega)] at hx;exact hl x h0 hx
theorem uy (l:List Nat) (k:Nat):val (l.take k)≤val l:=by
 have e:=jg (l.take k) (l.drop k);rw[List.take_append_drop] at e;omega
theorem ab0 {n:Nat} (h:n≠0):B32 ^ ((a7 n).length - 1)≤n:=by
 induction n using Nat.strongRecOn with
 | ind n ih=>
  rw[gq h,List.length_cons,Nat.add_sub_cancel];by_cases h2:n / B32=0
  ·rw[h2,al];simp;omega
  ·have h1:=ih _ (Nat.div_lt_self (by omega) (by decide:1 < B32)) h2;have h3:(a7 (n / B32)).length≠0:=fun e=>h2 (bw.1 e)
   obtain⟨k,hk⟩:∃k,(a7 (n / B32)).length=k+1:=⟨(a7 (n / B32)).length - 1,by omega⟩;rw[hk] at h1 ⊢;rw[Nat.add_sub_cancel] at h1;rw[Nat.pow_succ];exact Nat.le_trans (Nat.mul_le_mul_right _ h1) (Nat.div_mul_le_self n B32)
theorem f9 (n:Nat):n < B32 ^ (a7 n).length:=by
 have:=en (f8 n);rw[vl] at this;exact this
theorem b8 {n k:Nat} (h:n < B32 ^ k):(a7 n).length≤k:=by
 by_cases h0:n=0
 ·subst h0;rw[al];exact Nat.zero_le _
 ·have h1:=ab0 h0;refine Nat.le_of_not_lt fun h2=>?_
  have:B32 ^ k≤B32 ^ ((a7 n).length - 1):=Nat.pow_le_pow_right (by decide) (by omega);omega
theorem aq {a b:Nat} (h:a≤b):(a7 a).length≤(a7 b).length:=b8 (Nat.lt_of_le_of_lt h (f9 b))
theorem a22 {a b:Nat} (h:(a7 a).length < (a7 b).length):a < b:=by
 refine Nat.lt_of_not_le fun h2=>?_
 have:=aq h2;omega
theorem uz:∀{i:Nat} {a b:List Nat} {x y:Nat},Lim a→Lim b→a[i]?=some x→b[i]?=some y→a.drop (i+1)=b.drop (i+1)→x < y→val a < val b
 | _,[],b,x,y,_,_,hx,_,_,_=>by simp at hx
 | _,a::r,[],x,y,_,_,_,hy,_,_=>by simp at hy
 | 0,a::r,b::s,x,y,ha,hb,hx,hy,hd,h=>by
  simp at hx hy hd;subst hx hy hd;rw[val,val];omega
 | i+1,a::r,b::s,x,y,ha,hb,hx,hy,hd,h=>by
  have h1:=uz (i:=i) ha.tail hb.tail (by simpa using hx) (by simpa using hy) (by simpa using hd) h;have h2:=ha.head;rw[val,val];have h3:B32*(val r+1)≤B32*val s:=Nat.mul_le_mul_left _ h1;rw[Nat.mul_add] at h3;omega
theorem tg (a:List Nat) (x:Nat):val (a++[x])=val a+B32 ^ a.length*x:=by
 rw[jg];simp[val]
theorem bn {l:List Nat} {i x:Nat} (h:l[i]?=some x):val (l.take (i+1))=val (l.take i)+B32 ^ i*x:=by
 have hl:=(List.getElem?_eq_some_iff.1 h).1;rw[List.take_add_one,h,Option.toList_some,tg,List.length_take,Nat.min_eq_left (by omega)]
structure Q where
 neg:Bool
 num:Nat
 den:Nat
 deriving DecidableEq,Inhabited
namespace Q
abbrev zero:Q:=⟨false,0,0⟩
abbrev one:Q:=⟨false,1,0⟩
abbrev mone:Q:=⟨true,1,0⟩
def un (q:Q):Nat:=if q.den=0 then 1 else q.den
theorem un_pos (q:Q):0 < q.un:=by unfold un;split<;>omega
structure Ok (q:Q):Prop where
 one:q.den≠1
 cop:Nat.gcd q.num q.un=1
 pos:q.num=0→q.neg=false∧q.den=0
instance (q:Q):Decidable q.Ok:=decidable_of_iff (q.den≠1∧Nat.gcd q.num q.un=1∧(q.num=0→q.neg=false∧q.den=0)) ⟨fun ⟨a,b,c⟩=>⟨a,b,c⟩,fun ⟨a,b,c⟩=>⟨a,b,c⟩⟩
end Q
def den0 (d:Nat):Nat:=if d=1 then 0 else d
def quot (neg:Bool) (num den:Nat):Q:=if num=0 then Q.zero else ⟨neg,num / Nat.gcd num den,den0 (den / Nat.gcd num den)⟩
theorem vo (neg:Bool) (num:Nat) {den:Nat} (hd:0 < den):(quot neg num den).Ok:=by
 unfold quot;split
 ·exact⟨by decide,by decide,fun _=>⟨rfl,rfl⟩⟩
 ·have hn:0 < num:=by omega
  have hg:=Nat.gcd_pos_of_pos_left den hn;have hn2:0 < num / Nat.gcd num den:=Nat.div_pos (Nat.le_of_dvd hn (Nat.gcd_dvd_left ..)) hg;have hd2:0 < den / Nat.gcd num den:=Nat.div_pos (Nat.le_of_dvd hd (Nat.gcd_dvd_right ..)) hg;have hc:Nat.gcd (num / Nat.gcd num den) (den / Nat.gcd num den)=1:=Nat.gcd_div_gcd_div_gcd_of_pos_left hn;have hu:(Q.mk neg (num / Nat.gcd num den) (den0 (den / Nat.gcd num den))).un=den / Nat.gcd num den:=by
   unfold Q.un den0;by_cases h:den / Nat.gcd num den=1
   ·rw[if_pos h];exact (if_pos rfl).trans h.symm
   ·rw[if_neg h];exact if_neg (Nat.ne_of_gt hd2)
  refine⟨?_,?_,fun h=>absurd h (by simp only;omega)⟩
  ·simp only[den0];split<;>omega
  ·rw[hu];exact hc
theorem jl {q:Q} (h:q.Ok):quot q.neg q.num q.un=q:=by
 obtain⟨n,a,d⟩:=q;unfold quot;split<;>rename_i h0
 ·simp only at h0;subst h0;obtain⟨h1,h2⟩:=h.pos rfl;simp only at h1 h2;subst h1 h2;rfl
 ·have hc:=h.cop;simp only at hc;rw[hc,Nat.div_one,Nat.div_one]
  congr 1
  have h1:=h.one;simp only at h1;unfold den0 Q.un;simp only;by_cases h2:d=0
  ·rw[if_pos h2,if_pos rfl,h2]
  ·rw[if_neg h2,if_neg h1]
def sadd (na:Bool) (a:Nat) (nb:Bool) (b:Nat):Bool×Nat:=
 if na=nb then (na&&decide (0 < a+b),a+b) else if a < b then (nb,b - a) else (na&&decide (0 < a - b),a - b)
namespace Q
def sg (q:Q):Bool:=q.neg&&decide (0 < q.num)
def add (a b:Q):Q:=let s:=sadd (a.sg&&decide (0 < a.num*b.un)) (a.num*b.un) (b.sg&&decide (0 < b.num*a.un)) (b.num*a.un);quot s.1 s.2 (a.un*b.un)
def mul (a b:Q):Q:=quot (a.neg != b.neg) (a.num*b.num) (a.un*b.un)
def flip (a:Q):Q:=⟨!a.neg,a.num,a.den⟩
def sign (a:Q):Int:=if a.num=0 then 0 else if a.neg then -1 else 1
theorem sg_ok {a:Q} (h:a.Ok):a.sg=a.neg:=by
 unfold sg;by_cases h0:a.num=0
 ·rw[(h.pos h0).1];rfl
 ·rw[decide_eq_true (by omega),Bool.and_true]
end Q
theorem Gr.keep {w w':World} (G:Gr w w') {a:Addr} {v:Value} (h:w.cell? a=some v):w'.cell? a=some v:=
 (World.cell?_of_block (G.below.block _ (World.block_lt_of_cell? w _ h))).trans h
theorem Gr.drew {w w':World} (h:Gr w w'):Gr w w'.drew:=h.no (Fr.drew _ _)
theorem Gr.trans {a b c:World} (h:Gr a b) (k:Gr b c):Gr a c:=h.no k.fr
theorem Gr.bk {w w':World} (G:Gr w w') {g t:Nat} {cs:Array Value} (h:Bk w g t cs):Bk w' g t cs:=G.fr.bk h id
class Kp (p:Prop) (w w':World) (p':outParam Prop):Prop where
 kp:Gr w w'→p→p'
instance kpBk {g t u} {w w'}:Kp (Bk w g t u) w w' (Bk w' g t u):=⟨fun G h=>G.bk h⟩
instance kpGr {v} {w w'}:Kp (Gr v w) w w' (Gr v w'):=⟨fun G h=>h.trans G⟩
theorem Gr.lt {w w':World} (G:Gr w w') {g:Nat} (h:g < w.heap.size):g < w'.heap.size:=nk h G.size
theorem add_zero (a:Addr):a.add 0=a:=by unfold Addr.add;simp
theorem ao0 (a:Addr) (i:Nat) {j:Nat} (h:j≠0):a.add (i+j)=⟨(a.add i).block,(a.add i).off+j,none⟩:=by
 rw[← sr,Addr.add,if_neg h]
theorem Sees.gr {w w':World} {A:Option Addr} {xs:List Value} (h:Sees w w.heap.size A xs) (G:Gr w w'):Sees w' w'.heap.size A xs:=h.go G.below
theorem Sees.take {w:World} {B:Nat} {A:Option Addr} {xs:List Value} (h:Sees w B A xs) (k:Nat):Sees w B A (xs.take k):=fun i x hx=>by
 rw[List.getElem?_take] at hx;split at hx
 ·exact h i x hx
 ·cases hx
structure Sv where
 A:Option Addr
 n:Nat
 c:Nat
abbrev Sv.v (x:Sv):Value:=.slice x.A x.n x.c
abbrev Sv.none:Sv:=⟨Option.none,0,0⟩
structure Sv.Is (w:World) (x:Sv) (k:Nat) (ds:List Value):Prop where
 len:ds.length=x.n*k
 cap:x.n≤x.c
 max:x.c≤9223372036854775807
 nil:x.A=Option.none→x.c=0
 see:Sees w w.heap.size x.A ds
section
variable {w w':World} {x:Sv} {k:Nat} {ds:List Value}
theorem Sv.Is.gr (h:x.Is w k ds) (G:Gr w w'):x.Is w' k ds:=⟨h.len,h.cap,h.max,h.nil,h.see.gr G⟩
theorem Sv.Is.none (w:World) (k:Nat):Sv.none.Is w k []:=⟨by simp,nr _,nq _,fun _=>rfl,Sees.nil⟩
theorem Sv.Is.take (h:x.Is w k ds) {m:Nat} (hm:m≤x.n):Sv.Is w ⟨x.A,m,x.c⟩ k (ds.take (m*k)):=
 ⟨by rw[List.length_take,h.len];exact Nat.min_eq_left (zT _ hm),nt hm h.cap,h.max,h.nil,h.see.take _⟩
theorem Sv.Is.mk0 (h:x.Is w k ds) (h0:x.A=Option.none):x=Sv.none∧ds=[]:=by
 obtain⟨A,n,c⟩:=x;have h1:=h.nil h0;have h2:=h.cap;have h3:=h.len;simp only at h0 h1 h2 h3;subst h0 h1;obtain rfl:n=0:=by omega
 rw[Nat.zero_mul] at h3;exact⟨rfl,List.length_eq_zero_iff.1 h3⟩
theorem Sv.Is.look (h:x.Is w k ds) {i:Nat} {u:Value} (hu:ds[i]?=some u):∃ad,x.A=some ad∧ad.block < w.heap.size∧w.cell? (ad.add i)=some u:=h.see i u hu
end
abbrev lv (y:Nat):Value:=.int .u32 (y:Int)
def Sv.Ty (w:World) (x:Sv) (e:TypeId):Prop:=∀ad,x.A=some ad→0 < x.n→∃cs fr,w.heap[ad.block]?=some (.cells cs e fr)
theorem Sv.Ty.keep {w w':World} {x:Sv} {e:TypeId} (h:x.Ty w e) (hk:∀ad,x.A=some ad→0 < x.n→w'.heap[ad.block]?=w.heap[ad.block]?):x.Ty w' e:=fun ad ha hn=>by
 obtain⟨cs,fr,hh⟩:=h ad ha hn;exact⟨cs,fr,(hk ad ha hn).trans hh⟩
theorem Sv.Ty.gr {w w':World} {x:Sv} {e:TypeId} (h:x.Ty w e) (G:Gr w w'):x.Ty w' e:=fun ad ha hn=>by
 obtain⟨cs,fr,hh⟩:=h ad ha hn;refine⟨cs,fr,(G.below.block _ ?_).trans hh⟩;rcases zU ad.block w.heap.size with h1 | h1
 ·exact h1
 ·rw[zR h1] at hh;cases hh
structure Sv.Num (w:World) (x:Sv) (l:List Nat):Prop where
 is:x.Is w 1 (l.map lv)
 lim:Lim l
 ty:x.Ty w 200
section
variable {w w':World} {x:Sv} {l:List Nat}
theorem Sv.Num.gr (h:x.Num w l) (G:Gr w w'):x.Num w' l:=⟨h.is.gr G,h.lim,h.ty.gr G⟩
theorem Sv.Num.len (h:x.Num w l):l.length=x.n:=by have:=h.is.len;rw[zB] at this;omega
theorem Sv.Num.none (w:World):Sv.none.Num w []:=⟨Sv.Is.none w 1,Lim.nil,fun ad h=>by cases h⟩
theorem Sv.Num.take (h:x.Num w l) {k:Nat} (hk:k≤x.n):Sv.Num w ⟨x.A,k,x.c⟩ (l.take k):=
 ⟨by have:=h.is.take hk;rw[Nat.mul_one,← List.map_take] at this;exact this,h.lim.take k,fun ad ha hn=>h.ty ad ha (nk hn hk)⟩
theorem Sv.Num.at (h:x.Num w l) {i:Nat} (hi:i < x.n):∃y ad,l[i]?=some y∧y < B32∧x.A=some ad∧ad.block < w.heap.size∧w.cell? (ad.add i)=some (.int .u32 (y:Int)):=by
 have hl:i < l.length:=by rw[h.len];exact hi
 obtain⟨ad,e,hb,hc⟩:=h.is.look (i:=i) (u:=lv l[i]) (by rw[List.getElem?_map,ge hl];rfl);exact⟨_,ad,ge hl,h.lim _ (List.getElem_mem hl),e,hb,hc⟩
end
structure Rv where
 neg:Bool
 num:Sv
 den:Sv
abbrev Rv.v (x:Rv):Value:=.agg #[.bool x.neg,.slice x.num.A x.num.n x.num.c,.slice x.den.A x.den.n x.den.c]
abbrev Rv.cs (x:Rv):List Value:=[.bool x.neg,.slice x.num.A x.num.n x.num.c,.slice x.den.A x.den.n x.den.c]
structure Rv.Is (w:World) (x:Rv) (q:Q):Prop where
 neg:x.neg=q.neg
 num:x.num.Num w (a7 q.num)
 den:x.den.Num w (a7 q.den)
theorem Rv.Is.gr {w w':World} {x:Rv} {q:Q} (h:x.Is w q) (G:Gr w w'):x.Is w' q:=⟨h.neg,h.num.gr G,h.den.gr G⟩
instance kpRv {x:Rv} {q} {w w'}:Kp (x.Is w q) w w' (x.Is w' q):=⟨fun G h=>h.gr G⟩
instance kpNum {x:Sv} {l} {w w'}:Kp (x.Num w l) w w' (x.Num w' l):=⟨fun G h=>h.gr G⟩
abbrev Rv.nil:Rv:=⟨false,Sv.none,Sv.none⟩
abbrev Nl:Value:=.slice none 0 0
abbrev Rl:Array Value:=#[.bool false,.slice none 0 0,.slice none 0 0]
abbrev Fl:Array Value:=#[.slice none 0 0,.bool false,.slice none 0 0,.slice none 0 0]
abbrev Rv.ar (x:Rv):Array Value:=#[.bool x.neg,.slice x.num.A x.num.n x.num.c,.slice x.den.A x.den.n x.den.c]
attribute [go_sem] Sv.v Rv.v Nl Rl Fl Rv.ar
theorem Rv.Is.zero (w:World):Rv.nil.Is w Q.zero:=⟨rfl,by rw[al];exact Sv.Num.none w,by rw[al];exact Sv.Num.none w⟩
structure Iv where
 neg:Bool
 mag:Sv
abbrev Iv.v (x:Iv):Value:=.agg #[.bool x.neg,.slice x.mag.A x.mag.n x.mag.c]
structure Iv.Is (w:World) (x:Iv) (neg:Bool) (m:Nat):Prop where
 neg:x.neg=neg
 mag:x.mag.Num w (a7 m)
theorem Iv.Is.gr {w w':World} {x:Iv} {s:Bool} {m:Nat} (h:x.Is w s m) (G:Gr w w'):x.Is w' s m:=⟨h.neg,h.mag.gr G⟩
instance kpIv {x:Iv} {s m} {w w'}:Kp (x.Is w s m) w w' (x.Is w' s m):=⟨fun G h=>h.gr G⟩
theorem Sv.Is.tf {w w':World} {x:Sv} {k:Nat} {ds:List Value} {e:TypeId} {X:Nat→Prop} (h:x.Is w k ds) (t:x.Ty w e) (F:Fr X w w') (hX:∀b cs fr,X b→w.heap[b]?≠some (.cells cs e fr)):x.Is w' k ds∧x.Ty w' e:=by
 have hk:∀ad,x.A=some ad→0 < x.n→w'.heap[ad.block]?=w.heap[ad.block]?∧ad.block < w.heap.size:=fun ad ha hn=>by
  obtain⟨cs,fr,hh⟩:=t ad ha hn;have hlt:ad.block < w.heap.size:=by
   rcases zU ad.block w.heap.size with h1 | h1
   ·exact h1
   ·rw[zR h1] at hh;cases hh
  exact⟨F.keep _ hlt fun hx=>hX _ cs fr hx hh,hlt⟩
 refine⟨⟨h.len,h.cap,h.max,h.nil,fun i u hu=>?_⟩,t.keep fun ad ha hn=>(hk ad ha hn).1⟩;obtain⟨ad,e,hl,hc⟩:=h.see i u hu;have hn:0 < x.n:=by
  have h1:=(gs hu).1;have h2:=h.len;rcases Nat.eq_zero_or_pos x.n with h3 | h3
  ·rw[h3,Nat.zero_mul] at h2;omega
  ·exact h3
 exact⟨ad,e,nk hl F.size,(World.cell?_of_block (by rw[dq];exact (hk ad e hn).1)).trans hc⟩
def Rows {α β:Type} (cs:β→List Value) (Is:World→β→α→Prop) (e:TypeId) (k:Nat) (w:World) (x:Sv) (xs:List α):Prop:=
 ∃ts:List (β×α),x.Is w k (ts.flatMap fun p=>cs p.1)∧xs=ts.map (·.2)∧(∀p∈ts,Is w p.1 p.2)∧x.Ty w e
section
variable {α β:Type} {cs:β→List Value} {Is:World→β→α→Prop} {e:TypeId} {k:Nat} {w w':World} {x:Sv} {xs:List α}
theorem Rows.gr (hI:∀{w w':World} {b:β} {a:α},Is w b a→Gr w w'→Is w' b a) (h:Rows cs Is e k w x xs) (G:Gr w w'):Rows cs Is e k w' x xs:=by
 obtain⟨ts,h1,h2,h3,h4⟩:=h;exact⟨ts,h1.gr G,h2,fun p hp=>hI (h3 p hp) G,h4.gr G⟩
theorem Rows.tf (h:Rows cs Is e k w x xs) {X:Nat→Prop} (F:Fr X w w') (hX:∀b cs fr,X b→w.heap[b]?≠some (.cells cs e fr)) (hI:∀p a,Is w p a→Is w' p a):Rows cs Is e k w' x xs:=by
 obtain⟨ts,h1,h2,h3,h4⟩:=h;obtain⟨h5,h6⟩:=h1.tf h4 F hX;exact⟨ts,h5,h2,fun p hp=>hI _ _ (h3 p hp),h6⟩
theorem Rows.empty:Rows cs Is e k w Sv.none []:=⟨[],Sv.Is.none w k,rfl,(fun p hp=>by cases hp),(fun ad h=>by cases h)⟩
theorem Rows.len (hk:∀b,(cs b).length=k) (h0:0 < k) (h:Rows cs Is e k w x xs):xs.length=x.n:=by
 obtain⟨ts,h1,rfl,_⟩:=h;have h2:=h1.len;rw[a0h (F:=fun p:β×α=>cs p.1) (k:=k) (fun p=>hk p.1)] at h2;rw[zB];exact Nat.eq_of_mul_eq_mul_right h0 h2
theorem Rows.at (hk:∀b,(cs b).length=k) (h:Rows cs Is e k w x xs) {i:Nat} {a:α} (ha:xs[i]?=some a):
  ∃b,Is w b a∧∀j u,(cs b)[j]?=some u→∃ad,x.A=some ad∧ad.block < w.heap.size∧w.cell? (ad.add (i*k+j))=some u:=by
 obtain⟨ts,h1,rfl,h3,_⟩:=h;rw[List.getElem?_map] at ha;obtain⟨p,hp,rfl⟩:=Option.map_eq_some_iff.1 ha;refine⟨p.1,h3 p (mg hp),fun j u hu=>?_⟩;have hj:j < k:=by
  have:=(gs hu).1;rw[hk] at this;exact this
 exact h1.look (by rw[abo (F:=fun p:β×α=>cs p.1) (k:=k) (fun p=>hk p.1) hp hj];exact hu)
theorem Rows.nil (hk:∀b,(cs b).length=k) (h0:0 < k) (h:Rows cs Is e k w x xs) (hA:x.A=Option.none):x=Sv.none∧xs=[]:=by
 have hl:=h.len hk h0;obtain⟨ts,h1,h2,_⟩:=h;obtain⟨h3,_⟩:=h1.mk0 hA;refine⟨h3,?_⟩;rw[h3] at hl;exact List.length_eq_zero_iff.1 hl
theorem Rows.head (hk:∀b,(cs b).length=k) {a:α} (h:Rows cs Is e k w x (a::xs)):∃b,Is w b a∧∀j u,(cs b)[j]?=some u→∃ad,x.A=some ad∧w.cell? (ad.add j)=some u:=by
 obtain⟨b,h1,h2⟩:=h.at hk (i:=0) rfl;exact⟨b,h1,fun j u hu=>by obtain⟨ad,h3,_,h4⟩:=h2 j u hu;exact⟨ad,h3,by rwa [Nat.zero_mul,Nat.zero_add] at h4⟩⟩
theorem Rows.tail (hk:∀b,(cs b).length=k) (h0:0 < k) {a:α} (h:Rows cs Is e k w x (a::xs)):Rows cs Is e k w ⟨if x.c=1 then x.A else x.A.map (·.add k),x.n - 1,x.c - 1⟩ xs:=by
 have hn:=h.len hk h0;rw[zW] at hn;obtain⟨ts,h1,h2,h3,hty⟩:=h;cases ts with
 | nil=>cases h2
 | cons p ts=>
  rw[List.map_cons] at h2;injection h2 with h2 h4;have hc:=h1.cap;have hl:=h1.len;rw[List.flatMap_cons,zI,hk] at hl;have hxs:xs.length=ts.length:=by rw[h4,zB]
  refine⟨ts,⟨?_,?_,?_,?_,?_⟩,h4,fun q hq=>h3 q (zC _ hq),?_⟩
  ·show _=(x.n - 1)*k;rw[a0h (F:=fun p:β×α=>cs p.1) (k:=k) (fun p=>hk p.1),← hn,hxs];rfl
  ·show x.n - 1≤x.c - 1;omega
  ·have:=h1.max;show x.c - 1≤_;omega
  ·intro e;show x.c - 1=0;simp only at e;split at e
   ·omega
   ·have e2:x.A=Option.none:=by cases hA:x.A;rfl;rw[hA] at e;cases e
    have:=h1.nil e2;omega
  ·intro j u hu;obtain⟨ad,e,hb,hcell⟩:=h1.see (k+j) u (by rw[List.flatMap_cons,List.getElem?_append_right (by rw[hk];omega),hk,show k+j - k=j from by omega];exact hu);have hj:0 < xs.length:=by
    rw[hxs];rcases ts with _ | ⟨a,l⟩
    ·simp at hu
    ·simp
   have hc2:x.c≠1:=by omega
   simp only[if_neg hc2,e,Option.map_some];exact⟨ad.add k,rfl,by rw[dq];exact hb,by rw[sr];exact hcell⟩
  ·intro ad ha hx;simp only at ha hx;split at ha
   ·exact hty ad ha om
   ·obtain⟨ad',e1,e2⟩:=Option.map_eq_some_iff.1 ha;have:=hty ad' e1 om;rw[← e2,dq];exact this
end
theorem Y {α:Sort _} {a:α}:a=a:=rfl
inductive PV where
 | raw (v:Value)
 | nat (n:Nat)
 | rows (e k:Nat) (ts:List Nat) (xs:List (List PV))
 | agg (cs:List PV)
 | tup (cs:List PV)
 | ptr (e:Nat) (cs:List PV)
 | fn (f:Nat) (cs:List PV)
mutual
def PV.ty:PV→List Nat
 | .raw _=>[]
 | .nat _=>[200]
 | .rows e _ ts _=>e::ts
 | .agg cs=>PV.tyL cs
 | .tup cs=>PV.tyL cs
 | .ptr e cs=>e::PV.tyL cs
 | .fn _ cs=>PV.tyL cs
def PV.tyL:List PV→List Nat
 | []=>[]
 | c::cs=>PV.ty c++PV.tyL cs
end
def PV.cell:PV→Bool
 | .raw v=>v.oneCell'
 | .nat _ | .rows .. | .ptr .. | .fn ..=>true
 | _=>false
def pn (k:Nat) (ts:List Nat) (xs:List (List PV)):Prop:=∀r∈xs,r.length=k∧∀c∈r,c.cell=true∧∀t∈c.ty,t∈ts
def Sv.Av (X:Nat→Prop) (x:Sv):Prop:=∀ad,x.A=some ad→0 < x.n→¬X ad.block
mutual
def PV.Rep (w:World) (X:Nat→Prop):PV→Value→Prop
 | .raw u,v=>v=u
 | .nat n,v=>∃x:Sv,v=x.v∧x.Num w (a7 n)∧x.Av X
 | .rows e k ts xs,v=>∃(x:Sv) (us:List (List Value)),v=x.v∧x.n=xs.length∧x.Is w k us.flatten∧x.Ty w e∧x.Av X∧PV.RepLL w X xs us∧pn k ts xs
 | .agg cs,v=>∃us:List Value,v=.agg us.toArray∧PV.RepL w X cs us
 | .tup cs,v=>∃us:List Value,v=.tuple us.toArray∧PV.RepL w X cs us
 | .ptr e cs,v=>∃(ad:Addr) (us:List Value),v=.pointer (some ad)∧PV.RepL w X cs us∧(cs≠[]→(¬X ad.block)∧∃zs fr,w.heap[ad.block]?=some (.cells zs e fr))∧∀j u,us[j]?=some u→w.cell? (ad.add j)=some u
 | .fn f cs,v=>∃us:List Value,v=.func (.func f) #[] us.toArray∧PV.RepL w X cs us
def PV.RepL (w:World) (X:Nat→Prop):List PV→List Value→Prop
 | [],us=>us=[]
 | c::cs,us=>∃u us',us=u::us'∧PV.Rep w X c u∧PV.RepL w X cs us'
def PV.RepLL (w:World) (X:Nat→Prop):List (List PV)→List (List Value)→Prop
 | [],us=>us=[]
 | c::cs,us=>∃u us',us=u::us'∧PV.RepL w X c u∧PV.RepLL w X cs us'
end
open PV
section
variable {w w':World} {X X':Nat→Prop} {k:Nat}
theorem PV.RepL.len:∀{cs:List PV} {us:List Value},RepL w X cs us→us.length=cs.length
 | [],us,h=>by rw[RepL] at h;rw[h];rfl
 | c::cs,us,h=>by
  rw[RepL] at h;obtain⟨u,us',rfl,_,h⟩:=h;rw[zW,zW,PV.RepL.len h]
theorem PV.RepL.nil:RepL w X [] []:=by rw[RepL]
theorem PV.RepL.cons {c:PV} {cs:List PV} {u:Value} {us:List Value} (h:c.Rep w X u) (k:RepL w X cs us):RepL w X (c::cs) (u::us):=by
 rw[RepL];exact⟨u,us,rfl,h,k⟩
theorem PV.RepL.at:∀{cs:List PV} {us:List Value} {j:Nat} {c:PV},RepL w X cs us→cs[j]?=some c→∃u,us[j]?=some u∧c.Rep w X u
 | [],us,j,c,h,e=>by simp at e
 | d::cs,us,0,c,h,e=>by
  rw[RepL] at h;obtain⟨u,us',rfl,h1,_⟩:=h;simp at e;subst e;exact⟨u,rfl,h1⟩
 | d::cs,us,j+1,c,h,e=>by
  rw[RepL] at h;obtain⟨u,us',rfl,_,h2⟩:=h;simp at e;obtain⟨u,h3,h4⟩:=PV.RepL.at h2 e;exact⟨u,by simpa using h3,h4⟩
theorem PV.RepL.take:∀{cs:List PV} {us:List Value} (n:Nat),RepL w X cs us→RepL w X (cs.take n) (us.take n)
 | [],us,n,h=>by rw[RepL] at h;subst h;simp[RepL]
 | c::cs,us,0,h=>by simp[RepL]
 | c::cs,us,n+1,h=>by
  rw[RepL] at h;obtain⟨u,us',rfl,h1,h2⟩:=h;rw[List.take_succ_cons,List.take_succ_cons];exact PV.RepL.cons h1 (PV.RepL.take n h2)
theorem PV.RepL.drop:∀{cs:List PV} {us:List Value} (n:Nat),RepL w X cs us→RepL w X (cs.drop n) (us.drop n)
 | cs,us,0,h=>h
 | [],us,n+1,h=>by rw[RepL] at h;subst h;simp[RepL]
 | c::cs,us,n+1,h=>by
  rw[RepL] at h;obtain⟨u,us',rfl,h1,h2⟩:=h;rw[List.drop_succ_cons,List.drop_succ_cons];exact PV.RepL.drop n h2
theorem PV.RepL.append:∀{cs ds:List PV} {us vs:List Value},RepL w X cs us→RepL w X ds vs→RepL w X (cs++ds) (us++vs)
 | [],ds,us,vs,h,k=>by rw[RepL] at h;subst h;exact k
 | c::cs,ds,us,vs,h,k=>by
  rw[RepL] at h;obtain⟨u,us',rfl,h1,h2⟩:=h;exact PV.RepL.cons h1 (PV.RepL.append h2 k)
theorem PV.RepL.set:∀{cs:List PV} {us:List Value} {j:Nat} {c:PV} {u:Value},RepL w X cs us→c.Rep w X u→RepL w X (cs.set j c) (us.set j u)
 | [],us,j,c,u,h,k=>by rw[RepL] at h;subst h;simp[RepL]
 | d::cs,us,0,c,u,h,k=>by
  rw[RepL] at h;obtain⟨u',us',rfl,h1,h2⟩:=h;exact PV.RepL.cons k h2
 | d::cs,us,j+1,c,u,h,k=>by
  rw[RepL] at h;obtain⟨u',us',rfl,h1,h2⟩:=h;exact PV.RepL.cons h1 (PV.RepL.set h2 k)
theorem PV.RepLL.len:∀{xs:List (List PV)} {us:List (List Value)},RepLL w X xs us→us.length=xs.length
 | [],us,h=>by rw[RepLL] at h;rw[h];rfl
 | c::cs,us,h=>by
  rw[RepLL] at h;obtain⟨u,us',rfl,_,h⟩:=h;rw[zW,zW,PV.RepLL.len h]
theorem PV.RepLL.nil:RepLL w X [] []:=by rw[RepLL]
theorem PV.RepLL.cons {c:List PV} {cs:List (List PV)} {u:List Value} {us:List (List Value)} (h:RepL w X c u) (k:RepLL w X cs us):RepLL w X (c::cs) (u::us):=by
 rw[RepLL];exact⟨u,us,rfl,h,k⟩
theorem PV.RepLL.append:∀{cs ds:List (List PV)} {us vs:List (List Value)},RepLL w X cs us→RepLL w X ds vs→RepLL w X (cs++ds) (us++vs)
 | [],ds,us,vs,h,k=>by rw[RepLL] at h;subst h;exact k
 | c::cs,ds,us,vs,h,k=>by
  rw[RepLL] at h;obtain⟨u,us',rfl,h1,h2⟩:=h;exact PV.RepLL.cons h1 (PV.RepLL.append h2 k)
theorem PV.RepLL.take:∀{cs:List (List PV)} {us:List (List Value)} (n:Nat),RepLL w X cs us→RepLL w X (cs.take n) (us.take n)
 | [],us,n,h=>by rw[RepLL] at h;subst h;simp[RepLL]
 | c::cs,us,0,h=>by simp[RepLL]
 | c::cs,us,n+1,h=>by
  rw[RepLL] at h;obtain⟨u,us',rfl,h1,h2⟩:=h;rw[List.take_succ_cons,List.take_succ_cons];exact PV.RepLL.cons h1 (PV.RepLL.take n h2)
theorem PV.RepLL.drop:∀{cs:List (List PV)} {us:List (List Value)} (n:Nat),RepLL w X cs us→RepLL w X (cs.drop n) (us.drop n)
 | cs,us,0,h=>h
 | [],us,n+1,h=>by rw[RepLL] at h;subst h;simp[RepLL]
 | c::cs,us,n+1,h=>by
  rw[RepLL] at h;obtain⟨u,us',rfl,h1,h2⟩:=h;rw[List.drop_succ_cons,List.drop_succ_cons];exact PV.RepLL.drop n h2
theorem PV.RepLL.at:∀{xs:List (List PV)} {us:List (List Value)} {i:Nat} {r:List PV},RepLL w X xs us→xs[i]?=some r→∃u,us[i]?=some u∧RepL w X r u
 | [],us,i,r,h,e=>by simp at e
 | d::xs,us,0,r,h,e=>by
  rw[RepLL] at h;obtain⟨u,us',rfl,h1,_⟩:=h;simp at e;subst e;exact⟨u,rfl,h1⟩
 | d::xs,us,i+1,r,h,e=>by
  rw[RepLL] at h;obtain⟨u,us',rfl,_,h2⟩:=h;simp at e;obtain⟨u,h3,h4⟩:=PV.RepLL.at h2 e;exact⟨u,by simpa using h3,h4⟩
theorem PV.RepLL.rows:∀{xs:List (List PV)} {us:List (List Value)} {k:Nat},RepLL w X xs us→(∀r∈xs,r.length=k)→∀u∈us,u.length=k
 | [],us,k,h,hk,u,hu=>by rw[RepLL] at h;subst h;cases hu
 | d::xs,us,k,h,hk,u,hu=>by
  rw[RepLL] at h;obtain⟨v,us',rfl,h1,h2⟩:=h;rcases zP.1 hu with e | e
  ·rw[e,PV.RepL.len h1];exact hk d (mf ..)
  ·exact PV.RepLL.rows h2 (fun r hr=>hk r (zC _ hr)) u e
theorem jo {α:Type} :∀{us:List (List α)},(∀u∈us,u.length=k)→us.flatten.length=us.length*k
 | [],_=>by simp
 | u::us,h=>by
  rw[List.flatten_cons,zI,h u (mf ..),jo fun v hv=>h v (zC _ hv),zW,Nat.add_mul];omega
theorem kz {α:Type} :∀{us:List (List α)} {i j:Nat} {u:List α},(∀u∈us,u.length=k)→us[i]?=some u→j < k→us.flatten[i*k+j]?=u[j]?
 | [],i,j,u,_,h,_=>by simp at h
 | v::us,0,j,u,hk,h,hj=>by
  simp at h;subst h;rw[List.flatten_cons,Nat.zero_mul,Nat.zero_add,List.getElem?_append_left (by rw[hk v (mf ..)];exact hj)]
 | v::us,i+1,j,u,hk,h,hj=>by
  simp at h;have hv:=hk v (mf ..);rw[List.flatten_cons,List.getElem?_append_right (by rw[hv,Nat.add_mul];omega),hv,show (i+1)*k+j - k=i*k+j from by rw[Nat.add_mul];omega];exact kz (fun u hu=>hk u (zC _ hu)) h hj
def Still (w w':World) (X X':Nat→Prop) (ts:List Nat):Prop:=
 w.heap.size≤w'.heap.size∧∀b cs t fr,¬X b→w.heap[b]?=some (.cells cs t fr)→t∈ts→w'.heap[b]?=w.heap[b]?∧¬X' b
theorem Still.sub {ts us:List Nat} (h:Still w w' X X' us) (hs:∀t∈ts,t∈us):Still w w' X X' ts:=⟨h.1,fun b cs t fr hx hh ht=>h.2 b cs t fr hx hh (hs t ht)⟩
theorem Sv.Is.still {x:Sv} {e:Nat} {ds:List Value} (h:x.Is w k ds) (t:x.Ty w e) (a:x.Av X) (S:Still w w' X X' [e]):x.Is w' k ds∧x.Ty w' e∧x.Av X':=by
 have hk:∀ad,x.A=some ad→0 < x.n→w'.heap[ad.block]?=w.heap[ad.block]?∧¬X' ad.block:=fun ad ha hn=>by
  obtain⟨cs,fr,hh⟩:=t ad ha hn;exact S.2 _ cs e fr (a ad ha hn) hh (zH.2 rfl)
 refine⟨⟨h.len,h.cap,h.max,h.nil,fun i u hu=>?_⟩,t.keep fun ad ha hn=>(hk ad ha hn).1,fun ad ha hn=>(hk ad ha hn).2⟩;obtain⟨ad,e,hl,hc⟩:=h.see i u hu;have hn:0 < x.n:=by
  have h1:=(gs hu).1;have h2:=h.len;rcases Nat.eq_zero_or_pos x.n with h3 | h3
  ·rw[h3,Nat.zero_mul] at h2;omega
  ·exact h3
 exact⟨ad,e,nk hl S.1,(World.cell?_of_block (by rw[dq];exact (hk ad e hn).1)).trans hc⟩
end
mutual
theorem PV.Rep.still {w w':World} {X X':Nat→Prop}:∀{p:PV} {v:Value},Rep w X p v→Still w w' X X' p.ty→Rep w' X' p v
 | .raw u,v,h,_=>by rw[Rep] at h ⊢;exact h
 | .nat n,v,h,S=>by
  rw[Rep] at h ⊢;obtain⟨x,rfl,h1,h2⟩:=h;rw[PV.ty] at S;obtain⟨h3,h4,h5⟩:=h1.is.still h1.ty h2 S;exact⟨x,rfl,⟨h3,h1.lim,h4⟩,h5⟩
 | .rows e k ts xs,v,h,S=>by
  rw[Rep] at h ⊢;obtain⟨x,us,rfl,hn,h1,h2,h3,h4,h5⟩:=h;rw[PV.ty] at S;obtain⟨h6,h7,h8⟩:=h1.still h2 h3 (S.sub fun t ht=>by rw[mj ht];exact mf ..);exact⟨x,us,rfl,hn,h6,h7,h8,PV.RepLL.still h4 (S.sub fun t ht=>zC _ ht) fun r hr c hc=>(h5 r hr).2 c hc |>.2,h5⟩
 | .agg cs,v,h,S=>by
  rw[Rep] at h ⊢;obtain⟨us,rfl,h1⟩:=h;exact⟨us,rfl,PV.RepL.still h1 (by rwa [PV.ty] at S)⟩
 | .tup cs,v,h,S=>by
  rw[Rep] at h ⊢;obtain⟨us,rfl,h1⟩:=h;exact⟨us,rfl,PV.RepL.still h1 (by rwa [PV.ty] at S)⟩
 | .ptr e cs,v,h,S=>by
  rw[Rep] at h ⊢;rw[PV.ty] at S;obtain⟨ad,us,rfl,h1,h2,h3⟩:=h;have hk:cs≠[]→w'.heap[ad.block]?=w.heap[ad.block]?∧¬X' ad.block:=fun hc=>by
   obtain⟨hx,zs,fr,hh⟩:=h2 hc;exact S.2 _ zs e fr hx hh (mf ..)
  refine⟨ad,us,rfl,PV.RepL.still h1 (S.sub fun t ht=>zC _ ht),fun hc=>?_,fun j u hu=>?_⟩
  ·obtain⟨hx,zs,fr,hh⟩:=h2 hc;exact⟨(hk hc).2,zs,fr,(hk hc).1.trans hh⟩
  ·have hc:cs≠[]:=fun e0=>by
    subst e0;rw[PV.RepL] at h1;subst h1;simp at hu
   exact (World.cell?_of_block (by rw[dq];exact (hk hc).1)).trans (h3 j u hu)
 | .fn f cs,v,h,S=>by
  rw[Rep] at h ⊢;obtain⟨us,rfl,h1⟩:=h;exact⟨us,rfl,PV.RepL.still h1 (by rwa [PV.ty] at S)⟩
theorem PV.RepL.still {w w':World} {X X':Nat→Prop}:∀{cs:List PV} {us:List Value},RepL w X cs us→Still w w' X X' (tyL cs)→RepL w' X' cs us
 | [],us,h,_=>by rw[RepL] at h ⊢;exact h
 | c::cs,us,h,S=>by
  rw[RepL] at h ⊢;obtain⟨u,us',rfl,h1,h2⟩:=h;rw[tyL] at S;exact⟨u,us',rfl,PV.Rep.still h1 (S.sub fun t ht=>zL _ ht),PV.RepL.still h2 (S.sub fun t ht=>zV _ ht)⟩
theorem PV.RepLL.still {w w':World} {X X':Nat→Prop} {ts:List Nat}:∀{xs:List (List PV)} {us:List (List Value)},RepLL w X xs us→Still w w' X X' ts→(∀r∈xs,∀c∈r,∀t∈c.ty,t∈ts)→RepLL w' X' xs us
 | [],us,h,_,_=>by rw[RepLL] at h ⊢;exact h
 | c::cs,us,h,S,hs=>by
  rw[RepLL] at h ⊢;obtain⟨u,us',rfl,h1,h2⟩:=h;exact⟨u,us',rfl,PV.RepL.still h1 (S.sub fun t ht=>by
   have:∀l:List PV,(∀c∈l,∀t∈c.ty,t∈ts)→∀t∈tyL l,t∈ts:=fun l=>by
    induction l with
    | nil=>intro _ t ht;rw[tyL] at ht;cases ht
    | cons d l ih=>
     intro hl t ht;rw[tyL] at ht;rcases zJ.1 ht with e | e
     ·exact hl d (mf ..) t e
     ·exact ih (fun c hc=>hl c (zC _ hc)) t e
   exact this c (hs c (mf ..)) t ht),PV.RepLL.still h2 S fun r hr=>hs r (zC _ hr)⟩
end
section
variable {P:Program}
def dj (P:Program) (o:Oper) (a:Act) (W:World) (K:Value→World→Prop):Prop:=
 match (execOp a.eval o).run P W with
 | .ok (.value v) W'=>K v W'
 | .ok .skip W'=>K undef W'
 | .ok (.enter f args) W'=>Calls P f args W' fun e W''=>∃v,e=.returned v∧K v W''
 | _=>False
theorem a3z {o:Oper} {a:Act} {W:World} {K:Value→World→Prop} (h:dj P o a W K):∃v W',K v W':=by
 unfold dj at h;split at h
 ·exact⟨_,_,h⟩
 ·exact⟨_,_,h⟩
 ·obtain⟨e,w',fr,⟨v,_,hv⟩,_⟩:=h [];exact⟨v,w',hv⟩
 ·exact h.elim
theorem fy {o:Oper} {a:Act} {W:World} {K:Value→World→Prop} {K':Act→World→Prop} {Q:Exit→Act→World→Prop} (h:dj P o a W K) (hK:∀v W',K v W'→K' (a.put o.dst v) W'):o.wp P a W K' Q:=by
 unfold dj at h;unfold Oper.wp;split at h
 ·rename_i e;rw[e];exact hK _ _ h
 ·rename_i e;rw[e];exact hK _ _ h
 ·rename_i e
  rw[e];exact h.mono fun e w'' ⟨v,he,hv⟩=>by subst he;exact hK _ _ hv
 ·exact h.elim
theorem lx {o:Oper} {a a':Act} {W:World} {K:Value→World→Prop} (he:execOp a'.eval o=execOp a.eval o) (h:dj P o a W K):dj P o a' W K:=by
 unfold dj at*;rw[he];exact h
theorem cd {o:Oper} {a:Act} {W W':World} {v:Value} {K:Value→World→Prop} (h:(execOp a.eval o).run P W=.ok (.value v) W') (hK:K v W'):dj P o a W K:=by
 unfold dj;rw[h];exact hK
theorem eo {o:Oper} {a:Act} {W:World} {f:FuncId} {args:Array Value} {K:Value→World→Prop} (h:(execOp a.eval o).run P W=.ok (.enter f args) W) (hK:Calls P f args W fun e W''=>∃v,e=.returned v∧K v W''):dj P o a W K:=by
 unfold dj;rw[h];exact hK
end
def bq (ops:Array Oper):Array (List Nat):=
 ops.foldl (init:=#[]) fun acc o=>acc.push (o.after.foldl (init:=[]) fun l e=>if Region.binds .any e then (e.on::acc.getD e.on []).foldl (fun l x=>if l.contains x then l else x::l) l else l)
def js (ops:Array Oper) (D:Array (List Nat)):Bool:=
 Region.noSelect ops&&(List.range ops.size).all fun j=>match ops[j]? with
  | none=>false
  | some oj=>(oj.after.all fun e=>!Region.binds .any e||decide (e.on < j))&&((D.getD j []).all fun i=>decide (i < j)&&oj.after.any fun e=>Region.binds .any e&&(e.on == i||(D.getD e.on []).contains i))&&
   ((List.range j).all fun i=>match ops[i]? with
    | none=>false
    | some oi=>(oj.after.any fun e=>Region.binds .any e&&e.on == i)||oi.apart ops oj)
section
variable {P:Program} {ops:Array Oper} {R:World→World→Prop} {W0:World} {Φ:Nat→Option (Value→World→Prop)} {D:Nat→List Nat} {Q:Act→World→Prop}
def sz (F:List (Nat×(World→Prop))) (W:World):Prop:=∀p∈F,p.2 W
def a46 (F:List (Nat×(World→Prop))) (d:List Nat) (W:World):Prop:=∀p∈F,p.1∈d→p.2 W
def Walk (P:Program) (ops:Array Oper) (R:World→World→Prop) (W0:World) (Φ:Nat→Option (Value→World→Prop)) (D:Nat→List Nat) (Q:Act→World→Prop):List Nat→List (Nat×(World→Prop))→Act→Prop
 | [],F,a=>∀W,R W0 W→sz F W→Q a W
 | k::rest,F,a=>∃o,ops[k]?=some o∧
  match Φ k with
  | none=>∃v,YieldsIf P ops (R W0) o v a∧Walk P ops R W0 Φ D Q rest F (a.put o.dst v)
  | some ψ=>Region.wanted o (yielded ops a.tmps)=true∧(∀W,R W0 W→a46 F (D k) W→dj P o a W fun v W'=>R W W'∧ψ v W')∧
    ∀v,(∃W,R W0 W∧sz F W∧ψ v W)→Walk P ops R W0 Φ D Q rest (F++[(k,ψ v)]) (a.put o.dst v)
theorem Walk.congr:∀{rest:List Nat} {F F':List (Nat×(World→Prop))} {a:Act},(∀p,p∈F↔p∈F')→Walk P ops R W0 Φ D Q rest F a→Walk P ops R W0 Φ D Q rest F' a
 | [],F,F',a,hF,h=>fun W hW hh=>h W hW fun p hp=>hh p ((hF p).1 hp)
 | k::rest,F,F',a,hF,h=>by
  obtain⟨o,ho,h⟩:=h;refine⟨o,ho,?_⟩;cases e:Φ k with
  | none=>
   simp only[e] at h ⊢;obtain⟨v,hy,h⟩:=h;exact⟨v,hy,Walk.congr hF h⟩
  | some ψ=>
   simp only[e] at h ⊢;obtain⟨hw,hs,h⟩:=h;refine⟨hw,fun W hW hl=>hs W hW fun p hp hd=>hl p ((hF p).1 hp) hd,fun v ⟨W,hW,hh,hv⟩=>Walk.congr (fun p=>?_) (h v ⟨W,hW,fun p hp=>hh p ((hF p).1 hp),hv⟩)⟩;simp only[zJ,hF]
def a47 (P:Program) (ops:Array Oper) (R:World→World→Prop) (W0:World) (Φ:Nat→Option (Value→World→Prop)) (D:Nat→List Nat) (Q:Act→World→Prop) (j:Nat) (o:Oper) (rest:List Nat) (F:List (Nat×(World→Prop))) (a:Act):Prop:=
 match Φ j with
 | none=>∃v,YieldsIf P ops (R W0) o v a∧Walk P ops R W0 Φ D Q rest F (a.put o.dst v)
 | some ψ=>Region.wanted o (yielded ops a.tmps)=true∧(∀W,R W0 W→a46 F (D j) W→dj P o a W fun v W'=>R W W'∧ψ v W')∧
   ∀v,(∃W,R W0 W∧sz F W∧ψ v W)→Walk P ops R W0 Φ D Q rest (F++[(j,ψ v)]) (a.put o.dst v)
theorem YieldsIf.unique {S:World→Prop} {o:Oper} {a:Act} {v u:Value} {W:World} (hW:S W) (h:YieldsIf P ops S o v a) (k:YieldsIf P ops S o u a):u=v:=by
 rcases h with ⟨h1,h2⟩ | ⟨h1,rfl⟩
 ·rcases k with ⟨k1,k2⟩ | ⟨k1,rfl⟩
  ·have:=(h2 W hW).symm.trans (k2 W hW);injection this with this;injection this with this;exact this.symm
  ·rw[h1] at k1;cases k1
 ·rcases k with ⟨k1,k2⟩ | ⟨k1,rfl⟩
  ·rw[h1] at k1;cases k1
  ·rfl
theorem Walk.pull (hs:Region.noSelect ops=true) (hrefl:R W0 W0) (hst:∀k ψ,Φ k=some ψ→∀v W W',R W0 W→R W W'→ψ v W→ψ v W') (htr:∀{a b c},R a b→R b c→R a c) {j:Nat} {oj:Oper} (hj:ops[j]?=some oj):
  ∀(rest:List Nat) (F:List (Nat×(World→Prop))) (a:Act),j∈rest→rest.Pairwise (· < ·)→(∀k∈rest,k < j→∀o,ops[k]?=some o→o.apart ops oj=true)→(∀k∈rest,k < j→k ∉ D j∧j ∉ D k)→
  (∀p∈F,∀W W',R W0 W→R W W'→p.2 W→p.2 W')→(∃W,R W0 W∧sz F W)→Walk P ops R W0 Φ D Q rest F a→a47 P ops R W0 Φ D Q j oj (rest.erase j) F a
 | [],F,a,hm,_,_,_,_,_,_=>by cases hm
 | k::rest,F,a,hm,hp,hap,hD,hF,hex,h=>by
  obtain⟨ok,hk,h⟩:=h;by_cases hjk:k=j
  ·subst hjk;rw[hj] at hk;injection hk with hk;subst hk;rw[List.erase_cons_head];exact h
  ·have hm':j∈rest:=by rcases zP.1 hm with e | e;exact absurd e.symm hjk;exact e
   have hlt:k < j:=(List.pairwise_cons.1 hp).1 j hm';obtain⟨a1,a2,a3⟩:=Oper.apart_spec (hap k (mf ..) hlt ok hk);have hnd:=hD k (mf ..) hlt;have hsj:∀cs b,oj.op≠.select cs b:=fun cs b=>Region.noSelect_spec hs j oj cs b hj
   have hsk:∀cs b,ok.op≠.select cs b:=fun cs b=>Region.noSelect_spec hs k ok cs b hk
   have ih:∀F' a',(∀p∈F',∀W W',R W0 W→R W W'→p.2 W→p.2 W')→(∃W,R W0 W∧sz F' W)→Walk P ops R W0 Φ D Q rest F' a'→a47 P ops R W0 Φ D Q j oj (rest.erase j) F' a':=fun F' a'=>
    Walk.pull hs hrefl hst htr hj rest F' a' hm' (List.pairwise_cons.1 hp).2 (fun i hi=>hap i (zC _ hi)) (fun i hi=>hD i (zC _ hi))
   have her:(k::rest).erase j=k::rest.erase j:=by
    rw[List.erase_cons_tail];simpa using hjk
   rw[her];have we:∀(b:Act) (u:Value),Region.wanted oj (yielded ops (b.put ok.dst u).tmps)=Region.wanted oj (yielded ops b.tmps):=fun b u=>wanted_put oj b ok.dst u a1
   have wk:∀(b:Act) (u:Value),Region.wanted ok (yielded ops (b.put oj.dst u).tmps)=Region.wanted ok (yielded ops b.tmps):=fun b u=>wanted_put ok b oj.dst u a3
   have ej:∀(b:Act) (u:Value),execOp (b.put ok.dst u).eval oj=execOp b.eval oj:=fun b u=>execOp_put oj hsj b ok.dst u a1
   have ek:∀(b:Act) (u:Value),execOp (b.put oj.dst u).eval ok=execOp b.eval ok:=fun b u=>execOp_put ok hsk b oj.dst u a3
   have pc:∀(b:Act) (v u:Value),(b.put ok.dst v).put oj.dst u=(b.put oj.dst u).put ok.dst v:=fun b v u=>Act.put_comm b v u a2
   unfold a47;cases hΦk:Φ k with
   | none=>
    simp only[hΦk] at h;obtain⟨vk,hy,h⟩:=h;have:=ih F _ hF hex h;unfold a47 at this;cases hΦj:Φ j with
    | none=>
     simp only[hΦj] at this ⊢;obtain⟨vj,hyj,h2⟩:=this;refine⟨vj,hyj.of_same (ej a vk).symm (we a vk).symm,ok,hk,?_⟩;simp only[hΦk];exact⟨vk,hy.of_same (ek a vj) (wk a vj),by rw[← pc];exact h2⟩
    | some ψ=>
     simp only[hΦj] at this ⊢;obtain⟨hw,hsp,h2⟩:=this;refine⟨by rw[← we a vk];exact hw,fun W hW hl=>lx (ej a vk).symm (hsp W hW hl),fun v hv=>⟨ok,hk,?_⟩⟩;simp only[hΦk];exact⟨vk,hy.of_same (ek a v) (wk a v),by rw[← pc];exact h2 v hv⟩
   | some χ=>
    simp only[hΦk] at h;obtain⟨hwk,hspk,h⟩:=h;have hχ:=hst k χ hΦk;have hFk:∀v,∀p∈F++[(k,χ v)],∀W W',R W0 W→R W W'→p.2 W→p.2 W':=fun v p hp=>by
     rcases zJ.1 hp with hp | hp
     ·exact hF p hp
     ·rw[mj hp];exact hχ v
    have all:∀v W,R W0 W→sz F W→χ v W→a47 P ops R W0 Φ D Q j oj (rest.erase j) (F++[(k,χ v)]) (a.put ok.dst v):=fun v W hW hh hv=>
     ih _ _ (hFk v) ⟨W,hW,fun p hp=>by
      rcases zJ.1 hp with hp | hp
      ·exact hh p hp
      ·rw[mj hp];exact hv⟩ (h v ⟨W,hW,hh,hv⟩)
    obtain⟨W,hW,hh⟩:=hex;obtain⟨v1,W1,hR1,hv1⟩:=a3z (hspk W hW fun p hp _=>hh p hp);have hh1:sz F W1:=fun p hp=>hF p hp _ _ hW hR1 (hh p hp)
    have first:=all v1 W1 (htr hW hR1) hh1 hv1;unfold a47 at first all;cases hΦj:Φ j with
    | none=>
     simp only[hΦj] at first all ⊢;obtain⟨vj,hyj,_⟩:=first;have hyj':=hyj.of_same (ej a v1).symm (we a v1).symm;refine⟨vj,hyj',ok,hk,?_⟩;simp only[hΦk];refine⟨by rw[wk];exact hwk,fun W hW hl=>lx (ek a vj) (hspk W hW hl),fun v ⟨W2,hW2,hh2,hv2⟩=>?_⟩;obtain⟨u,hu,h3⟩:=all v W2 hW2 hh2 hv2;obtain rfl:=YieldsIf.unique hrefl hyj' (hu.of_same (ej a v).symm (we a v).symm);rw[← pc];exact h3
    | some ψ=>
     simp only[hΦj] at first all ⊢;obtain⟨hwj,hspj,_⟩:=first;have less:∀v W,a46 F (D j) W→a46 (F++[(k,χ v)]) (D j) W:=fun v W hl p hp hd=>by
      rcases zJ.1 hp with hp | hp
      ·exact hl p hp hd
      ·rw[mj hp] at hd;exact absurd hd hnd.1
     refine⟨by rw[← we a v1];exact hwj,fun W hW hl=>lx (ej a v1).symm (hspj W hW (less v1 W hl)),fun v hv=>⟨ok,hk,?_⟩⟩;simp only[hΦk];refine⟨by rw[wk];exact hwk,fun W hW hl=>lx (ek a v) (hspk W hW fun p hp hd=>hl p (zL _ hp) hd),fun u ⟨W2,hW2,hh2,hu2⟩=>?_⟩;have hh3:sz F W2:=fun p hp=>hh2 p (zL _ hp)
     have hv2:ψ v W2:=hh2 (j,ψ v) (zV _ (zH.2 rfl));obtain⟨_,_,h3⟩:=all u W2 hW2 hh3 hu2;have h4:=h3 v ⟨W2,hW2,fun p hp=>by
      rcases zJ.1 hp with hp | hp
      ·exact hh3 p hp
      ·rw[mj hp];exact hu2,hv2⟩
     rw[← pc];refine h4.congr fun p=>?_
     simp only[zJ,zH]
     constructor<;>(rintro ((h | h) | h)<;>simp[h])
theorem j5 {listed:Array Bool} {i k:Nat} (hi:i < listed.size):(listed.setIfInBounds i true).getD k true=false↔listed.getD k true=false∧k≠i:=by
 by_cases h:k=i
 ·subst h;simp[hi]
 ·rw[getD_set_ne true (Ne.symm h)];simp[h]
def ahg (ops:Array Oper) (D:Array (List Nat)) (listed last:Array Bool) (rest:List Nat):Bool:=
 listed.size == ops.size&&last.size == ops.size&&rest.all (fun k=>!listed.getD k true)&&(List.range ops.size).all fun j=>
  (last.getD j true == (listed.getD j true||rest.contains j))&&(!listed.getD j false||(D.getD j []).all fun i=>listed.getD i false)&&(listed.getD j true||rest.contains j||rest.all fun k=>(D.getD j []).contains k)
theorem Walk.any (hs:Region.noSelect ops=true) (hB:js ops (bq ops)=true) (hD:∀j,D j=(bq ops).getD j []) (hst:∀k ψ,Φ k=some ψ→∀v W W',R W0 W→R W W'→ψ v W→ψ v W') (hrefl:R W0 W0) (htr:∀{a b c},R a b→R b c→R a c) {Q':Exit→Act→World→Prop} {m:Nat} {last:Array Bool} (hQ:∀a W,Q a W→wpAny P .any ops Q' m last a W):
  ∀(rest:List Nat) (listed:Array Bool) (F:List (Nat×(World→Prop))) (a:Act) (W:World),listed.size=ops.size→last.size=ops.size→(∀k∈rest,listed.getD k true=false)→(∀j,j < ops.size→last.getD j true=(listed.getD j true||rest.contains j))→rest.Pairwise (· < ·)→(∀j,listed.getD j false=true→∀i∈D j,listed.getD i false=true)→
  (∀j,listed.getD j true=false→j ∉ rest→∀k∈rest,k∈D j)→
  (∀p∈F,∀W W',R W0 W→R W W'→p.2 W→p.2 W')→R W0 W→sz F W→Walk P ops R W0 Φ D Q rest F a→wpAny P .any ops Q' (rest.length+m) listed a W:=by
 intro rest;generalize hn:rest.length=n
 induction n generalizing rest with
 | zero=>
  intro listed F a W hsz hsl hrest hlast hp hcl htl hF hW hh h;obtain rfl:=List.length_eq_zero_iff.1 hn;have:listed=last:=by
   apply Array.ext
   ·rw[hsz,hsl]
   ·intro i h1 h2;have:=hlast i (by rw[← hsz];exact h1);simpa [h1,h2] using this.symm
  rw[this,Nat.zero_add];exact hQ _ _ (h W hW hh)
 | succ n ih=>
  intro listed F a W hsz hsl hrest hlast hp hcl htl hF hW hh h;rw[show n+1+m=(n+m)+1 from by omega];simp only[js,be,zG,List.mem_range] at hB;have spec:∀j oj,ops[j]?=some oj→(∀e∈oj.after,Region.binds .any e=true→e.on < j)∧(∀i∈D j,i < j∧∃e∈oj.after,Region.binds .any e=true∧(e.on=i∨i∈D e.on))∧(∀i,i < j→∀oi,ops[i]?=some oi→(∃e∈oj.after,Region.binds .any e=true∧e.on=i)∨oi.apart ops oj=true):=fun j oj hj=>by
   have h1:=hB.2 j (Array.getElem?_eq_some_iff.1 hj).1;simp only[hj,be,zG,List.mem_range,Array.all_eq_true_iff_forall_mem,de,Bool.or_eq_true,Bool.not_eq_true'] at h1;refine⟨fun e he hb=>(h1.1.1 e he).resolve_left (by rw[hb];exact Bool.noConfusion),fun i hi=>?_,fun i hi oi hoi=>?_⟩
   ·rw[hD] at hi;obtain⟨h2,h3⟩:=h1.1.2 i hi;obtain⟨e,he,hb⟩:=Array.any_eq_true'.1 h3;simp only[be,Bool.or_eq_true,beq_iff_eq,zE] at hb;exact⟨h2,e,he,hb.1,by rw[hD];exact hb.2⟩
   ·have h2:=h1.2 i hi;simp only[hoi,Bool.or_eq_true] at h2;rcases h2 with h2 | h2
    ·obtain⟨e,he,hb⟩:=Array.any_eq_true'.1 h2;simp only[be,beq_iff_eq] at hb;exact .inl ⟨e,he,hb.1,hb.2⟩
    ·exact .inr h2
  have false_of:∀k∈rest,listed.getD k false=true→False:=fun k hk ht=>by
   have h1:=hrest k hk;rcases zU k listed.size with h' | h'
   ·simp[h'] at h1 ht;rw[h1] at ht;cases ht
   ·simp[zR h'] at ht
  have dl:∀j oj,ops[j]?=some oj→(∀e∈oj.after,Region.binds .any e=true→listed.getD e.on false=true)→∀i∈D j,listed.getD i false=true:=fun j oj hoj hall i hi=>by
   obtain⟨_,e,he,hb,h2⟩:=(spec j oj hoj).2.1 i hi;rcases h2 with h2 | h2
   ·rw[← h2];exact hall e he hb
   ·exact hcl _ (hall e he hb) i h2
  have size_of:∀k,listed.getD k true=false→k < ops.size:=fun k hk=>by
   rcases zU k listed.size with h' | h'
   ·omega
   ·rw[show listed.getD k true=true from by simp[zR h']] at hk;cases hk
  have ab:∀k,listed.getD k true=false→∃o,ops[k]?=some o:=fun k hk=>⟨_,Array.getElem?_eq_getElem (size_of k hk)⟩
  refine⟨fun h0=>?_,fun j hj=>?_⟩
  ·-- the first that is left may come up
   exfalso
   cases rest with
   | nil=>simp at hn
   | cons k rest=>
    obtain⟨o,ho,_⟩:=h;have:k∈Region.ready .any ops listed:=mem_ready.2 ⟨hrest k (mf ..),o,ho,fun e he hb=>by
     have hlt:=(spec k o ho).1 e he hb;cases hl:listed.getD e.on true with
     | true=>
      have hb:e.on < listed.size:=by rw[hsz];have:=(Array.getElem?_eq_some_iff.1 ho).1;omega
      simpa [hb] using hl
     | false=>
      exfalso
      by_cases hm:e.on∈k::rest
      ·rcases zP.1 hm with e1 | e1
       ·omega
       ·have:=(List.pairwise_cons.1 hp).1 _ e1;omega
      ·have h1:=htl e.on hl hm k (mf ..);obtain⟨oe,hoe⟩:=ab e.on hl;have:=((spec _ oe hoe).2.1 k h1).1;omega⟩
    rw[h0] at this;cases this
  ·obtain⟨hun,oj,hoj,hall⟩:=mem_ready.1 hj;have hdl:=dl j oj hoj hall;have hm:j∈rest:=by
    by_cases hm:j∈rest
    ·exact hm
    ·exfalso
     cases rest with
     | nil=>simp at hn
     | cons k rest=>exact false_of k (mf ..) (hdl k (htl j hun hm k (mf ..)))
   have hjs:j < listed.size:=by rw[hsz];exact (Array.getElem?_eq_some_iff.1 hoj).1
   have front:=h.pull hs hrefl hst htr hoj rest F a hm hp (fun k hk hlt o ho=>by
     rcases (spec j oj hoj).2.2 k hlt o ho with ⟨e,he,hb,e1⟩ | h1
     ·exact (false_of k hk (by rw[← e1];exact hall e he hb)).elim
     ·exact h1)
    (fun k hk hlt=>⟨fun hd=>false_of k hk (hdl k hd),fun hd=>by
     obtain⟨o,ho⟩:=ab k (hrest k hk);have:=((spec k o ho).2.1 j hd).1;omega⟩) hF ⟨W,hW,hh⟩
   have len:(rest.erase j).length=n:=by rw[List.length_erase_of_mem hm,hn];rfl
   have nd:rest.Nodup:=hp.imp fun h=>Nat.ne_of_lt h
   have hrest':∀k∈rest.erase j,(listed.setIfInBounds j true).getD k true=false:=fun k hk=>by
    rw[nd.mem_erase_iff] at hk;exact (j5 hjs).2 ⟨hrest k hk.2,hk.1⟩
   have hlast':∀k,k < ops.size→last.getD k true=((listed.setIfInBounds j true).getD k true||(rest.erase j).contains k):=fun k hk=>by
    rw[hlast k hk];by_cases hkj:k=j
    ·subst hkj;rw[show (listed.setIfInBounds k true).getD k true=true from by simp[hjs],zE.2 hm];simp
    ·rw[getD_set_ne true (Ne.symm hkj)]
     congr 1
     rw[Bool.eq_iff_iff,zE,zE,nd.mem_erase_iff];simp[hkj]
   have hcl':∀i,(listed.setIfInBounds j true).getD i false=true→∀d∈D i,(listed.setIfInBounds j true).getD d false=true:=fun i hi d hd=>by
    by_cases hij:i=j
    ·subst hij;exact getD_set_true (hdl d hd)
    ·rw[getD_set_ne false (Ne.symm hij)] at hi;exact getD_set_true (hcl i hi d hd)
   have htl':∀i,(listed.setIfInBounds j true).getD i true=false→i ∉ rest.erase j→∀k∈rest.erase j,k∈D i:=fun i hi hni k hk=>by
    obtain⟨h1,h2⟩:=(j5 hjs).1 hi;refine htl i h1 (fun h3=>hni ?_) k (List.mem_of_mem_erase hk);rw[nd.mem_erase_iff];exact⟨h2,h3⟩
   have next:=ih (rest.erase j) len (listed.setIfInBounds j true);unfold a47 at front;cases hΦ:Φ j with
   | none=>
    simp only[hΦ] at front;obtain⟨v,hy,h2⟩:=front;exact hy.wpOp hoj hW (next F _ W (by simpa using hsz) hsl hrest' hlast' (hp.sublist (List.erase_sublist ..)) hcl' htl' hF hW hh h2)
   | some ψ=>
    simp only[hΦ] at front;obtain⟨hw,hsp,h2⟩:=front;unfold wpOp;simp only[hoj,hw,if_true];refine .inl (fy (hsp W hW fun p hp _=>hh p hp) fun v W' ⟨hR,hv⟩=>?_);have hh':sz F W':=fun p hp=>hF p hp _ _ hW hR (hh p hp)
    exact next (F++[(j,ψ v)]) _ W' (by simpa using hsz) hsl hrest' hlast' (hp.sublist (List.erase_sublist ..)) hcl' htl' (fun p hp=>by
      rcases zJ.1 hp with hp | hp
      ·exact hF p hp
      ·rw[mj hp];exact hst j ψ hΦ v) (htr hW hR) (fun p hp=>by
      rcases zJ.1 hp with hp | hp
      ·exact hh' p hp
      ·rw[mj hp];exact hv) (h2 v ⟨W',htr hW hR,hh',hv⟩)
def a4s (l:List (Nat×(Value→World→Prop))) (k:Nat):Option (Value→World→Prop):=(l.find? fun p=>p.1 == k).map (·.2)
theorem a6v {l:List (Nat×(Value→World→Prop))} {k:Nat} {ψ:Value→World→Prop} (h:a4s l k=some ψ):∃p∈l,p.2=ψ:=by
 unfold a4s at h;obtain⟨p,hp,e⟩:=Option.map_eq_some_iff.1 h;exact⟨p,List.mem_of_find?_eq_some hp,e⟩
theorem a6m {Q:Exit→Act→World→Prop} {a:Act} {w:World} {ops:Array Oper} {m:Nat} {listed last:Array Bool} (rest:List Nat) (L:List (Nat×(Value→World→Prop))) (hB:js ops (bq ops)=true) (hp:decide (rest.Pairwise (· < ·))=true) (hW:ahg ops (bq ops) listed last rest=true)
  (hst:∀p∈L,∀v W W',Gr w W→Gr W W'→p.2 v W→p.2 v W')
  (h:Walk P ops Gr w (a4s L) (fun j=>(bq ops).getD j []) (fun a W=>wpAny P .any ops Q m last a W) rest [] a):wpAny P .any ops Q (rest.length+m) listed a w:=by
 have hB':=hB;simp only[js,be] at hB';simp only[ahg,be,beq_iff_eq,zG,List.mem_range,Bool.not_eq_true',Bool.or_eq_true,zE] at hW;obtain⟨⟨⟨h1,h2⟩,h3⟩,h4⟩:=hW;have bd:∀j,listed.getD j true=false→j < ops.size:=fun k hk=>by
  rcases zU k listed.size with h' | h'
  ·omega
  ·rw[show listed.getD k true=true from by simp[zR h']] at hk;cases hk
 refine Walk.any hB'.1 hB (fun _=>rfl) (fun k ψ hk v W W' h0 hR hv=>by
   obtain⟨p,hp,rfl⟩:=a6v hk;exact hst p hp v W W' h0 hR hv) (Gr.refl w) (fun h k=>Gr.trans h k) (fun a W h=>h) rest listed [] a w h1 h2 h3 (fun j hj=>(h4 j hj).1.1) (zK hp) (fun j hj i hi=>?_) (fun j hj hn k hk=>?_) (fun p hp=>by cases hp) (Gr.refl w) (fun p hp=>by cases hp) h
 ·have hjs:j < ops.size:=by
   rcases zU j listed.size with h' | h'
   ·omega
   ·simp[zR h'] at hj
  rcases (h4 j hjs).1.2 with h5 | h5
  ·rw[hj] at h5;cases h5
  ·exact h5 i hi
 ·rcases (h4 j (bd j hj)).2 with (h5 | h5) | h5
  ·rw[hj] at h5;cases h5
  ·exact absurd h5 hn
  ·exact h5 k hk
theorem Walk.take {l:List Oper} {k:Nat} {rest:List Nat} {F:List (Nat×(World→Prop))} {a:Act} {o:Oper} {v:Value} (ho:l[k]?=some o) (hΦ:Φ k=none) (hy:YieldsIf P l.toArray (R W0) o v a) (h:Walk P l.toArray R W0 Φ D Q rest F (a.put o.dst v)):Walk P l.toArray R W0 Φ D Q (k::rest) F a:=
 ⟨o,by rw[List.getElem?_toArray];exact ho,by simp only[hΦ];exact⟨v,hy,h⟩⟩
theorem Walk.do {l:List Oper} {k:Nat} {rest:List Nat} {F:List (Nat×(World→Prop))} {a:Act} {o:Oper} {ψ:Value→World→Prop} (ho:l[k]?=some o) (hΦ:Φ k=some ψ) (hw:Region.wanted o (yielded l.toArray a.tmps)=true) (hs:∀W,R W0 W→a46 F (D k) W→dj P o a W fun v W'=>R W W'∧ψ v W')
  (h:∀v,(∃W,R W0 W∧sz F W∧ψ v W)→Walk P l.toArray R W0 Φ D Q rest (F++[(k,ψ v)]) (a.put o.dst v)):Walk P l.toArray R W0 Φ D Q (k::rest) F a:=
 ⟨o,by rw[List.getElem?_toArray];exact ho,by simp only[hΦ];exact⟨hw,hs,h⟩⟩
theorem Walk.done {F:List (Nat×(World→Prop))} {a:Act} (h:∀W,R W0 W→sz F W→Q a W):Walk P ops R W0 Φ D Q [] F a:=h
theorem a7m {Q:Exit→Act→World→Prop} {fuel:Nat} {listed:Array Bool} {a:Act} {w:World} {l:List Oper} (k:Nat) {o:Oper} (ho:l[k]?=some o) (hr:Region.ready .any l.toArray listed=[k]) (hw:Region.wanted o (yielded l.toArray a.tmps)=true)
  (h:∀K:Act→World→Prop,Shut (∀a w,wpAny P .any l.toArray Q fuel (listed.setIfInBounds k true) a w→K a w)→o.wp P a w K Q):wpAny P .any l.toArray Q (fuel+1) listed a w:=
 ⟨fun h0=>by (rw[hr] at h0;cases h0),fun i hi=>by
  rw[hr] at hi;obtain rfl:=mj hi;unfold wpOp;rw[List.getElem?_toArray,ho];simp only[hw,if_true];exact .inl (h _ fun _ _ h=>h)⟩
theorem a7n {Q:Exit→Act→World→Prop} {listed:Array Bool} {a:Act} {w:World} {ops:Array Oper} (hr:Region.ready .any ops listed=[]) (h:Q .normal a w):wpAny P .any ops Q 0 listed a w:=⟨hr,h⟩
end
inductive SV where
 | pv (p:PV)
 | any
 | emp
 | nil (e k:Nat) (ts:List Nat)
 | tok (id:Nat)
 | box (id off:Nat)
 | elt (id off:Nat)
 | ref (e:Nat) (cs:List PV)
 | agg (cs:List SV)
 | tup (cs:List SV)
 | fn (f:Nat) (cs:List SV)
inductive Res where
 | box (ty:Nat) (cells:List SV)
 | tok (e k:Nat) (ts:List Nat) (xs:List (List PV))
def hnd (b off:Nat):Value:=bif Nat.blt off 1000000 then .pointer (some ⟨b,off,none⟩) else bif Nat.beq off 1000000 then .map (some b) else .slice (some ⟨b,off % 1000,none⟩) (off / 1000 % 1000) (off / 1000000 - 2)
theorem mw {b off:Nat} (h:Nat.blt off 1000000=true):hnd b off=.pointer (some ⟨b,off,none⟩):=by unfold hnd;rw[h];rfl
def amy (es:Array MapEntry):List Value:=es.toList.flatMap fun e=>[e.key,e.val]
def Bl (w:World) (b ty:Nat) (us:List Value):Prop:=bif Nat.blt ty 1000000 then Bk w b ty us.toArray else ∃es c,w.heap[b]?=some (.map es c)∧amy es=us
section
variable {w w':World} {b ty:Nat} {us:List Value}
theorem Bl.of (ht:Nat.blt ty 1000000=true) (h:Bk w b ty us.toArray):Bl w b ty us:=by unfold Bl;rw[ht];exact h
theorem Bl.bk (h:Bl w b ty us) (ht:Nat.blt ty 1000000=true):Bk w b ty us.toArray:=by unfold Bl at h;rw[ht] at h;exact h
theorem Bl.lt (h:Bl w b ty us):b < w.heap.size:=by
 unfold Bl at h;cases ht:Nat.blt ty 1000000 with
 | true=>rw[ht] at h;exact Bk.lt h
 | false=>
  rw[ht] at h;obtain⟨es,c,h,_⟩:=h;rcases zU b w.heap.size with h1 | h1
  ·exact h1
  ·rw[zR h1] at h;cases h
theorem Bl.keep (h:Bl w b ty us) (k:w'.heap[b]?=w.heap[b]?):Bl w' b ty us:=by
 unfold Bl at h ⊢;cases ht:Nat.blt ty 1000000 with
 | true=>rw[ht] at h;exact k.trans h
 | false=>
  rw[ht] at h;obtain⟨es,c,h,e⟩:=h;exact⟨es,c,k.trans h,e⟩
theorem Bl.fr {X:Nat→Prop} (h:Bl w b ty us) (F:Fr X w w') (hx:¬X b):Bl w' b ty us:=h.keep (F.keep b h.lt hx)
theorem Bl.gr (h:Bl w b ty us) (G:Gr w w'):Bl w' b ty us:=h.keep (G.below.block b h.lt)
theorem Bl.typ (h:Bl w b ty us) {cs:Array Value} {t:Nat} {fr:Nat×Nat} (hh:w.heap[b]?=some (.cells cs t fr)):t=ty:=by
 unfold Bl at h;cases ht:Nat.blt ty 1000000 with
 | true=>
  rw[ht] at h;have h:w.heap[b]?=some (.cells us.toArray ty (0,0)):=h;rw[h] at hh;injection hh with hh;injection hh with _ hh _;exact hh.symm
 | false=>
  rw[ht] at h;obtain⟨es,c,h,_⟩:=h;rw[h] at hh;cases hh
end
structure St where
 slot:Nat→Option SV
 res:Nat→Option Res
 tys:List Nat
mutual
def SV.ids:SV→List Nat
 | .tok i=>[i]
 | .box i _=>[i]
 | .elt i _=>[i]
 | .agg cs=>SV.idsL cs
 | .tup cs=>SV.idsL cs
 | .fn _ cs=>SV.idsL cs
 | _=>[]
def SV.idsL:List SV→List Nat
 | []=>[]
 | c::cs=>SV.ids c++SV.idsL cs
end
mutual
def SV.ty:SV→List Nat
 | .pv p=>p.ty
 | .ref e cs=>e::PV.tyL cs
 | .agg cs=>SV.tyL' cs
 | .tup cs=>SV.tyL' cs
 | .fn _ cs=>SV.tyL' cs
 | _=>[]
def SV.tyL':List SV→List Nat
 | []=>[]
 | c::cs=>SV.ty c++SV.tyL' cs
end
mutual
def SV.Rep (w:World) (X:Nat→Prop) (B:Nat→Nat) (T:Nat→Sv):SV→Value→Prop
 | .pv p,v=>p.Rep w X v
 | .any,_=>True
 | .emp,v=>v=.slice none 0 0
 | .nil _ _ _,v=>v=.slice none 0 0
 | .tok i,v=>v=(T i).v
 | .box i off,v=>v=hnd (B i) off
 | .elt i off,v=>∃g,(T i).A=some ⟨g,0,none⟩∧v=.pointer (some ⟨g,off,none⟩)
 | .ref e cs,v=>∃(ad:Addr) (us:List Value),v=.pointer (some ad)∧PV.RepL w X cs us∧(cs≠[]→(¬X ad.block)∧∃zs fr,w.heap[ad.block]?=some (.cells zs e fr))∧∀j u,us[j]?=some u→w.cell? (ad.add j)=some u
 | .agg cs,v=>∃us:List Value,v=.agg us.toArray∧SV.RepL w X B T cs us
 | .tup cs,v=>∃us:List Value,v=.tuple us.toArray∧SV.RepL w X B T cs us
 | .fn f cs,v=>∃us:List Value,v=.func (.func f) #[] us.toArray∧SV.RepL w X B T cs us
def SV.RepL (w:World) (X:Nat→Prop) (B:Nat→Nat) (T:Nat→Sv):List SV→List Value→Prop
 | [],us=>us=[]
 | c::cs,us=>∃u us',us=u::us'∧SV.Rep w X B T c u∧SV.RepL w X B T cs us'
end
section
variable {w w':World} {X X':Nat→Prop} {B B':Nat→Nat} {T T':Nat→Sv}
theorem SV.RepL.len:∀{cs:List SV} {us:List Value},SV.RepL w X B T cs us→us.length=cs.length
 | [],us,h=>by rw[SV.RepL] at h;rw[h];rfl
 | c::cs,us,h=>by
  rw[SV.RepL] at h;obtain⟨u,us',rfl,_,h⟩:=h;rw[zW,zW,SV.RepL.len h]
theorem SV.RepL.cons {c:SV} {cs:List SV} {u:Value} {us:List Value} (h:c.Rep w X B T u) (k:SV.RepL w X B T cs us):SV.RepL w X B T (c::cs) (u::us):=by
 rw[SV.RepL];exact⟨u,us,rfl,h,k⟩
theorem SV.RepL.at:∀{cs:List SV} {us:List Value} {j:Nat} {c:SV},SV.RepL w X B T cs us→cs[j]?=some c→∃u,us[j]?=some u∧c.Rep w X B T u
 | [],us,j,c,h,e=>by simp at e
 | d::cs,us,0,c,h,e=>by
  rw[SV.RepL] at h;obtain⟨u,us',rfl,h1,_⟩:=h;simp at e;subst e;exact⟨u,rfl,h1⟩
 | d::cs,us,j+1,c,h,e=>by
  rw[SV.RepL] at h;obtain⟨u,us',rfl,_,h2⟩:=h;simp at e;obtain⟨u,h3,h4⟩:=SV.RepL.at h2 e;exact⟨u,by simpa using h3,h4⟩
theorem SV.RepL.take:∀{cs:List SV} {us:List Value} (n:Nat),SV.RepL w X B T cs us→SV.RepL w X B T (cs.take n) (us.take n)
 | [],us,n,h=>by rw[SV.RepL] at h;subst h;simp[SV.RepL]
 | c::cs,us,0,h=>by simp[SV.RepL]
 | c::cs,us,n+1,h=>by
  rw[SV.RepL] at h;obtain⟨u,us',rfl,h1,h2⟩:=h;rw[List.take_succ_cons,List.take_succ_cons];exact SV.RepL.cons h1 (SV.RepL.take n h2)
theorem SV.RepL.drop:∀{cs:List SV} {us:List Value} (n:Nat),SV.RepL w X B T cs us→SV.RepL w X B T (cs.drop n) (us.drop n)
 | cs,us,0,h=>h
 | [],us,n+1,h=>by rw[SV.RepL] at h;subst h;simp[SV.RepL]
 | c::cs,us,n+1,h=>by
  rw[SV.RepL] at h;obtain⟨u,us',rfl,h1,h2⟩:=h;rw[List.drop_succ_cons,List.drop_succ_cons];exact SV.RepL.drop n h2
theorem SV.RepL.append:∀{cs ds:List SV} {us vs:List Value},SV.RepL w X B T cs us→SV.RepL w X B T ds vs→SV.RepL w X B T (cs++ds) (us++vs)
 | [],ds,us,vs,h,k=>by rw[SV.RepL] at h;subst h;exact k
 | c::cs,ds,us,vs,h,k=>by
  rw[SV.RepL] at h;obtain⟨u,us',rfl,h1,h2⟩:=h;exact SV.RepL.cons h1 (SV.RepL.append h2 k)
theorem SV.RepL.set:∀{cs:List SV} {us:List Value} {j:Nat} {c:SV} {u:Value},SV.RepL w X B T cs us→c.Rep w X B T u→SV.RepL w X B T (cs.set j c) (us.set j u)
 | [],us,j,c,u,h,k=>by rw[SV.RepL] at h;subst h;simp[SV.RepL]
 | d::cs,us,0,c,u,h,k=>by
  rw[SV.RepL] at h;obtain⟨u',us',rfl,h1,h2⟩:=h;exact SV.RepL.cons k h2
 | d::cs,us,j+1,c,u,h,k=>by
  rw[SV.RepL] at h;obtain⟨u',us',rfl,h1,h2⟩:=h;exact SV.RepL.cons h1 (SV.RepL.set h2 k)
theorem SV.RepL.pv:∀{cs:List PV} {us:List Value},PV.RepL w X cs us→SV.RepL w X B T (cs.map .pv) us
 | [],us,h=>by rw[PV.RepL] at h;subst h;simp[SV.RepL]
 | c::cs,us,h=>by
  rw[PV.RepL] at h;obtain⟨u,us',rfl,h1,h2⟩:=h;exact SV.RepL.cons (by rw[SV.Rep];exact h1) (SV.RepL.pv h2)
end
mutual
theorem SV.Rep.still {w w':World} {X X':Nat→Prop} {B B':Nat→Nat} {T T':Nat→Sv}:∀{s:SV} {v:Value},SV.Rep w X B T s v→Still w w' X X' s.ty→(∀i∈s.ids,B' i=B i∧T' i=T i)→SV.Rep w' X' B' T' s v
 | .pv p,v,h,S,_=>by rw[SV.Rep] at h ⊢;exact PV.Rep.still h (by rwa [SV.ty] at S)
 | .any,v,h,_,_=>by rw[SV.Rep];trivial
 | .emp,v,h,_,_=>by rw[SV.Rep] at h ⊢;exact h
 | .nil _ _ _,v,h,_,_=>by rw[SV.Rep] at h ⊢;exact h
 | .tok i,v,h,_,k=>by
  rw[SV.Rep] at h ⊢;rw[(k i (by rw[SV.ids];exact zH.2 rfl)).2];exact h
 | .box i off,v,h,_,k=>by
  rw[SV.Rep] at h ⊢;rw[(k i (by rw[SV.ids];exact zH.2 rfl)).1];exact h
 | .elt i off,v,h,_,k=>by
  rw[SV.Rep] at h ⊢;rw[(k i (by rw[SV.ids];exact zH.2 rfl)).2];exact h
 | .ref e cs,v,h,S,_=>by
  rw[SV.Rep] at h ⊢;rw[SV.ty] at S;obtain⟨ad,us,rfl,h1,h2,h3⟩:=h;have hk:cs≠[]→w'.heap[ad.block]?=w.heap[ad.block]?∧¬X' ad.block:=fun hc=>by
   obtain⟨hx,zs,fr,hh⟩:=h2 hc;exact S.2 _ zs e fr hx hh (mf ..)
  refine⟨ad,us,rfl,PV.RepL.still h1 (S.sub fun t ht=>zC _ ht),fun hc=>?_,fun j u hu=>?_⟩
  ·obtain⟨hx,zs,fr,hh⟩:=h2 hc;exact⟨(hk hc).2,zs,fr,(hk hc).1.trans hh⟩
  ·have hc:cs≠[]:=fun e0=>by
    subst e0;rw[PV.RepL] at h1;subst h1;simp at hu
   exact (World.cell?_of_block (by rw[dq];exact (hk hc).1)).trans (h3 j u hu)
 | .agg cs,v,h,S,k=>by
  rw[SV.Rep] at h ⊢;obtain⟨us,rfl,h1⟩:=h;exact⟨us,rfl,SV.RepL.still h1 (by rwa [SV.ty] at S) (by rwa [SV.ids] at k)⟩
 | .tup cs,v,h,S,k=>by
  rw[SV.Rep] at h ⊢;obtain⟨us,rfl,h1⟩:=h;exact⟨us,rfl,SV.RepL.still h1 (by rwa [SV.ty] at S) (by rwa [SV.ids] at k)⟩
 | .fn f cs,v,h,S,k=>by
  rw[SV.Rep] at h ⊢;obtain⟨us,rfl,h1⟩:=h;exact⟨us,rfl,SV.RepL.still h1 (by rwa [SV.ty] at S) (by rwa [SV.ids] at k)⟩
theorem SV.RepL.still {w w':World} {X X':Nat→Prop} {B B':Nat→Nat} {T T':Nat→Sv}:∀{cs:List SV} {us:List Value},SV.RepL w X B T cs us→Still w w' X X' (SV.tyL' cs)→(∀i∈SV.idsL cs,B' i=B i∧T' i=T i)→SV.RepL w' X' B' T' cs us
 | [],us,h,_,_=>by rw[SV.RepL] at h ⊢;exact h
 | c::cs,us,h,S,k=>by
  rw[SV.RepL] at h ⊢;obtain⟨u,us',rfl,h1,h2⟩:=h;rw[SV.tyL'] at S;rw[SV.idsL] at k;exact⟨u,us',rfl,SV.Rep.still h1 (S.sub fun t ht=>zL _ ht) (fun i hi=>k i (zL _ hi)),SV.RepL.still h2 (S.sub fun t ht=>zV _ ht) (fun i hi=>k i (zV _ hi))⟩
end
def Res.blk (r:Res) (b:Nat) (x:Sv):Option Nat:=match r with
 | .box _ _=>some b
 | .tok ..=>x.v.ownBlock
def Res.typ:Res→Nat
 | .box t _=>t
 | .tok e _ _ _=>e
def Res.ids:Res→List Nat
 | .box _ cs=>SV.idsL cs
 | .tok ..=>[]
structure Cx where
 P:Program
 w0:World
 X0:Nat→Prop
 N:Nat
 T:List Nat
 old:∀b,X0 b→b < w0.heap.size
 hm:P.follows .mixedOrders=true
 hT:∀b cs t fr,X0 b→w0.heap[b]?=some (.cells cs t fr)→t ∉ T
 M:Nat→Prop
 hM:∀b,X0 b→¬M b
 F:Nat→Prop
 hF:∀i,i < N→¬F i
 B0:Nat→Nat
 Z:Nat
 A0:Nat→Value
def Cx.dk (C:Cx) (d:Nat):Prop:=d < C.N∧C.Z≤d
def acg (C:Cx) (a:Act):Prop:=a.tmps.size=C.N∧∀t,t < C.Z→a.tmps.getD t undef=C.A0 t
def Cx.lo (C:Cx) (b:Nat):Prop:=C.w0.heap.size≤b∨C.M b
structure GrC (C:Cx) (B:Nat→Nat) (w:World):Prop where
 fr:Fr C.M C.w0 w
 fix:∀i,C.F i→B i=C.B0 i
theorem GrC.size {C:Cx} {B:Nat→Nat} {w:World} (h:GrC C B w):C.w0.heap.size≤w.heap.size:=h.fr.size
theorem GrC.trans {C:Cx} {B:Nat→Nat} {w w':World} (h:GrC C B w) (G:Gr w w'):GrC C B w':=⟨h.fr.trans (G.fr.wide fun _ _ h=>h.elim),h.fix⟩
theorem GrC.step {C:Cx} {B:Nat→Nat} {S:Nat→Prop} {w w':World} (h:GrC C B w) (F:Fr S w w') (k:∀b,b < w.heap.size→S b→C.lo b):GrC C B w':=
 ⟨⟨h.fr.bel.trans F.bel,fun b hb hm=>(F.keep b (nk hb h.fr.size) fun hs=>(k b (nk hb h.fr.size) hs).elim (fun g=>absurd hb (Nat.not_lt.2 g)) hm).trans (h.fr.keep b hb hm)⟩,h.fix⟩
theorem GrC.old {C:Cx} {B:Nat→Nat} {w:World} (h:GrC C B w) {b:Nat} (hb:C.X0 b):w.heap[b]?=C.w0.heap[b]?:=h.fr.keep b (C.old b hb) (C.hM b hb)
def Res.In (lo:Nat→Prop) (w:World) (X:Nat→Prop) (B:Nat→Nat) (T:Nat→Sv) (i:Nat):Res→Prop
 | .box ty cells=>lo (B i)∧∃us,Bl w (B i) ty us∧SV.RepL w X B T cells us
 | .tok e k ts xs=>∃us:List (List Value),w.ownsRow 0 e k (T i).v (T i).n us.flatten∧PV.RepLL w X xs us∧pn k ts xs∧(T i).n=xs.length∧0 < k∧∀b,(T i).v.ownBlock=some b→lo b
def Own0 (C:Cx) (st:St) (B:Nat→Nat) (T:Nat→Sv) (b:Nat):Prop:=C.X0 b∨∃i r,st.res i=some r∧r.blk (B i) (T i)=some b
structure InvB (C:Cx) (st:St) (a:Act) (w:World) (B:Nat→Nat) (T:Nat→Sv):Prop where
 size:acg C a
 dfr:a.defers=[]
 gr:GrC C B w
 slot:∀t s,st.slot t=some s→SV.Rep w (Own0 C st B T) B T s (a.tmps.getD t undef)
 live:∀t s,st.slot t=some s→∀i∈s.ids,(st.res i).isSome=true
 inn:∀i r,st.res i=some r→r.In C.lo w (Own0 C st B T) B T i
 alive:∀i r,st.res i=some r→∀j∈r.ids,(st.res j).isSome=true
 apart:∀i r j q b,st.res i=some r→st.res j=some q→r.blk (B i) (T i)=some b→q.blk (B j) (T j)=some b→i=j
def Inv (C:Cx) (st:St) (a:Act) (w:World):Prop:=∃B T,InvB C st a w B T
end Go.Proofs.YtbhbainhmfjpdaaGreatDoor
