/- Walks of the search and of what it calls, part 2. -/
import Derived.Test.YtbhbainhmfjpdaaGreatDoorMa
import Derived.Deep.MidRow
set_option linter.unusedVariables false
set_option linter.unusedSimpArgs false
set_option maxRecDepth 100000
set_option maxHeartbeats 8000000
namespace Go.Proofs.YtbhbainhmfjpdaaGreatDoor
open Go.RowKit
theorem ahp {w w':World} {B e k n:Nat} {v:Value} {xs:List Value} (h:w.ownsRow B e k v n xs) (G:Gr w w'):w'.ownsRow B e k v n xs:=md h fun b hb=>G.below.block b (ma h b hb).2
theorem j8 {a b:Nat} (h:a≠b):Nat.beq a b=false:=by
 cases e:Nat.beq a b
 ·rfl
 ·exact absurd (zF e) h
structure Eff where
 s:SV
 rs:Option (Nat×Res)
 rb:List Nat
 kt:Bool
theorem afd {w w':World} {o:Option Nat} (hg:w.grownBy w' o):Fr (fun b=>o=some b) w w':=
 ⟨(Below.refl 0 w).grown hg (nq _) (fun _ _=>nq _),fun b hb hne=>hg.block b hb (fun e=>hne e.symm)⟩
def SV.kill (i:Nat) (s:SV):SV:=bif s.ids.contains i then .any else s
def Res.kill (i:Nat):Res→Res
 | .box t cs=>.box t (cs.map (SV.kill i))
 | r=>r
def lj (i:Nat):Option SV→Option SV
 | some s=>some (s.kill i)
 | none=>none
def ik (i:Nat):Option Res→Option Res
 | some s=>some (s.kill i)
 | none=>none
def Eff.old (e:Eff) (st:St) (t:Nat):Option SV:=match e.rs with
 | some (i,_)=>bif e.kt then lj i (st.slot t) else st.slot t
 | none=>st.slot t
def Eff.app (e:Eff) (dst:Option Nat) (st:St):St where
 slot t:=match dst with
  | some d=>bif Nat.beq t d then some e.s else e.old st t
  | none=>e.old st t
 res j:=match e.rs with
  | some (i,r)=>bif Nat.beq j i then some r else bif e.kt then ik i (st.res j) else st.res j
  | none=>st.res j
 tys:=st.tys
section
variable {C:Cx} {st:St} {a:Act} {w w':World} {B:Nat→Nat} {T:Nat→Sv} {X:Nat→Prop} {i id ty:Nat} {v:Value} {d dst:Option Nat} {s:SV} {rb:List Nat} {cells:List SV}
theorem Still.gr (G:Gr w w') (X:Nat→Prop) (ts:List Nat):Still w w' X X ts:=⟨G.size,fun b cs t fr hx hh ht=>⟨G.below.block b (by
 rcases zU b w.heap.size with h | h
 ·exact h
 ·rw[zR h] at hh;cases hh),hx⟩⟩
theorem Res.In.gr {lo:Nat→Prop} {r:Res} (h:r.In lo w X B T i) (G:Gr w w'):r.In lo w' X B T i:=by
 cases r with
 | box ty cells=>
  obtain⟨h1,us,h2,h3⟩:=h;exact⟨h1,us,h2.gr G,h3.still (Still.gr G _ _) fun _ _=>⟨rfl,rfl⟩⟩
 | tok e k ts xs=>
  obtain⟨us,h1,h2,h3,h4⟩:=h;exact⟨us,ahp h1 G,PV.RepLL.still (ts:=ts) h2 (Still.gr G _ _) fun r hr c hc=>((h3 r hr).2 c hc).2,h3,h4⟩
theorem InvB.grow (h:InvB C st a w B T) (G:Gr w w'):InvB C st a w' B T:=
 ⟨h.size,h.dfr,h.gr.trans G,fun t s e=>(h.slot t s e).still (Still.gr G _ _) fun _ _=>⟨rfl,rfl⟩,h.live,fun i r e=>(h.inn i r e).gr G,h.alive,h.apart⟩
theorem i7 {a:Act} {d:Nat} (h:d < a.tmps.size):(a.put (some d) v).tmps.getD d undef=v:=by
 simp[Act.put,Array.getD_eq_getD_getElem?,h]
theorem gc {a:Act} {d t:Nat} (h:t≠d):(a.put (some d) v).tmps.getD t undef=a.tmps.getD t undef:=by
 simp[Act.put,Array.getD_eq_getD_getElem?,Array.getElem?_setIfInBounds_ne (Ne.symm h)]
theorem put_size {a:Act} :(a.put d v).tmps.size=a.tmps.size:=by cases d<;>simp[Act.put]
theorem y6 {C:Cx} {a:Act} (h:acg C a) (hd:∀x,d=some x→C.dk x):acg C (a.put d v):=⟨put_size.trans h.1,fun t ht=>by
 cases d with
 | none=>exact h.2 t ht
 | some x=>rw[gc (Nat.ne_of_lt (nk ht (hd x rfl).2))];exact h.2 t ht⟩
theorem put_dfr {a:Act} :(a.put d v).defers=a.defers:=by cases d<;>rfl
theorem ow (h:InvB C st a w B T) (G:Gr w w') {kt:Bool} (hs:s.Rep w' (Own0 C st B T) B T v) (hl:∀i∈s.ids,(st.res i).isSome=true) (hd:∀d,dst=some d→C.dk d):Inv C (Eff.app ⟨s,none,rb,kt⟩ dst st) (a.put dst v) w':=by
 have h':=h.grow G;refine⟨B,T,y6 h.size hd,put_dfr.trans h.dfr,h'.gr,fun t s' e=>?_,fun t s' e=>?_,h'.inn,h'.alive,h'.apart⟩
 ·cases dst with
  | none=>exact h'.slot t s' e
  | some d=>
   simp only[Eff.app] at e;cases hb:Nat.beq t d with
   | true=>
    rw[hb] at e;obtain rfl:=zF hb;injection e with e;subst e;rw[i7 (by rw[h.size.1];exact (hd _ rfl).1)];exact hs
   | false=>
    rw[hb] at e;rw[gc (Nat.ne_of_beq_eq_false hb)];exact h'.slot t s' e
 ·cases dst with
  | none=>exact h.live t s' e
  | some d=>
   simp only[Eff.app] at e;cases hb:Nat.beq t d with
   | true=>
    rw[hb] at e;injection e with e;subst e;exact hl
   | false=>rw[hb] at e;exact h.live t s' e
theorem a06 (h:InvB C st a w B T) {off:Nat} {o:Obj} {us:List Value} {rb:List Nat} (hf:st.res id=none) (hF:¬C.F id) (hs:SV.RepL w (Own0 C st B T) B T cells us) (hl:∀i∈SV.idsL cells,(st.res i).isSome=true) (hd:∀d,dst=some d→C.dk d) (hbl:Bl (w.alloc o) w.heap.size ty us):
  Inv C (Eff.app ⟨.box id off,some (id,.box ty cells),rb,false⟩ dst st) (a.put dst (hnd w.heap.size off)) (w.alloc o):=by
 have G:Gr w (w.alloc o):=(Gr.refl w).alloc _;have h':=h.grow G;have hne:∀i,(st.res i).isSome=true→i≠id:=fun i hi e=>by subst e;rw[hf] at hi;cases hi
 let B':Nat→Nat:=fun i=>if i=id then w.heap.size else B i
 have hB':∀i,(st.res i).isSome=true→B' i=B i:=fun i hi=>if_neg (hne i hi)
 have hBi:B' id=w.heap.size:=if_pos rfl;have hres:∀j,(Eff.app ⟨.box id off,some (id,.box ty cells),rb,false⟩ dst st).res j=if j=id then some (.box ty cells) else st.res j:=fun j=>by
  simp only[Eff.app];by_cases e:j=id
  ·rw[if_pos e,e,Nat.beq_refl];rfl
  ·rw[if_neg e,j8 e];rfl
 have hX:∀b,Own0 C (Eff.app ⟨.box id off,some (id,.box ty cells),rb,false⟩ dst st) B' T b→Own0 C st B T b∨b=w.heap.size:=fun b hb=>by
  rcases hb with hb | ⟨i,r,hr,hb⟩
  ·exact .inl (.inl hb)
  ·rw[hres] at hr;by_cases e:i=id
   ·rw[if_pos e] at hr;injection hr with hr;subst hr;simp only[Res.blk,oq] at hb;rw[e,hBi] at hb;exact .inr hb.symm
   ·rw[if_neg e] at hr;refine .inl (.inr ⟨i,r,hr,?_⟩);rw[← hB' i (by rw[hr];rfl)];exact hb
 have S:∀ts,Still w (w.alloc o) (Own0 C st B T) (Own0 C (Eff.app ⟨.box id off,some (id,.box ty cells),rb,false⟩ dst st) B' T) ts:=fun ts=>by
  refine⟨G.size,fun b cs t fr hx hh ht=>?_⟩;have hlt:b < w.heap.size:=by
   rcases zU b w.heap.size with h | h
   ·exact h
   ·rw[zR h] at hh;cases hh
  refine⟨G.below.block b hlt,fun hb=>?_⟩;rcases hX b hb with hb | hb
  ·exact hx hb
  ·omega
 have keep:∀{s:SV} {v:Value},SV.Rep w (Own0 C st B T) B T s v→(∀i∈s.ids,(st.res i).isSome=true)→SV.Rep (w.alloc o) (Own0 C (Eff.app ⟨.box id off,some (id,.box ty cells),rb,false⟩ dst st) B' T) B' T s v:=fun hh hi=>hh.still (S _) fun i hm=>⟨hB' i (hi i hm),rfl⟩
 have eh:∀{s:List SV} {v:List Value},SV.RepL w (Own0 C st B T) B T s v→(∀i∈SV.idsL s,(st.res i).isSome=true)→SV.RepL (w.alloc o) (Own0 C (Eff.app ⟨.box id off,some (id,.box ty cells),rb,false⟩ dst st) B' T) B' T s v:=fun hh hi=>hh.still (S _) fun i hm=>⟨hB' i (hi i hm),rfl⟩
 have alive':∀j,(st.res j).isSome=true→((Eff.app ⟨.box id off,some (id,.box ty cells),rb,false⟩ dst st).res j).isSome=true:=fun j hj=>by
  rw[hres];split
  ·rfl
  ·exact hj
 refine⟨B',T,y6 h.size hd,put_dfr.trans h.dfr,⟨h'.gr.fr,fun i hi=>(if_neg fun (e:i=id)=>hF (e▸hi)).trans (h'.gr.fix i hi)⟩,fun t s' e=>?_,fun t s' e=>?_,fun i r e=>?_,fun i r e=>?_,fun i r j q b hi hj h1 h2=>?_⟩
 ·have hold:∀t s',st.slot t=some s'→SV.Rep (w.alloc o) (Own0 C (Eff.app ⟨.box id off,some (id,.box ty cells),rb,false⟩ dst st) B' T) B' T s' (a.tmps.getD t undef):=fun t s' e=>keep (h.slot t s' e) (h.live t s' e)
  cases dst with
  | none=>exact hold t s' e
  | some d=>
   simp only[Eff.app] at e;cases hb:Nat.beq t d with
   | true=>
    rw[hb] at e;obtain rfl:=zF hb;injection e with e;subst e;rw[i7 (by rw[h.size.1];exact (hd _ rfl).1),SV.Rep,hBi]
   | false=>
    rw[hb] at e;rw[gc (Nat.ne_of_beq_eq_false hb)];exact hold t s' e
 ·intro i hi;cases dst with
  | none=>exact alive' i (h.live t s' e i hi)
  | some d=>
   simp only[Eff.app] at e;cases hb:Nat.beq t d with
   | true=>
    rw[hb] at e;injection e with e;subst e;rw[SV.ids,zH] at hi;rw[hres,if_pos hi];rfl
   | false=>rw[hb] at e;exact alive' i (h.live t s' e i hi)
 ·rw[hres] at e;by_cases hi:i=id
  ·rw[if_pos hi] at e;injection e with e;subst e;refine⟨.inl (by rw[hi,hBi];exact h.gr.size),us,?_,eh hs hl⟩;rw[hi,hBi];exact hbl
  ·rw[if_neg hi] at e;have hin:=h.inn i r e;cases r with
   | box ty' cells'=>
    obtain⟨h1,vs,h2,h3⟩:=hin;refine⟨by rw[hB' i (by rw[e];rfl)];exact h1,vs,by rw[hB' i (by rw[e];rfl)];exact h2.gr G,eh h3 (h.alive i _ e)⟩
   | tok e' k ts xs=>
    obtain⟨vs,h1,h2,h3,h4⟩:=hin;exact⟨vs,ahp h1 G,PV.RepLL.still (ts:=ts) h2 (S _) fun r hr c hc=>((h3 r hr).2 c hc).2,h3,h4⟩
 ·intro j hj;rw[hres] at e;by_cases hi:i=id
  ·rw[if_pos hi] at e;injection e with e;subst e;exact alive' j (hl j hj)
  ·rw[if_neg hi] at e;exact alive' j (h.alive i r e j hj)
 ·have old:∀i r b,st.res i=some r→r.blk (B i) (T i)=some b→b < w.heap.size:=fun i r b e hb=>by
   have hin:=h.inn i r e;cases r with
   | box ty' cells'=>
    obtain⟨h1,vs,h2,h3⟩:=hin;simp only[Res.blk,oq] at hb;rw[← hb];exact h2.lt
   | tok e' k ts xs=>
    obtain⟨vs,h1,_⟩:=hin;exact (ma h1 b hb).2
  rw[hres] at hi hj;by_cases ei:i=id
  ·by_cases ej:j=id
   ·rw[ei,ej]
   ·exfalso
    rw[if_pos ei] at hi;rw[if_neg ej] at hj;injection hi with hi;subst hi;simp only[Res.blk,oq] at h1;rw[ei,hBi] at h1;rw[hB' j (by rw[hj];rfl)] at h2;have:=old j q b hj h2;omega
  ·by_cases ej:j=id
   ·exfalso
    rw[if_neg ei] at hi;rw[if_pos ej] at hj;injection hj with hj;subst hj;simp only[Res.blk,oq] at h2;rw[ej,hBi] at h2;rw[hB' i (by rw[hi];rfl)] at h1;have:=old i r b hi h1;omega
   ·rw[if_neg ei] at hi;rw[if_neg ej] at hj;rw[hB' i (by rw[hi];rfl)] at h1;rw[hB' j (by rw[hj];rfl)] at h2;exact h.apart i r j q b hi hj h1 h2
theorem a07 (h:InvB C st a w B T) {us:List Value} {rb:List Nat} (hf:st.res id=none) (hF:¬C.F id) (ht:Nat.blt ty 1000000=true) (hs:SV.RepL w (Own0 C st B T) B T cells us) (hl:∀i∈SV.idsL cells,(st.res i).isSome=true) (hd:∀d,dst=some d→C.dk d):
  Inv C (Eff.app ⟨.box id 0,some (id,.box ty cells),rb,false⟩ dst st) (a.put dst (.pointer (some ⟨w.heap.size,0,none⟩))) (w.alloc (.cells us.toArray ty)):=
 a06 (off:=0) h hf hF hs hl hd (Bl.of ht (Bk.made w ty us.toArray))
theorem a2b (h:InvB C st a w B T) {cells':List SV} {us':List Value} {rb:List Nat} {s:SV} (hr:st.res id=some (.box ty cells)) (hb:Bl w' (B id) ty us') (F:Fr (fun b=>b=B id) w w') (hs:SV.RepL w (Own0 C st B T) B T cells' us') (hl:∀i∈SV.idsL cells',(st.res i).isSome=true):
  Inv C (Eff.app ⟨s,some (id,.box ty cells'),rb,false⟩ none st) a w':=by
 have hge:C.lo (B id):=(h.inn id _ hr).1;have hres:∀j,(Eff.app ⟨s,some (id,.box ty cells'),rb,false⟩ none st).res j=if j=id then some (.box ty cells') else st.res j:=fun j=>by
  simp only[Eff.app];by_cases e:j=id
  ·rw[if_pos e,e,Nat.beq_refl];rfl
  ·rw[if_neg e,j8 e];rfl
 have hX:∀b,Own0 C (Eff.app ⟨s,some (id,.box ty cells'),rb,false⟩ none st) B T b→Own0 C st B T b:=fun b hb=>by
  rcases hb with hb | ⟨i,r,hi,hb⟩
  ·exact .inl hb
  ·rw[hres] at hi;by_cases e:i=id
   ·rw[if_pos e] at hi;injection hi with hi;subst hi;exact .inr ⟨id,.box ty cells,hr,by rw[← e];exact hb⟩
   ·rw[if_neg e] at hi;exact .inr ⟨i,r,hi,hb⟩
 have S:∀ts,Still w w' (Own0 C st B T) (Own0 C (Eff.app ⟨s,some (id,.box ty cells'),rb,false⟩ none st) B T) ts:=fun ts=>by
  refine⟨F.size,fun b cs t fr hx hh ht=>?_⟩;have hlt:b < w.heap.size:=by
   rcases zU b w.heap.size with h | h
   ·exact h
   ·rw[zR h] at hh;cases hh
  exact⟨F.keep b hlt fun e=>hx (.inr ⟨id,_,hr,by rw[e];rfl⟩),fun hb=>hx (hX b hb)⟩
 have alive':∀j,(st.res j).isSome=true→((Eff.app ⟨s,some (id,.box ty cells'),rb,false⟩ none st).res j).isSome=true:=fun j hj=>by
  rw[hres];split
  ·rfl
  ·exact hj
 have oth:∀i r b,st.res i=some r→i≠id→r.blk (B i) (T i)=some b→b≠B id:=fun i r b e hne hb he=>hne (h.apart i r id _ b e hr hb (by rw[he];rfl))
 refine⟨B,T,h.size,h.dfr,h.gr.step F fun b _ e=>by rw[e];exact hge,fun t s' e=>(h.slot t s' e).still (S _) fun _ _=>⟨rfl,rfl⟩,fun t s' e i hi=>alive' i (h.live t s' e i hi),fun i r e=>?_,fun i r e j hj=>?_,fun i r j q b hi hj h1 h2=>?_⟩
 ·rw[hres] at e;by_cases hi:i=id
  ·rw[if_pos hi] at e;injection e with e;subst e;rw[hi];exact⟨hge,us',hb,hs.still (S _) fun _ _=>⟨rfl,rfl⟩⟩
  ·rw[if_neg hi] at e;have hin:=h.inn i r e;cases r with
   | box ty' cells'=>
    obtain⟨h1,vs,h2,h3⟩:=hin;exact⟨h1,vs,h2.fr F (oth i _ _ e hi rfl),h3.still (S _) fun _ _=>⟨rfl,rfl⟩⟩
   | tok e' k ts xs=>
    obtain⟨vs,h1,h2,h3,h4⟩:=hin;exact⟨vs,md h1 fun b hb=>F.keep b (ma h1 b hb).2 (oth i _ b e hi hb),PV.RepLL.still (ts:=ts) h2 (S _) fun r hr c hc=>((h3 r hr).2 c hc).2,h3,h4⟩
 ·rw[hres] at e;by_cases hi:i=id
  ·rw[if_pos hi] at e;injection e with e;subst e;exact alive' j (hl j hj)
  ·rw[if_neg hi] at e;exact alive' j (h.alive i r e j hj)
 ·have tr:∀i r,(Eff.app ⟨s,some (id,.box ty cells'),rb,false⟩ none st).res i=some r→∃r',st.res i=some r'∧r'.blk (B i) (T i)=r.blk (B i) (T i):=fun i r e=>by
   rw[hres] at e;by_cases hi:i=id
   ·rw[if_pos hi] at e;injection e with e;subst e;exact⟨.box ty cells,by rw[hi];exact hr,rfl⟩
   ·rw[if_neg hi] at e;exact⟨r,e,rfl⟩
  obtain⟨r',e1,e2⟩:=tr i r hi;obtain⟨q',e3,e4⟩:=tr j q hj;exact h.apart i r' j q' b e1 e3 (e2.trans h1) (e4.trans h2)
theorem a01 (h:s.Rep w X B T v):(s.kill i).Rep w X B T v:=by
 unfold SV.kill;cases s.ids.contains i
 ·exact h
 ·rw[show (bif true then SV.any else s)=SV.any from rfl,SV.Rep];trivial
theorem qz :∀j∈(s.kill i).ids,j∈s.ids∧j≠i:=fun j hj=>by
 unfold SV.kill at hj;cases hc:s.ids.contains i with
 | true=>rw[hc] at hj;cases (show j∈([]:List Nat) from hj)
 | false=>
  rw[hc] at hj;refine⟨hj,fun e=>?_⟩;subst e;rw[zE.2 (show j∈s.ids from hj)] at hc;cases hc
theorem ww :∀{cs:List SV} {us:List Value},SV.RepL w X B T cs us→SV.RepL w X B T (cs.map (SV.kill i)) us
 | [],us,h=>h
 | c::cs,us,h=>by
  rw[SV.RepL] at h;obtain⟨u,us',rfl,h1,h2⟩:=h;exact SV.RepL.cons (a01 h1) (ww h2)
theorem mr :∀{cs:List SV},∀j∈SV.idsL (cs.map (SV.kill i)),j∈SV.idsL cs∧j≠i
 | [],j,h=>by rw[List.map_nil,SV.idsL] at h;cases h
 | c::cs,j,h=>by
  rw[List.map_cons,SV.idsL] at h;rw[SV.idsL];rcases zJ.1 h with h | h
  ·have:=qz j h;exact⟨zL _ this.1,this.2⟩
  ·have:=mr j h;exact⟨zV _ this.1,this.2⟩
theorem a60 (h:InvB C st a w B T) {dst:Option Nat} {e k:Nat} {ts:List Nat} {xs:List (List PV)} {us:List (List Value)} {y:Sv} {rb:List Nat} {own:Option Nat} (hold:∀r,st.res id=some r→(∃e k ts xs,r=.tok e k ts xs)∧own=(T id).v.ownBlock) (hnew:st.res id=none→own=none)
  (F:Fr (fun b=>own=some b) w w') (hy:w'.ownsRow 0 e k y.v y.n us.flatten) (hyb:y.v.ownBlock=own∨(∃b,y.v.ownBlock=some b∧w.heap.size≤b)∨y.v.ownBlock=none) (hs:PV.RepLL w' (fun b=>Own0 C st B T b∨y.v.ownBlock=some b) xs us) (hok:pn k ts xs) (hn:y.n=xs.length) (hk:0 < k) (hd:∀d,dst=some d→C.dk d):
  Inv C (Eff.app ⟨.tok id,some (id,.tok e k ts xs),rb,true⟩ dst st) (a.put dst y.v) w':=by
 let T':Nat→Sv:=fun i=>if i=id then y else T i
 have hT':∀i,i≠id→T' i=T i:=fun i hi=>if_neg hi
 have hTi:T' id=y:=if_pos rfl;have hres:∀j,(Eff.app ⟨.tok id,some (id,.tok e k ts xs),rb,true⟩ dst st).res j=if j=id then some (.tok e k ts xs) else ik id (st.res j):=fun j=>by
  simp only[Eff.app];by_cases e:j=id
  ·rw[if_pos e,e,Nat.beq_refl];rfl
  ·rw[if_neg e,j8 e];rfl
 have kil:∀{j r},ik id (st.res j)=some r→∃r',st.res j=some r'∧r=r'.kill id:=fun {j r} e=>by
  cases hh:st.res j with
  | none=>rw[hh] at e;cases e
  | some r'=>rw[hh] at e;injection e with e;exact⟨r',rfl,e.symm⟩
 have blkk:∀(r:Res) b x,(r.kill id).blk b x=r.blk b x:=fun r b x=>by cases r<;>rfl
 have ownX:∀b,own=some b→Own0 C st B T b:=fun b hb=>by
  cases hh:st.res id with
  | none=>rw[hnew hh] at hb;cases hb
  | some r=>
   obtain⟨⟨e',k',ts',xs',rfl⟩,ho⟩:=hold r hh;exact .inr ⟨id,_,hh,by rw[ho] at hb;exact hb⟩
 have ownlt:∀b,own=some b→C.lo b:=fun b hb=>by
  cases hh:st.res id with
  | none=>rw[hnew hh] at hb;cases hb
  | some r=>
   obtain⟨⟨e',k',ts',xs',rfl⟩,ho⟩:=hold r hh;obtain⟨vs,_,_,_,_,_,h1⟩:=h.inn id _ hh;rw[ho] at hb;exact h1 b hb
 have hX:∀b,Own0 C (Eff.app ⟨.tok id,some (id,.tok e k ts xs),rb,true⟩ dst st) B T' b→Own0 C st B T b∨(y.v.ownBlock=some b∧w.heap.size≤b):=fun b hb=>by
  rcases hb with hb | ⟨i,r,hi,hb⟩
  ·exact .inl (.inl hb)
  ·rw[hres] at hi;by_cases e:i=id
   ·rw[if_pos e] at hi;injection hi with hi;subst hi;rw[e,hTi] at hb;have hb':y.v.ownBlock=some b:=hb;rcases hyb with h1 | h1 | h1
    ·rw[h1] at hb';exact .inl (ownX b hb')
    ·obtain⟨b1,h1,h2⟩:=h1;rw[h1] at hb';injection hb' with hb';subst hb';exact .inr ⟨h1,h2⟩
    ·rw[h1] at hb';cases hb'
   ·rw[if_neg e] at hi;obtain⟨r',hr',rfl⟩:=kil hi;rw[blkk,hT' i e] at hb;exact .inl (.inr ⟨i,r',hr',hb⟩)
 have S:∀ts',Still w w' (Own0 C st B T) (Own0 C (Eff.app ⟨.tok id,some (id,.tok e k ts xs),rb,true⟩ dst st) B T') ts':=fun ts'=>by
  refine⟨F.size,fun b cs t fr hx hh ht=>?_⟩;have hlt:b < w.heap.size:=by
   rcases zU b w.heap.size with h | h
   ·exact h
   ·rw[zR h] at hh;cases hh
  refine⟨F.keep b hlt fun e=>hx (ownX b e),fun hb=>?_⟩;rcases hX b hb with hb | hb
  ·exact hx hb
  ·have:=hb.2;omega
 have alive':∀j,(st.res j).isSome=true→((Eff.app ⟨.tok id,some (id,.tok e k ts xs),rb,true⟩ dst st).res j).isSome=true:=fun j hj=>by
  rw[hres];split
  ·rfl
  ·cases hh:st.res j with
   | none=>rw[hh] at hj;cases hj
   | some r=>rfl
 have oth:∀i r b,st.res i=some r→i≠id→r.blk (B i) (T i)=some b→own≠some b:=fun i r b e hne hb he=>by
  cases hh:st.res id with
  | none=>rw[hnew hh] at he;cases he
  | some q=>
   obtain⟨⟨e',k',ts',xs',rfl⟩,ho⟩:=hold q hh;exact hne (h.apart i r id _ b e hh hb (by rw[ho] at he;exact he))
 have old:∀i r b,st.res i=some r→r.blk (B i) (T i)=some b→b < w.heap.size:=fun i r b e hb=>by
  have hin:=h.inn i r e;cases r with
  | box ty' cells'=>
   obtain⟨h1,vs,h2,h3⟩:=hin;simp only[Res.blk,oq] at hb;rw[← hb];exact h2.lt
  | tok e' k ts xs=>
   obtain⟨vs,h1,_⟩:=hin;exact (ma h1 b hb).2
 have slots:∀t s',lj id (st.slot t)=some s'→SV.Rep w' (Own0 C (Eff.app ⟨.tok id,some (id,.tok e k ts xs),rb,true⟩ dst st) B T') B T' s' (a.tmps.getD t undef)∧∀i∈s'.ids,(st.res i).isSome=true:=fun t s' e=>by
  cases hh:st.slot t with
  | none=>rw[hh] at e;cases e
  | some s0=>
   rw[hh] at e;injection e with e;subst e;exact⟨(a01 (h.slot t s0 hh)).still (S _) fun i hi=>⟨rfl,hT' i (qz i hi).2⟩,fun i hi=>h.live t s0 hh i (qz i hi).1⟩
 refine⟨B,T',y6 h.size hd,put_dfr.trans h.dfr,h.gr.step F fun b _ e=>ownlt b e,fun t s' e=>?_,fun t s' e=>?_,fun i r e=>?_,fun i r e j hj=>?_,fun i r j q b hi hj h1 h2=>?_⟩
 ·cases dst with
  | none=>exact (slots t s' e).1
  | some d=>
   simp only[Eff.app] at e;cases hb:Nat.beq t d with
   | true=>
    rw[hb] at e;obtain rfl:=zF hb;injection e with e;subst e;rw[i7 (by rw[h.size.1];exact (hd _ rfl).1),SV.Rep,hTi]
   | false=>
    rw[hb] at e;rw[gc (Nat.ne_of_beq_eq_false hb)];exact (slots t s' e).1
 ·intro i hi;cases dst with
  | none=>exact alive' i ((slots t s' e).2 i hi)
  | some d=>
   simp only[Eff.app] at e;cases hb:Nat.beq t d with
   | true=>
    rw[hb] at e;injection e with e;subst e;rw[SV.ids,zH] at hi;rw[hres,if_pos hi];rfl
   | false=>rw[hb] at e;exact alive' i ((slots t s' e).2 i hi)
 ·rw[hres] at e;by_cases hi:i=id
  ·rw[if_pos hi] at e;injection e with e;subst e;refine⟨us,?_,PV.RepLL.still (ts:=ts) hs ⟨nr _,fun b cs t fr hx hh ht=>⟨rfl,fun hb=>hx ((hX b hb).imp (fun h=>h) And.left)⟩⟩ fun r hr c hc=>((hok r hr).2 c hc).2,hok,?_,hk,fun b hb=>?_⟩
   ·rw[hi,hTi];exact hy
   ·rw[hi,hTi];exact hn
   ·rw[hi,hTi] at hb;rcases hyb with h1 | h1 | h1
    ·rw[h1] at hb;exact ownlt b hb
    ·obtain⟨b1,h1,h2⟩:=h1;rw[h1] at hb;injection hb with hb;subst hb;exact .inl (nt h.gr.size h2)
    ·rw[h1] at hb;cases hb
  ·rw[if_neg hi] at e;obtain⟨r',hr',rfl⟩:=kil e;have hin:=h.inn i r' hr';cases r' with
   | box ty' cells'=>
    obtain⟨h1,vs,h2,h3⟩:=hin;exact⟨h1,vs,h2.fr F (oth i _ _ hr' hi rfl),(ww h3).still (S _) fun j hj=>⟨rfl,hT' j (mr j hj).2⟩⟩
   | tok e' k' ts' xs'=>
    obtain⟨vs,h1,h2,h3,h4⟩:=hin;refine⟨vs,?_,PV.RepLL.still (ts:=ts') h2 (S _) fun r hr c hc=>((h3 r hr).2 c hc).2,h3,?_⟩
    ·rw[hT' i hi];exact md h1 fun b hb=>F.keep b (ma h1 b hb).2 (oth i _ b hr' hi hb)
    ·rw[hT' i hi];exact h4
 ·rw[hres] at e;by_cases hi:i=id
  ·rw[if_pos hi] at e;injection e with e;subst e;rw[Res.ids] at hj;cases hj
  ·rw[if_neg hi] at e;obtain⟨r',hr',rfl⟩:=kil e;refine alive' j (h.alive i r' hr' j ?_);cases r' with
   | box ty' cells'=>exact (mr j hj).1
   | tok _ _ _ _=>exact hj
 ·rw[hres] at hi hj;have one:∀i r,(if i=id then some (Res.tok e k ts xs) else ik id (st.res i))=some r→r.blk (B i) (T' i)=some b→i≠id→∃r',st.res i=some r'∧r'.blk (B i) (T i)=some b:=fun i r e hb hne=>by
   rw[if_neg hne] at e;obtain⟨r',hr',rfl⟩:=kil e;rw[blkk,hT' i hne] at hb;exact⟨r',hr',hb⟩
  have two:∀i r,(if i=id then some (Res.tok e k ts xs) else ik id (st.res i))=some r→r.blk (B i) (T' i)=some b→i=id→own=some b∨w.heap.size≤b:=fun i r e hb he=>by
   rw[if_pos he] at e;injection e with e;subst e;rw[he,hTi] at hb;have hb':y.v.ownBlock=some b:=hb;rcases hyb with h1 | h1 | h1
   ·rw[h1] at hb';exact .inl hb'
   ·obtain⟨b1,h1,h9⟩:=h1;rw[h1] at hb';injection hb' with hb';subst hb';exact .inr h9
   ·rw[h1] at hb';cases hb'
  by_cases ei:i=id
  ·by_cases ej:j=id
   ·rw[ei,ej]
   ·exfalso
    obtain⟨q',hq,hqb⟩:=one j q hj h2 ej;rcases two i r hi h1 ei with h3 | h3
    ·exact oth j q' b hq ej hqb h3
    ·have:=old j q' b hq hqb;omega
  ·by_cases ej:j=id
   ·exfalso
    obtain⟨q',hq,hqb⟩:=one i r hi h1 ei;rcases two j q hj h2 ej with h3 | h3
    ·exact oth i q' b hq ei hqb h3
    ·have:=old i q' b hq hqb;omega
   ·obtain⟨r',hr',hrb⟩:=one i r hi h1 ei;obtain⟨q',hq,hqb⟩:=one j q hj h2 ej;exact h.apart i r' j q' b hr' hq hrb hqb
theorem a05 (h:InvB C st a w B T) {dst:Option Nat} {e k:Nat} {ts:List Nat} {xs:List (List PV)} {us:List (List Value)} {y:Sv} {rb:List Nat} {own:Option Nat} (hold:∀r,st.res id=some r→(∃e k ts xs,r=.tok e k ts xs)∧own=(T id).v.ownBlock) (hnew:st.res id=none→own=none)
  (hg:w.grownBy w' own) (hy:w'.ownsRow 0 e k y.v y.n us.flatten) (hyb:y.v.ownBlock=own∨y.v.ownBlock=some w.heap.size∨y.v.ownBlock=none) (hs:PV.RepLL w (Own0 C st B T) xs us) (hok:pn k ts xs) (hn:y.n=xs.length) (hk:0 < k) (hd:∀d,dst=some d→C.dk d):
  Inv C (Eff.app ⟨.tok id,some (id,.tok e k ts xs),rb,true⟩ dst st) (a.put dst y.v) w':=by
 have F:Fr (fun b=>own=some b) w w':=afd hg;have ownX:∀b,own=some b→Own0 C st B T b:=fun b hb=>by
  cases hh:st.res id with
  | none=>rw[hnew hh] at hb;cases hb
  | some r=>
   obtain⟨⟨e',k',ts',xs',rfl⟩,ho⟩:=hold r hh;exact .inr ⟨id,_,hh,by rw[ho] at hb;exact hb⟩
 refine a60 h hold hnew F hy (hyb.imp (fun h=>h) (Or.imp (fun h=>⟨_,h,nr _⟩) fun h=>h)) (PV.RepLL.still (ts:=ts) hs ⟨F.size,fun b cs t fr hx hh ht=>?_⟩ fun r hr c hc=>((hok r hr).2 c hc).2) hok hn hk hd;have hlt:b < w.heap.size:=by
  rcases zU b w.heap.size with h | h
  ·exact h
  ·rw[zR h] at hh;cases hh
 refine⟨F.keep b hlt fun e=>hx (ownX b e),fun hb=>?_⟩;rcases hb with hb | hb
 ·exact hx hb
 ·rcases hyb with h1 | h1 | h1
  ·rw[h1] at hb;exact hx (ownX b hb)
  ·rw[h1] at hb;injection hb with hb;omega
  ·rw[h1] at hb;cases hb
end
def em (st:St) (tys:List Nat):Prop:=∀i r,st.res i=some r→r.typ∈tys
def mo (o:Oper):List Nat:=o.op.operands.toList.filterMap fun | .tmp t=>some t | _=>none
def OpE (C:Cx) (tys:List Nat) (o:Oper) (st:St) (e:Eff):Prop:=
 (∀i r,e.rs=some (i,r)→i∈e.rb∧r.typ∈tys)∧
 ∀st1,(∀t∈mo o,st1.slot t=st.slot t)→(∀i∈e.rb,st1.res i=st.res i)→em st1 tys→∀a w,Inv C st1 a w→dj C.P o a w fun v w'=>Inv C (e.app o.dst st1) (a.put o.dst v) w'
def skipE:Eff:=⟨.pv (.raw undef),none,[],false⟩
def a7r (want:Bool):Option SV→Option Bool
 | some (.pv (.raw (.bool c)))=>some (c == want)
 | some (.pv (.raw (.tuple _)))=>some false
 | _=>none
def co (ops:Array Oper) (o:Oper) (st:St):Option Bool:=match o.guard with
 | none=>some true
 | some (g,want)=>match (ops[g]?).bind (·.dst) with
  | some d=>a7r want (st.slot d)
  | none=>none
def SV.isAny:SV→Bool
 | .any=>true
 | _=>false
def Res.noAny:Res→Bool
 | .box _ cs=>cs.all fun c=>!c.isAny
 | _=>true
def CovP (l:List Nat) (o:Oper) (st:St) (rb:List Nat):Prop:=(∀t∈mo o,∀s,st.slot t=some s→s.isAny=false∧∀i∈s.ids,i∈l)∧∀j∈rb,∀r,st.res j=some r→r.noAny=true∧∀i∈r.ids,i∈l
def covL (o:Oper) (st:St) (rb:List Nat):Option (List Nat):=
 bif ((mo o).all fun t=>match st.slot t with
  | some s=>!s.isAny
  | none=>true)&&rb.all fun j=>match st.res j with
  | some r=>r.noAny
  | none=>true
 then some (((mo o).flatMap fun t=>match st.slot t with
  | some s=>s.ids
  | none=>[])++rb.flatMap fun j=>match st.res j with
  | some r=>r.ids
  | none=>[]) else none
theorem a0l {o:Oper} {st:St} {rb l:List Nat} (h:covL o st rb=some l):CovP l o st rb:=by
 unfold covL at h;cases hb:((mo o).all fun t=>match st.slot t with
  | some s=>!s.isAny
  | none=>true)&&rb.all fun j=>match st.res j with
  | some r=>r.noAny
  | none=>true with
 | false=>rw[hb] at h;cases h
 | true=>
  rw[hb] at h;injection h with h;subst h;rw[be,zG,zG] at hb;refine⟨fun t ht s hs=>⟨?_,fun i hi=>zL _ (List.mem_flatMap.2 ⟨t,ht,by rw[hs];exact hi⟩)⟩,fun j hj r hr=>⟨?_,fun i hi=>zV _ (List.mem_flatMap.2 ⟨j,hj,by rw[hr];exact hi⟩)⟩⟩
  ·have:=hb.1 t ht;rw[hs] at this;simpa using this
  ·have:=hb.2 j hj;rw[hr] at this;exact this
def AgC (l:List Nat) (cs cs0:List SV):Prop:=∀(k:Nat) (s:SV),cs[k]?=some s→s.isAny=false→(∀i∈s.ids,i∈l)→cs0[k]?=some s
def AgR (l:List Nat) (r r0:Option Res):Prop:=r=r0∨∃t cs cs0,r=some (.box t cs)∧r0=some (.box t cs0)∧cs.length=cs0.length∧AgC l cs cs0∧AgC l cs0 cs
theorem AgR.symm {l:List Nat} {r r0:Option Res} (h:AgR l r r0):AgR l r0 r:=by
 rcases h with h | ⟨t,cs,cs0,h1,h2,h3,h4,h5⟩
 ·exact .inl h.symm
 ·exact .inr ⟨t,cs0,cs,h2,h1,h3.symm,h5,h4⟩
theorem AgR.trans {l:List Nat} {r r0 r1:Option Res} (h:AgR l r r0) (k:AgR l r0 r1):AgR l r r1:=by
 rcases h with rfl | ⟨t,cs,cs0,h1,h2,h3,h4,h5⟩
 ·exact k
 ·rcases k with rfl | ⟨u,ds,ds0,k1,k2,k3,k4,k5⟩
  ·exact .inr ⟨t,cs,cs0,h1,h2,h3,h4,h5⟩
  ·rw[h2] at k1;injection k1 with k1;injection k1 with e1 e2;subst e1 e2;exact .inr ⟨t,cs,ds0,h1,k2,h3.trans k3,fun k s a b c=>k4 k s (h4 k s a b c) b c,fun k s a b c=>h5 k s (k5 k s a b c) b c⟩
def InsP (C:Cx) (tys:List Nat) (l:List Nat) (o:Oper) (st:St) (e:Eff):Prop:=∀st0,(∀t∈mo o,st0.slot t=st.slot t)→(∀j∈e.rb,AgR l (st.res j) (st0.res j))→OpE C tys o st0 e
def CovI (C:Cx) (tys:List Nat) (l:List Nat) (o:Oper) (st:St) (b:Bool) (e:Eff):Prop:=CovP l o st []∧(b=true→InsP C tys l o st e)
structure Itm where
 k:Nat
 b:Bool
 e:Eff
 lk:Option (List Nat)
def RunL (C:Cx) (tys:List Nat) (ops:Array Oper):List Itm→St→St→Prop
 | [],st,st'=>st=st'
 | x::r,st,st'=>∃o,ops[x.k]?=some o∧co ops o st=some x.b∧(x.b=true→OpE C tys o st x.e)∧(x.b=false→x.e=skipE)∧(∀d,o.dst=some d→C.dk d)∧(∀l,x.lk=some l→CovI C tys l o st x.b x.e)∧RunL C tys ops r (x.e.app o.dst st) st'
section
variable {C:Cx} {tys:List Nat} {ops:Array Oper} {st st':St} {a:Act} {w:World} {e:Eff} {dst d:Option Nat} {o:Oper} {b:Bool} {t i:Nat} {r:Res} {l:List Nat} {x:Itm}
theorem jq (h:em st tys) (he:∀i r,e.rs=some (i,r)→r.typ∈tys):em (e.app dst st) tys:=fun i r hr=>by
 simp only[Eff.app] at hr;cases hs:e.rs with
 | none=>rw[hs] at hr;exact h i r hr
 | some p=>
  obtain⟨j,q⟩:=p;rw[hs] at hr;cases hb:Nat.beq i j with
  | true=>
   simp only[hb,cond_true,oq] at hr;subst hr;exact he j q hs
  | false=>
   simp only[hb,cond_false] at hr;cases hk:e.kt with
   | false=>
    simp only[hk,cond_false] at hr;exact h i r hr
   | true=>
    simp only[hk,cond_true] at hr;cases hh:st.res i with
    | none=>rw[hh] at hr;cases hr
    | some r'=>
     rw[hh] at hr;injection hr with hr;subst hr;have:=h i r' hh;cases r'<;>exact this
theorem gm (h:Inv C st a w) (hw:co ops o st=some b):Region.wanted o (yielded ops a.tmps)=b:=by
 obtain⟨B,T,h⟩:=h;unfold co at hw;unfold Region.wanted;cases hg:o.guard with
 | none=>rw[hg] at hw;injection hw
 | some p=>
  obtain⟨g,want⟩:=p;simp only[hg] at hw ⊢;cases hd:(ops[g]?).bind (·.dst) with
  | none=>rw[hd] at hw;cases hw
  | some d=>
   simp only[hd] at hw;unfold yielded;rw[hd];have hlt:∀v,a.tmps.getD d undef=v→v≠undef→a.tmps[d]?=some v:=fun v e hne=>by
    rcases zU d a.tmps.size with h1 | h1
    ·simp[Array.getD_eq_getD_getElem?,h1] at e;simp[h1,e]
    ·simp[Array.getD_eq_getD_getElem?,h1] at e;exact absurd e.symm hne
   cases hs:st.slot d with
   | none=>rw[hs] at hw;cases hw
   | some s=>
    have hr:=h.slot d s hs;rw[hs] at hw;unfold a7r at hw;split at hw
    ·rename_i c e
     injection e with e;subst e;rw[SV.Rep,PV.Rep] at hr;injection hw with hw;have:=hlt _ hr (by unfold undef;intro e;cases e);simp only[Option.bind_some,this];rw[← hw];cases c<;>cases want<;>rfl
    ·rename_i c e
     injection e with e;subst e;rw[SV.Rep,PV.Rep] at hr;injection hw with hw;subst hw;simp only[Option.bind_some];rcases zU d a.tmps.size with h1 | h1
     ·simp[Array.getD_eq_getD_getElem?,h1] at hr;simp[h1,hr]
     ·simp[h1]
    ·cases hw
theorem r4 (h:Inv C st a w) (hd:∀d,dst=some d→C.dk d):Inv C (skipE.app dst st) (a.put dst undef) w:=by
 obtain⟨B,T,h⟩:=h;exact ow h (Gr.refl w) (s:=.pv (.raw undef)) (by rw[SV.Rep,PV.Rep]) (fun i hi=>by cases (show i∈([]:List Nat) from hi)) hd
theorem z6 {Q:Exit→Act→World→Prop}:∀(L:List Itm) {st:St} {a:Act} {w:World},RunL C tys ops L st st'→em st tys→Inv C st a w→(∀a w,em st' tys→Inv C st' a w→Q .normal a w)→wpOps C.P ops Q (L.map (·.k)) a w
 | [],st,a,w,h,ht,hi,hq=>by
  rw[RunL] at h;subst h;exact hq a w ht hi
 | x::L,st,a,w,h,ht,hi,hq=>by
  rw[RunL] at h;obtain⟨o,ho,hw,h1,h2,hd,_,h3⟩:=h;simp only[List.map_cons,wpOps,ho,gm hi hw];cases hb:x.b with
  | true=>
   obtain⟨h4,h5⟩:=h1 hb;simp only[if_true];refine .inl (fy (h5 st (fun _ _=>rfl) (fun _ _=>rfl) ht a w hi) fun v w' hv=>?_);exact z6 L h3 (jq ht fun i r e=>(h4 i r e).2) hv hq
  | false=>
   have:=h2 hb;rw[this] at h3;simp only[Bool.false_eq_true,if_false];exact z6 L h3 (jq ht fun i r e=>by cases e) (r4 hi hd) hq
def Eff.own (e:Eff):List Nat:=e.rb++(e.s.ids++match e.rs with
 | some (i,r)=>i::r.ids
 | none=>[])
def Itm.free (y x:Itm):Bool:=(match y.e.rs with | some (i,_)=>!x.e.rb.contains i | none=>true)&&(match x.e.rs with | some (i,_)=>!y.e.rb.contains i | none=>true)&&(match y.e.kt,x.e.kt with
 | false,false=>true
 | true,true=>false
 | true,false=>(match y.e.rs,x.lk with
  | some (i,_),some l=>!l.contains i&&!x.e.own.contains i
  | _,_=>false)
 | false,true=>(match x.e.rs,y.lk with
  | some (i,_),some l=>!l.contains i&&!y.e.own.contains i
  | _,_=>false))
theorem fm (hk:e.kt=false) (ht:∀d,dst=some d→t≠d):(e.app dst st).slot t=st.slot t:=by
 have ho:e.old st t=st.slot t:=by
  unfold Eff.old;rw[hk];split<;>rfl
 simp only[Eff.app];cases dst with
 | none=>exact ho
 | some d=>
  simp only[j8 (ht d rfl),cond_false];exact ho
theorem v9 (hr:e.rs=some (i,r)) (hk:e.kt=true) (ht:∀d,dst=some d→t≠d):(e.app dst st).slot t=lj i (st.slot t):=by
 have ho:e.old st t=lj i (st.slot t):=by unfold Eff.old;rw[hr,hk];rfl
 simp only[Eff.app];cases dst with
 | none=>exact ho
 | some d=>
  simp only[j8 (ht d rfl),cond_false];exact ho
theorem j7 (hk:e.kt=false) (hi:∀j r,e.rs=some (j,r)→i≠j):(e.app dst st).res i=st.res i:=by
 simp only[Eff.app];split
 ·rename_i j r hs
  simp only[j8 (hi j r hs),hk,cond_false]
 ·rfl
theorem a4v (hr:e.rs=some (i,r)) (hk:e.kt=true) {j:Nat} (hj:j≠i):(e.app dst st).res j=ik i (st.res j):=by
 simp only[Eff.app,hr,j8 hj,hk,cond_false,cond_true]
theorem x3:∀{cs:List SV} {c:SV} {i:Nat},c∈cs→i∈c.ids→i∈SV.idsL cs
 | d::cs,c,i,h,hi=>by
  rw[SV.idsL];rcases zP.1 h with e | e
  ·exact zL _ (e▸hi)
  ·exact zV _ (x3 e hi)
theorem qy {s:SV} (h:i ∉ s.ids):s.kill i=s:=by
 unfold SV.kill;rw[show s.ids.contains i=false from by simpa using h];rfl
theorem a5w {s:SV} (h:(s.kill i).isAny=false):s.kill i=s:=by
 unfold SV.kill at h ⊢;cases hc:s.ids.contains i with
 | true=>rw[hc] at h;cases h
 | false=>rfl
theorem a6x (h:i ∉ r.ids):r.kill i=r:=by
 cases r with
 | tok e k ts xs=>rfl
 | box ty cs=>
  rw[Res.ids] at h;rw[Res.kill]
  congr 1
  exact (List.map_congr_left (f:=SV.kill i) (g:=id) fun c hc=>qy fun hi=>h (x3 hc hi)).trans (List.map_id _)
theorem OpE.move {st st':St} (h:OpE C tys o st e) (h1:∀t∈mo o,st'.slot t=st.slot t) (h2:∀i∈e.rb,st'.res i=st.res i):OpE C tys o st' e:=
 ⟨h.1,fun st1 k1 k2=>h.2 st1 (fun t ht=>(k1 t ht).trans (h1 t ht)) fun i hi=>(k2 i hi).trans (h2 i hi)⟩
theorem CovP.move {rb:List Nat} {st st':St} (h:CovP l o st rb) (h1:∀t∈mo o,st'.slot t=st.slot t) (h2:∀i∈rb,st'.res i=st.res i):CovP l o st' rb:=
 ⟨fun t ht s hs=>h.1 t ht s ((h1 t ht).symm.trans hs),fun j hj r hr=>h.2 j hj r ((h2 j hj).symm.trans hr)⟩
theorem agc:∀a b:St,(∀t,a.slot t=b.slot t)→(∀i,a.res i=b.res i)→a.tys=b.tys→a=b:=fun a b h k l=>by
 obtain⟨s,r,t⟩:=a;obtain⟨s',r',t'⟩:=b;simp only at h k l;rw[funext h,funext k,l]
theorem tt {d:Nat}:(e.app (some d) st).slot d=some e.s:=by simp only[Eff.app,Nat.beq_refl,cond_true]
theorem a4u (hr:e.rs=some (i,r)):(e.app dst st).res i=some r:=by simp only[Eff.app,hr,Nat.beq_refl,cond_true]
theorem ag0 {f:Eff} {c:Option Nat} (h1:e.kt=false) (h2:f.kt=false) (hd:∀x,d=some x→c≠some x) (hr:∀i r j q,e.rs=some (i,r)→f.rs=some (j,q)→i≠j):e.app d (f.app c st)=f.app c (e.app d st):=by
 have slot:∀t,(e.app d (f.app c st)).slot t=(f.app c (e.app d st)).slot t:=fun t=>by
  by_cases td:d=some t
  ·rw[fm (st:=e.app d st) h2 (fun x hx e=>hd t td (by rw[hx,e]))];subst td;simp only[Eff.app,Nat.beq_refl,cond_true]
  ·rw[fm h1 (fun x hx e=>td (by rw[hx,e]))];by_cases tc:c=some t
   ·subst tc;simp only[Eff.app,Nat.beq_refl,cond_true]
   ·rw[fm h2 (fun x hx e=>tc (by rw[hx,e])),fm h2 (fun x hx e=>tc (by rw[hx,e])),fm h1 (fun x hx e=>td (by rw[hx,e]))]
 have res:∀i,(e.app d (f.app c st)).res i=(f.app c (e.app d st)).res i:=fun i=>by
  by_cases ti:∃r,e.rs=some (i,r)
  ·obtain⟨r,hr1⟩:=ti;rw[j7 (st:=e.app d st) h2 (fun j q hq=>hr i r j q hr1 hq)];simp only[Eff.app,hr1,Nat.beq_refl,cond_true]
  ·rw[j7 h1 (fun j q hq e=>ti ⟨q,by rw[e];exact hq⟩)];by_cases tj:∃r,f.rs=some (i,r)
   ·obtain⟨r,hr1⟩:=tj;simp only[Eff.app,hr1,Nat.beq_refl,cond_true]
   ·rw[j7 h2 (fun j q hq e=>tj ⟨q,by rw[e];exact hq⟩),j7 h2 (fun j q hq e=>tj ⟨q,by rw[e];exact hq⟩),j7 h1 (fun j q hq e=>ti ⟨q,by rw[e];exact hq⟩)]
 exact agc _ _ slot res rfl
theorem a2q {f:Eff} {c:Option Nat} (h1:e.kt=true) (hrs:e.rs=some (i,r)) (h2:f.kt=false) (hd:∀x,d=some x→c≠some x) (hn:i ∉ f.own):e.app d (f.app c st)=f.app c (e.app d st):=by
 have ns:i ∉ f.s.ids:=fun h=>hn (zV _ (zL _ h))
 have nr:∀j q,f.rs=some (j,q)→i≠j∧i ∉ q.ids:=fun j q hq=>by
  unfold Eff.own at hn;rw[hq] at hn;simp only[zJ,zP,not_or] at hn;exact hn.2.2
 have slot:∀t,(e.app d (f.app c st)).slot t=(f.app c (e.app d st)).slot t:=fun t=>by
  by_cases td:d=some t
  ·rw[fm (st:=e.app d st) h2 (fun x hx e=>hd t td (by rw[hx,e]))];subst td;rw[tt,tt]
  ·rw[v9 hrs h1 (fun x hx e=>td (by rw[hx,e]))];by_cases tc:c=some t
   ·subst tc;rw[tt,tt];show some (f.s.kill i)=_;rw[qy ns]
   ·rw[fm h2 (fun x hx e=>tc (by rw[hx,e])),fm h2 (fun x hx e=>tc (by rw[hx,e])),v9 hrs h1 (fun x hx e=>td (by rw[hx,e]))]
 have res:∀j,(e.app d (f.app c st)).res j=(f.app c (e.app d st)).res j:=fun j=>by
  by_cases ji:j=i
  ·subst ji;rw[j7 (st:=e.app d st) h2 (fun k q hq=>(nr k q hq).1),a4u hrs,a4u hrs]
  ·rw[a4v hrs h1 ji];by_cases tj:∃q,f.rs=some (j,q)
   ·obtain⟨q,hq⟩:=tj;rw[a4u hq,a4u hq];show some (q.kill i)=_;rw[a6x (nr j q hq).2]
   ·rw[j7 h2 (fun k q hq e=>tj ⟨q,by rw[e];exact hq⟩),j7 h2 (fun k q hq e=>tj ⟨q,by rw[e];exact hq⟩),a4v hrs h1 ji]
 exact agc _ _ slot res rfl
theorem a6n {want:Bool} {s:Option SV}:a7r want (lj i s)=a7r want s:=by
 cases s with
 | none=>rfl
 | some s=>
  show a7r want (some (s.kill i))=_;unfold SV.kill;cases hc:s.ids.contains i with
  | false=>rfl
  | true=>
   cases s with
   | pv p=>cases (show ([]:List Nat).contains i=true from hc)
   | _=>rfl
theorem a0w (hk:e.kt=true→∃i r,e.rs=some (i,r)) (hd:∀x,d=some x→x ∉ o.looksAt ops):co ops o (e.app d st)=co ops o st:=by
 unfold co;cases hg:o.guard with
 | none=>rfl
 | some p=>
  obtain⟨g,want⟩:=p;simp only;cases hc:(ops[g]?).bind (·.dst) with
  | none=>rfl
  | some c=>
   simp only;have hne:∀x,d=some x→c≠x:=fun x hx e=>hd x hx (by
    unfold Oper.looksAt;refine zV _ ?_;rw[hg];show x∈((ops[g]?).bind (·.dst)).toList;rw[hc,← e];exact zH.2 rfl)
   cases hkt:e.kt with
   | false=>rw[fm hkt hne]
   | true=>
    obtain⟨i,r,hr⟩:=hk hkt;rw[v9 hr hkt hne,a6n]
theorem a6i (h:i ∉ l) (r:Option Res):AgR l (ik i r) r:=by
 cases r with
 | none=>exact .inl rfl
 | some r=>
  cases r with
  | tok e k ts xs=>exact .inl rfl
  | box t cs=>
   refine .inr ⟨t,cs.map (SV.kill i),cs,rfl,rfl,by rw[zB],fun k s a b c=>?_,fun k s a b c=>?_⟩
   ·rw[List.getElem?_map] at a;obtain⟨z,hz,e⟩:=Option.map_eq_some_iff.1 a;rw[hz,← e,a5w (by rw[e];exact b)]
   ·rw[List.getElem?_map,a];show some (s.kill i)=_;rw[qy fun hi=>h (c i hi)]
theorem CovP.agr {st st0:St} {rb:List Nat} (h:CovP l o st rb) {j:Nat} (hj:j∈rb) (k:AgR l (st.res j) (st0.res j)):st0.res j=st.res j:=by
 rcases k with k | ⟨t,cs,cs0,h1,h2,h3,h4,_⟩
 ·exact k.symm
 ·obtain⟨g1,g2⟩:=h.2 j hj _ h1;rw[h1,h2];have:cs0=cs:=List.ext_getElem? fun k=>by
   cases e:cs[k]? with
   | none=>exact List.getElem?_eq_none (h3▸List.getElem?_eq_none_iff.1 e)
   | some s=>
    have hm:=mg e;exact h4 k s e (by simpa using zG.1 g1 s hm) fun i hi=>g2 i (x3 hm hi)
  rw[this]
theorem CovP.cov {st:St} (h:CovP l o st e.rb) (k:b=true→OpE C tys o st e):CovI C tys l o st b e:=
 ⟨⟨h.1,(fun j hj=>by cases hj)⟩,fun hb st0 h1 h2=>(k hb).move h1 fun i hi=>h.agr hi (h2 i hi)⟩
theorem CovI.move {st st':St} (h:CovI C tys l o st b e) (h1:∀t∈mo o,st'.slot t=st.slot t) (h2:∀j∈e.rb,AgR l (st.res j) (st'.res j)):CovI C tys l o st' b e:=
 ⟨h.1.move h1 (fun i hi=>by cases hi),fun hb st0 k1 k2=>h.2 hb st0 (fun t ht=>(k1 t ht).trans (h1 t ht)) fun j hj=>(h2 j hj).trans (k2 j hj)⟩
theorem a23 (h:t∈mo o):t∈o.looksAt ops:=zL _ h
theorem RunL.swap {y:Itm} {L:List Itm} {st st':St} (hf:y.free x=true) (hap:∀p q,ops[y.k]?=some p→ops[x.k]?=some q→p.apart ops q=true) (h:RunL C tys ops (y::x::L) st st'):RunL C tys ops (x::y::L) st st':=by
 simp only[RunL] at h ⊢;obtain⟨p,hp,wp,op1,op2,hdp,cp,q,hq,wq,oq1,oq2,hdq,cq,hL⟩:=h;simp only[Itm.free,be] at hf;obtain⟨⟨ryx,rxy⟩,hkk⟩:=hf;obtain⟨a1,a2,a3⟩:=Oper.apart_spec (hap p q hp hq);have ry:∀i∈x.e.rb,∀j r,y.e.rs=some (j,r)→i≠j:=fun i hi j r hr e=>by
  rw[hr] at ryx;subst e;simp only[Bool.not_eq_true',List.contains_eq_mem,decide_eq_false_iff_not] at ryx;exact ryx hi
 have rx:∀i∈y.e.rb,∀j r,x.e.rs=some (j,r)→i≠j:=fun i hi j r hr e=>by
  rw[hr] at rxy;subst e;simp only[Bool.not_eq_true',List.contains_eq_mem,decide_eq_false_iff_not] at rxy;exact rxy hi
 have hxrb:∀i r,x.e.rs=some (i,r)→i∈x.e.rb:=fun i r e=>by
  cases hb:x.b with
  | true=>exact ((oq1 hb).1 i r e).1
  | false=>rw[oq2 hb] at e;cases e
 have nx:∀t∈mo q,∀d,p.dst=some d→t≠d:=fun t ht d hd e=>a1 d hd (by rw[← e];exact a23 ht)
 have ny:∀t∈mo p,∀d,q.dst=some d→t≠d:=fun t ht d hd e=>a3 d hd (by rw[← e];exact a23 ht)
 -- what is the same at both places
 have key:(y.e.kt=true→∃i r,y.e.rs=some (i,r))∧(x.e.kt=true→∃i r,x.e.rs=some (i,r))∧(∀t∈mo q,(y.e.app p.dst st).slot t=st.slot t)∧((∀i∈x.e.rb,(y.e.app p.dst st).res i=st.res i)∨∃l,x.lk=some l∧∀i∈x.e.rb,AgR l ((y.e.app p.dst st).res i) (st.res i))∧(∀t∈mo p,(x.e.app q.dst st).slot t=st.slot t)∧((∀i∈y.e.rb,(x.e.app q.dst st).res i=st.res i)∨∃l,y.lk=some l∧∀i∈y.e.rb,AgR l (st.res i) ((x.e.app q.dst st).res i))∧x.e.app q.dst (y.e.app p.dst st)=y.e.app p.dst (x.e.app q.dst st):=by
  cases ky:y.e.kt with
  | false=>
   cases kx:x.e.kt with
   | false=>
    exact⟨(fun h=>by cases h),(fun h=>by cases h),fun t ht=>fm ky (nx t ht),.inl fun i hi=>j7 ky fun j r hr=>ry i hi j r hr,fun t ht=>fm kx (ny t ht),.inl fun i hi=>j7 kx fun j r hr=>rx i hi j r hr,(ag0 ky kx a2 fun i r j s hi hj e=>ry j (hxrb j s hj) i r hi e.symm).symm⟩
   | true=>
    simp only[ky,kx] at hkk;split at hkk
    ·rename_i i r l hrs hl
     simp only[be,Bool.not_eq_true',List.contains_eq_mem,decide_eq_false_iff_not] at hkk;obtain⟨hil,hio⟩:=hkk;have hc:=(cp l hl).1;refine⟨(fun h=>by cases h),fun _=>⟨i,r,hrs⟩,fun t ht=>fm ky (nx t ht),.inl fun i hi=>j7 ky fun j r hr=>ry i hi j r hr,fun t ht=>?_,.inr ⟨l,hl,fun j hj=>?_⟩,a2q kx hrs ky (fun z hz hw=>a2 z hw (hz.symm▸rfl)) hio⟩
     ·rw[v9 hrs kx (ny t ht)];cases hs:st.slot t with
      | none=>rfl
      | some s=>show some (s.kill i)=_;rw[qy fun h=>hil ((hc.1 t ht s hs).2 i h)]
     ·rw[a4v hrs kx (rx j hj i r hrs)];exact (a6i hil _).symm
    ·cases hkk
  | true=>
   cases kx:x.e.kt with
   | true=>simp only[ky,kx] at hkk;cases hkk
   | false=>
    simp only[ky,kx] at hkk;split at hkk
    ·rename_i i r l hrs hl
     simp only[be,Bool.not_eq_true',List.contains_eq_mem,decide_eq_false_iff_not] at hkk;obtain⟨hil,hio⟩:=hkk;have hc:=(cq l hl).1;refine⟨fun _=>⟨i,r,hrs⟩,(fun h=>by cases h),fun t ht=>?_,.inr ⟨l,hl,fun j hj=>?_⟩,fun t ht=>fm kx (ny t ht),.inl fun i hi=>j7 kx fun j r hr=>rx i hi j r hr,(a2q ky hrs kx a2 hio).symm⟩
     ·have h1:=hc.1 t ht;rw[v9 hrs ky (nx t ht)] at h1 ⊢;cases hs:st.slot t with
      | none=>rfl
      | some s=>
       rw[hs] at h1;show some (s.kill i)=_;rw[a5w (h1 (s.kill i) rfl).1]
     ·rw[a4v hrs ky (ry j hj i r hrs)];exact a6i hil _
    ·cases hkk
 obtain⟨ky,kx,k1,k2,k3,k4,k5⟩:=key;have k1':∀t∈mo q,st.slot t=(y.e.app p.dst st).slot t:=fun t ht=>(k1 t ht).symm
 refine⟨q,hq,(a0w ky a1).symm.trans wq,fun hb=>?_,oq2,hdq,fun l hl=>?_,p,hp,(a0w kx a3).trans wp,fun hb=>?_,op2,hdp,fun l hl=>?_,?_⟩
 ·rcases k2 with k2 | ⟨l,hl,k2⟩
  ·exact (oq1 hb).move k1' fun i hi=>(k2 i hi).symm
  ·exact (cq l hl).2 hb st k1' k2
 ·refine (cq l hl).move k1' fun j hj=>?_
  rcases k2 with k2 | ⟨l2,hl2,k2⟩
  ·exact .inl (k2 j hj)
  ·rw[hl] at hl2;injection hl2 with hl2;subst hl2;exact k2 j hj
 ·rcases k4 with k4 | ⟨l,hl,k4⟩
  ·exact (op1 hb).move k3 k4
  ·exact (cp l hl).2 hb _ k3 k4
 ·refine (cp l hl).move k3 fun j hj=>?_
  rcases k4 with k4 | ⟨l2,hl2,k4⟩
  ·exact .inl (k4 j hj).symm
  ·rw[hl] at hl2;injection hl2 with hl2;subst hl2;exact k4 j hj
 ·rw[← k5];exact hL
theorem RunL.pull {R:List Itm}:∀{L:List Itm} {st:St},(∀y∈L,y.free x=true∧∀p q,ops[y.k]?=some p→ops[x.k]?=some q→p.apart ops q=true)→RunL C tys ops (L++x::R) st st'→RunL C tys ops (x::(L++R)) st st'
 | [],st,_,h=>h
 | y::L,st,hy,h=>by
  have h':=h;rw[zY,RunL] at h';obtain⟨o,ho,hw,h1,h2,hd,hcv,h3⟩:=h';have h4:=RunL.pull (fun z hz=>hy z (zC _ hz)) h3;have h5:RunL C tys ops (y::x::(L++R)) st st':=by rw[RunL];exact⟨o,ho,hw,h1,h2,hd,hcv,h4⟩
  obtain⟨f1,f2⟩:=hy y (mf ..);exact h5.swap f1 f2
def jt (D:Array (List Nat)):List Itm→Bool
 | []=>true
 | y::L=>(L.all fun x=>(D.getD x.k []).contains y.k||y.free x)&&jt D L
theorem a0e {D:Array (List Nat)}:∀{L l r:List Itm} {x:Itm},jt D L=true→L=l++x::r→∀y∈l,(D.getD x.k []).contains y.k=true∨y.free x=true
 | [],l,r,x,_,e,y,hy=>by cases l<;>cases e
 | z::L,[],r,x,_,e,y,hy=>by cases hy
 | z::L,v::l,r,x,h,e,y,hy=>by
  rw[zY] at e;injection e with e1 e2;subst e1;simp only[jt,be,zG,Bool.or_eq_true] at h;rcases zP.1 hy with e | e
  ·subst e;exact h.1 x (by rw[e2];exact zV _ (mf ..))
  ·exact a0e h.2 e2 y e
theorem sn {D:Array (List Nat)} :∀{l r:List Itm},jt D (l++x::r)=true→jt D (l++r)=true
 | [],r,h=>by simp only[zX,jt,be] at h;exact h.2
 | z::l,r,h=>by
  simp only[zY,jt,be,zG,zJ,zP] at h ⊢;exact⟨fun y hy=>h.1 y (hy.imp id .inr),sn h.2⟩
theorem al3 {Q:Exit→Act→World→Prop} (hB:js ops (bq ops)=true) (hq:∀a w,em st' tys→Inv C st' a w→Q .normal a w):
  ∀(n:Nat) (L:List Itm) (listed:Array Bool) (st:St) (a:Act) (w:World),L.length=n→listed.size=ops.size→(∀k,k < ops.size→(listed.getD k true=false↔k∈L.map (·.k)))→(∀x∈L,x.k < ops.size)→(L.map (·.k)).Pairwise (· < ·)→(∀j,listed.getD j false=true→∀i∈(bq ops).getD j [],listed.getD i false=true)→
   jt (bq ops) L=true→RunL C tys ops L st st'→em st tys→Inv C st a w→wpAny C.P .any ops Q n listed a w:=by
 intro n;have hB':=hB;simp only[js,be,zG,List.mem_range] at hB;have spec:∀j oj,ops[j]?=some oj→(∀e∈oj.after,Region.binds .any e=true→e.on < j)∧(∀i∈(bq ops).getD j [],i < j∧∃e∈oj.after,Region.binds .any e=true∧(e.on=i∨i∈(bq ops).getD e.on []))∧(∀i,i < j→∀oi,ops[i]?=some oi→(∃e∈oj.after,Region.binds .any e=true∧e.on=i)∨oi.apart ops oj=true):=fun j oj hj=>by
  have h1:=hB.2 j (Array.getElem?_eq_some_iff.1 hj).1;simp only[hj,be,zG,List.mem_range,Array.all_eq_true_iff_forall_mem,de,Bool.or_eq_true,Bool.not_eq_true'] at h1;refine⟨fun e he hb=>(h1.1.1 e he).resolve_left (by rw[hb];exact Bool.noConfusion),fun i hi=>?_,fun i hi oi hoi=>?_⟩
  ·obtain⟨h2,h3⟩:=h1.1.2 i hi;obtain⟨e,he,hb⟩:=Array.any_eq_true'.1 h3;simp only[be,Bool.or_eq_true,beq_iff_eq,zE] at hb;exact⟨h2,e,he,hb.1,hb.2⟩
  ·have h2:=h1.2 i hi;simp only[hoi,Bool.or_eq_true] at h2;rcases h2 with h2 | h2
   ·obtain⟨e,he,hb⟩:=Array.any_eq_true'.1 h2;simp only[be,beq_iff_eq] at hb;exact .inl ⟨e,he,hb.1,hb.2⟩
   ·exact .inr h2
 induction n with
 | zero=>
  intro L listed st a w hn hsz hlist hlt hp hcl hf hr ht hi;obtain rfl:=List.length_eq_zero_iff.1 hn;rw[RunL] at hr;subst hr;refine⟨?_,hq a w ht hi⟩;cases hr:Region.ready .any ops listed with
  | nil=>rfl
  | cons j l=>
   have hj:j∈Region.ready .any ops listed:=by rw[hr];exact mf ..
   obtain⟨h1,o,ho,_⟩:=mem_ready.1 hj;have:=(hlist j (Array.getElem?_eq_some_iff.1 ho).1).1 h1;cases this
 | succ n ih=>
  intro L listed st a w hn hsz hlist hlt hp hcl hf hr ht hi;have tr:∀i,i < ops.size→listed.getD i true=true→listed.getD i false=true:=fun i hi h=>by
   have:i < listed.size:=by rw[hsz];exact hi
   simpa [this] using h
  have fl:∀i,listed.getD i true=false→listed.getD i false=true→False:=fun i h1 h2=>by
   rcases zU i listed.size with h' | h'
   ·simp[h'] at h1 h2;rw[h1] at h2;cases h2
   ·simp[zR h'] at h1
  refine⟨fun h0=>?_,fun j hj=>?_⟩
  ·exfalso
   cases L with
   | nil=>simp at hn
   | cons x L=>
    have hx:=hlt x (mf ..);have:x.k∈Region.ready .any ops listed:=mem_ready.2 ⟨(hlist x.k hx).2 (mf ..),_,Array.getElem?_eq_getElem hx,fun e he hb=>by
     have h1:=(spec x.k _ (Array.getElem?_eq_getElem hx)).1 e he hb;refine tr _ om ?_;cases hl:listed.getD e.on true with
     | true=>rfl
     | false=>
      have h2:=(hlist e.on om).1 hl;rw[List.map_cons] at h2 hp;rcases zP.1 h2 with h3 | h3
      ·omega
      ·have:=(List.pairwise_cons.1 hp).1 _ h3;omega⟩
    rw[h0] at this;cases this
  ·obtain⟨hun,oj,hoj,hall⟩:=mem_ready.1 hj;have hjs:=(Array.getElem?_eq_some_iff.1 hoj).1;obtain⟨x,hx,hxk⟩:=List.mem_map.1 ((hlist j hjs).1 hun);obtain⟨l,r,hlr⟩:=List.append_of_mem hx;have hdl:∀i∈(bq ops).getD j [],listed.getD i false=true:=fun i hi=>by
    obtain⟨_,e,he,hb,h2⟩:=(spec j oj hoj).2.1 i hi;rcases h2 with h2 | h2
    ·rw[← h2];exact hall e he hb
    ·exact hcl _ (hall e he hb) i h2
   rw[hlr,zN,List.map_cons] at hp;have hp1:=List.pairwise_append.1 hp;have unl:∀y∈L,listed.getD y.k true=false:=fun y hy=>(hlist y.k (hlt y hy)).2 (List.mem_map.2 ⟨y,hy,rfl⟩)
   have comp:∀y∈l,y.free x=true∧∀p q,ops[y.k]?=some p→ops[x.k]?=some q→p.apart ops q=true:=fun y hy=>by
    have hyL:y∈L:=by rw[hlr];exact zL _ hy
    have hyx:y.k < x.k:=hp1.2.2 y.k (List.mem_map.2 ⟨y,hy,rfl⟩) x.k (mf ..);refine⟨(a0e hf hlr y hy).resolve_left fun hc=>?_,fun p q hp hq=>?_⟩
    ·rw[hxk] at hc;exact fl y.k (unl y hyL) (hdl y.k (zE.1 hc))
    ·rw[hxk] at hq;rcases (spec j q hq).2.2 y.k om p hp with ⟨e,he,hb,h1⟩ | h1
     ·rw[hoj] at hq;injection hq with hq;subst hq;exact (fl y.k (unl y hyL) (by rw[← h1];exact hall e he hb)).elim
     ·exact h1
   rw[hlr] at hr;have h3:=hr.pull comp;rw[RunL] at h3;obtain⟨o,ho,hw,h4,h5,hd,_,h6⟩:=h3;rw[hxk,hoj] at ho;injection ho with ho;subst ho;have hjl:j < listed.size:=by rw[hsz];exact hjs
   have hnd:∀y∈l++r,y.k≠j:=fun y hy e=>by
    rw[← hxk] at e;rcases zJ.1 hy with h7 | h7
    ·have:=hp1.2.2 y.k (List.mem_map.2 ⟨y,h7,rfl⟩) x.k (mf ..);omega
    ·have:=(List.pairwise_cons.1 hp1.2.1).1 y.k (List.mem_map.2 ⟨y,h7,rfl⟩);omega
   have next:=fun (a':Act) (w':World) (ht':em (x.e.app oj.dst st) tys) (hi':Inv C (x.e.app oj.dst st) a' w')=>ih (l++r) (listed.setIfInBounds j true) (x.e.app oj.dst st) a' w' (by
     have:L.length=(l++r).length+1:=by rw[hlr];simp;omega
     omega) (by simpa using hsz) (fun k hk=>by
     rw[j5 hjl,hlist k hk,hlr];simp only[zN,List.map_cons,zJ,zP]
     constructor
     ·rintro ⟨h7 | h7 | h7,h8⟩
      ·exact .inl h7
      ·exact absurd (h7.trans hxk) h8
      ·exact .inr h7
     ·intro h7;refine⟨h7.imp id .inr,fun e=>?_⟩;rw[← zJ,← zN] at h7;obtain⟨y,hy,e2⟩:=List.mem_map.1 h7;exact hnd y hy (e2.trans e)) (fun y hy=>hlt y (by rw[hlr];rcases zJ.1 hy with h7 | h7;exact zL _ h7;exact zV _ (zC _ h7))) (by
     rw[zN];exact List.pairwise_append.2 ⟨hp1.1,(List.pairwise_cons.1 hp1.2.1).2,fun p hp q hq=>hp1.2.2 p hp q (zC _ hq)⟩) (fun i hi2 d hd2=>by
     by_cases hij:i=j
     ·subst hij;exact getD_set_true (hdl d hd2)
     ·rw[getD_set_ne false (Ne.symm hij)] at hi2;exact getD_set_true (hcl i hi2 d hd2)) (sn (by rw[← hlr];exact hf)) h6 ht' hi'
   unfold wpOp;simp only[hoj,gm hi hw];cases hb:x.b with
   | true=>
    obtain⟨h7,h8⟩:=h4 hb;simp only[if_true];exact .inl (fy (h8 st (fun _ _=>rfl) (fun _ _=>rfl) ht a w hi) fun v w' hv=>next _ _ (jq ht fun i r e=>(h7 i r e).2) hv)
   | false=>
    have:=h5 hb;simp only[Bool.false_eq_true,if_false];refine next _ _ (jq ht fun i r e=>by rw[this] at e;cases e) ?_;rw[this];exact r4 hi hd
theorem RunL.keepT:∀{L:List Itm} {st:St},RunL C tys ops L st st'→st'.tys=st.tys
 | [],st,h=>by rw[RunL] at h;rw[h]
 | x::L,st,h=>by
  rw[RunL] at h;obtain⟨o,_,_,_,_,_,_,h⟩:=h;show st'.tys=(x.e.app o.dst st).tys;exact RunL.keepT h
theorem ahf {Q:Exit→Act→World→Prop} {id:Nat} {l:List Oper} {draw:Bool} (L:List Itm) (h:RunL C tys l.toArray L st st') (hk:L.map (·.k)=List.range l.length) (hd:draw=true→(js l.toArray (bq l.toArray)&&jt (bq l.toArray) L)=true) (ht:em st tys) (hi:Inv C st a w) (hq:∀a w,em st' tys→Inv C st' a w→Q .normal a w):(Code.region id l.toArray draw).wp C.P Q a w:=by
 cases draw with
 | false=>
  refine wp_region ?_;have:=z6 L h ht hi hq;rw[hk] at this;simpa using this
 | true=>
  have hb:=hd rfl;simp only[be] at hb;refine wp_region_any C.hm ?_;have hlen:L.length=l.length:=by have:=congrArg List.length hk;simpa using this
  have h0:Inv C st a w.drew:=by
   obtain⟨B,T,h⟩:=hi;exact⟨B,T,h.grow (Gr.refl w).drew⟩
  have mem:∀k,k < l.length↔k∈L.map (·.k):=fun k=>by rw[hk,List.mem_range]
  refine al3 hb.1 hq _ L _ st a _ (by simpa using hlen) (by simp) (fun k hk2=>?_) (fun x hx=>by
   have:=(mem x.k).2 (List.mem_map.2 ⟨x,hx,rfl⟩);simpa using this) (by rw[hk];exact List.pairwise_lt_range) (fun j hj=>?_) hb.2 h ht h0
  ·have hk3:k < l.length:=by simpa using hk2
   simp only[List.size_toArray] at*;rw[← mem];simp[hk3]
  ·exfalso
   rcases zU j l.length with h1 | h1
   ·simp[h1] at hj
   ·simp[h1] at hj
end
inductive Zk where
 | raw (v:Value)
 | nat
 | rows (e k:Nat) (ts:List Nat)
def Zk.val:Zk→Value
 | .raw v=>v
 | _=>.slice none 0 0
def Zk.sv:Zk→SV
 | .raw v=>.pv (.raw v)
 | .nat=>.pv (.nat 0)
 | .rows e k ts=>.nil e k ts
def Zk.pv:Zk→PV
 | .raw v=>.raw v
 | .nat=>.nat 0
 | .rows e k ts=>.rows e k ts []
structure Lay where
 agg:Bool
 zero:List Zk
 flds:List (Nat×Nat×Bool)
 elem:Nat
 esz:Nat
 ets:List Nat
structure LayOk (P:Program) (t:Nat) (l:Lay):Prop where
 agg:∃d,P.underlying t=some d∧d.isRow=l.agg
 size:(P.info? t).map (·.size)=some l.zero.length
 zero:(P.info? t).bind (·.zero)=some (if l.agg then .agg (l.zero.map Zk.val).toArray else (l.zero.map Zk.val).headD undef)
 one:l.agg=false→l.zero.length=1
 cel:∀z∈l.zero,z.val.oneCell'=true
 flds:∀(j off n:Nat) (ag:Bool),l.flds[j]?=some (off,n,ag)→∃(fs:Array Field) (f:Field) (d:TypeDesc),P.underlying t=some (.struct fs)∧fs[j]?=some f∧f.offset=off∧(P.info? f.type).map (·.size)=some n∧P.underlying f.type=some d∧d.isRow=ag∧0 < n∧(ag=false→n=1)∧off+n≤l.zero.length
 flda:l.flds≠[]→∃fs:Array Field,P.underlying t=some (.struct fs)∧fs.size=l.flds.length
 elem:l.esz≠0→P.underlying t=some (.slice l.elem)∧(P.info? l.elem).map (·.size)=some l.esz
def ak7 (P:Program) (t:Nat) (l:Lay):Bool:=match P.underlying t with
 | some (.struct fs)=>(l.agg&&fs.size == l.flds.length)&&(List.range l.flds.length).all fun j=>match l.flds[j]?,fs[j]? with
  | some (off,n,ag),some f=>f.offset == off&&(P.info? f.type).map (·.size) == some n&&(P.underlying f.type).map TypeDesc.isRow == some ag&&decide (0 < n)&&(ag||n == 1)&&decide (off+n≤l.zero.length)
  | _,_=>false
 | _=>l.flds.isEmpty
def ah6 (P:Program) (t:Nat) (l:Lay):Bool:=l.esz == 0||(match P.underlying t with
 | some (.slice e)=>e == l.elem&&(P.info? e).map (·.size) == some l.esz
 | _=>false)
theorem LayOk.of {P:Program} {t:Nat} {l:Lay} (h1:(P.underlying t).map TypeDesc.isRow=some l.agg) (h2:(P.info? t).map (·.size)=some l.zero.length) (h3:(P.info? t).bind (·.zero)=some (if l.agg then .agg (l.zero.map Zk.val).toArray else (l.zero.map Zk.val).headD undef)) (h4:(l.agg||l.zero.length == 1)=true) (h5:ak7 P t l=true) (h6:ah6 P t l=true) (h7:(l.zero.all fun z=>z.val.oneCell')=true):LayOk P t l where
 cel:=by rw[zG] at h7;exact h7
 agg:=by
  cases h:P.underlying t with
  | none=>rw[h] at h1;cases h1
  | some d=>rw[h] at h1;injection h1 with h1;exact⟨d,rfl,h1⟩
 size:=h2
 zero:=h3
 one h:=by rw[h] at h4;simpa using h4
 flds j off n ag e:=by
  unfold ak7 at h5;split at h5
  ·rename_i fs hu
   simp only[be,zG,List.mem_range] at h5;have h:=h5.2 j (gs e).1;rw[e] at h;cases hf:fs[j]? with
   | none=>simp[hf] at h
   | some f=>
    simp only[hf,be,beq_iff_eq,de,Bool.or_eq_true] at h;obtain⟨⟨⟨⟨⟨a1,a2⟩,a3⟩,a4⟩,a5⟩,a6⟩:=h;cases hd:P.underlying f.type with
    | none=>rw[hd] at a3;cases a3
    | some d=>
     rw[hd] at a3;injection a3 with a3;exact⟨fs,f,d,hu,hf,a1,a2,hd,a3,a4,fun h=>a5.resolve_left (by rw[h];exact Bool.noConfusion),a6⟩
  ·rw[List.isEmpty_iff] at h5;rw[h5] at e;simp at e
 flda h:=by
  unfold ak7 at h5;split at h5
  ·rename_i fs hu
   simp only[be,beq_iff_eq] at h5;exact⟨fs,hu,h5.1.2⟩
  ·exact absurd (List.isEmpty_iff.1 h5) h
 elem h:=by
  unfold ah6 at h6;simp only[Bool.or_eq_true,beq_iff_eq] at h6;have h6:=h6.resolve_left h;split at h6
  ·rename_i e hu
   simp only[be,beq_iff_eq] at h6;rw[hu,h6.1];exact⟨rfl,by rw[← h6.1];exact h6.2⟩
  ·cases h6
abbrev Tab:=List (Nat×Lay)
def ie (P:Program) (tab:Tab):Prop:=∀p∈tab,LayOk P p.1 p.2
def Tab.get (tab:Tab) (t:Nat):Option Lay:=match tab with
 | []=>none
 | (u,l)::r=>bif Nat.beq t u then some l else Tab.get r t
theorem Tab.get_ok {P:Program}:∀{tab:Tab} {t:Nat} {l:Lay},ie P tab→tab.get t=some l→LayOk P t l
 | [],t,l,_,e=>by cases e
 | (u,m)::r,t,l,h,e=>by
  rw[Tab.get] at e;cases hb:Nat.beq t u with
  | true=>
   rw[hb] at e;injection e with e;obtain rfl:=zF hb;subst e;exact h (t,m) (mf ..)
  | false=>rw[hb] at e;exact Tab.get_ok (fun p hp=>h p (zC _ hp)) e
def SV.nl:SV→SV
 | .nil e k ts=>.nil e k ts
 | .pv (.nat 0)=>.pv (.nat 0)
 | _=>.emp
def SV.cell:SV→Bool
 | .pv p=>p.cell
 | .emp | .nil .. | .tok _ | .box .. | .ref .. | .fn ..=>true
 | _=>false
def SV.cl:SV→Option (List SV)
 | .agg cs=>bif cs.all SV.cell then some cs else none
 | .pv (.agg ps)=>bif ps.all PV.cell then some (ps.map .pv) else none
 | s=>bif s.cell then some [s] else none
def aha:Value→SV
 | .slice none 0 0=>.emp
 | v=>.pv (.raw v)
def ev (st:St):Operand→Option SV
 | .tmp t=>match st.slot t with
  | some (.pv (.ptr e cs))=>some (.ref e cs)
  | s=>s
 | .const v=>some (aha v)
 | .func f=>some (.pv (.raw (.func (.func f) #[] #[])))
 | .global _=>none
def spl {α:Type}:List α→Nat→List α→List α
 | l,_,[]=>l
 | l,k,c::cs=>spl (l.set k c) (k+1) cs
def spf {α:Type}:List α→Nat→List α→List α
 | x::l,k+1,cs=>x::spf l k cs
 | _::l,0,c::cs=>c::spf l 0 cs
 | l,_,_=>l
theorem a87 {α:Type}:∀(k:Nat) (cs:List α),spl [] k cs=[]
 | _,[]=>rfl
 | k,c::cs=>by rw[spl];exact a87 (k+1) cs
theorem yx {α:Type}:∀(cs l:List α) (x:α) (k:Nat),spl (x::l) (k+1) cs=x::spl l k cs
 | [],l,x,k=>rfl
 | c::cs,l,x,k=>by rw[spl,spl,List.set_cons_succ];exact yx cs (l.set k c) x (k+1)
theorem a8a {α:Type}:∀(l:List α) (k:Nat) (cs:List α),spf l k cs=spl l k cs
 | [],k,cs=>by rw[a87];cases k<;>cases cs<;>rfl
 | x::l,k+1,cs=>by rw[yx,spf,a8a l k cs]
 | x::l,0,[]=>rfl
 | x::l,0,c::cs=>by rw[spl,List.set_cons_zero,yx,spf,a8a l 0 cs]
def a2e {α:Type}:List α→Option (List α)
 | []=>some []
 | x::l=>match a2e l with
  | some r=>some (x::r)
  | none=>none
theorem x6 {α:Type}:∀(l:List α),a2e l=some l
 | []=>rfl
 | x::l=>by rw[a2e,x6 l]
def over (l:List SV) (k:Nat) (cs:List SV):List SV:=bif Nat.beq k 0&&Nat.beq cs.length l.length then cs else spf l k cs
def valE (s:SV) (rb:List Nat):Eff:=⟨s,none,rb++[],false⟩
def a4t (tab:Tab) (t:Nat):SV→SV
 | .emp=>match tab.get t with
  | some ⟨false,[z],_,_,_,_⟩=>z.sv.nl
  | _=>.emp
 | s=>s
def bxo (st:St) (id off:Nat):Option (Nat×List SV):=match Nat.blt off 1000000 with
 | true=>(match st.res id with
  | some (.box ty cs)=>(match Nat.blt ty 1000000 with
   | true=>some (ty,cs)
   | false=>none)
  | _=>none)
 | false=>none
theorem yi {st:St} {id off ty:Nat} {cs:List SV} (h:bxo st id off=some (ty,cs)):st.res id=some (.box ty cs)∧Nat.blt off 1000000=true∧Nat.blt ty 1000000=true:=by
 unfold bxo at h;split at h
 ·rename_i ho
  split at h
  ·rename_i ty' cs' hr
   split at h
   ·rename_i ht
    injection h with h;injection h with h1 h2;subst h1 h2;exact⟨hr,ho,ht⟩
   ·cases h
  ·cases h
 ·cases h
theorem anu {st:St} {id off ty:Nat} {cs:List SV} (h:st.res id=some (.box ty cs)) (ho:Nat.blt off 1000000=true) (ht:Nat.blt ty 1000000=true):bxo st id off=some (ty,cs):=by
 unfold bxo;simp only[ho,h,ht]
def evalOp (tab:Tab) (o:Oper) (st:St):Option Eff:=match o.op with
 | .move x | .assign x=>match ev st x with
  | some .emp=>some (valE (a4t tab o.type .emp) [])
  | some s=>some (valE s [])
  | none=>none
 | .pick c x y=>match ev st c with
  | some (.pv (.raw (.bool true)))=>(match ev st x with
   | some s=>some (valE s [])
   | none=>none)
  | some (.pv (.raw (.bool false)))=>(match ev st y with
   | some s=>some (valE s [])
   | none=>none)
  | _=>none
 | .extract x i=>match ev st x with
  | some (.tup cs)=>(match cs[i]? with
   | some s=>some (valE s [])
   | none=>none)
  | some (.pv (.tup ps))=>(match ps[i]? with
   | some p=>some (valE (.pv p) [])
   | none=>none)
  | _=>none
 | .field t x j=>match tab.get t with
  | some l=>(match l.flds[j]? with
   | some (off,n,false)=>(match ev st x with
    | some (.agg cs)=>(match cs[off]? with
     | some s=>some (valE s [])
     | none=>none)
    | some (.pv (.agg ps))=>(match ps[off]? with
     | some p=>some (valE (.pv p) [])
     | none=>none)
    | _=>none)
   | some (off,n,true)=>(match ev st x with
    | some (.agg cs)=>some (valE (.agg ((cs.drop off).take n)) [])
    | some (.pv (.agg ps))=>some (valE (.pv (.agg ((ps.drop off).take n))) [])
    | _=>none)
   | none=>none)
  | none=>none
 | .fieldAddr t x j=>match tab.get t with
  | some l=>(match l.flds[j]? with
   | some (off,n,_)=>(match ev st x with
    | some (.box id o)=>(match Nat.blt (o+off) 1000000 with
     | true=>some (valE (.box id (o+off)) [])
     | false=>none)
    | some (.elt id o)=>some (valE (.elt id (o+off)) [])
    | some (.ref e cs)=>some (valE (.ref e (cs.drop off)) [])
    | _=>none)
   | none=>none)
  | none=>none
 | .load t x=>match tab.get t with
  | some l=>(match ev st x with
   | some (.box id off)=>(match bxo st id off with
    | some (_,cs)=>(match l.agg with
     | false=>(match cs[off]? with
      | some s=>some (valE s [id])
      | none=>none)
     | true=>(match Nat.beq off 0&&Nat.beq cs.length l.zero.length with
      | true=>some (valE (.agg cs) [id])
      | false=>bif Nat.ble (off+l.zero.length) cs.length then some (valE (.agg ((cs.drop off).take l.zero.length)) [id]) else none))
    | none=>none)
   | some (.ref e cs)=>(match l.agg with
    | false=>(match cs[0]? with
     | some p=>some (valE (.pv p) [])
     | none=>none)
    | true=>(match Nat.beq cs.length l.zero.length with
      | true=>some (valE (.pv (.agg cs)) [])
      | false=>bif Nat.ble l.zero.length cs.length then some (valE (.pv (.agg (cs.take l.zero.length))) []) else none))
   | _=>none)
  | none=>none
 | .alloc t=>match tab.get t,o.dst with
  | some l,some d=>(match st.res d with
   | none=>bif st.tys.contains t&&Nat.blt t 1000000 then some ⟨.box d 0,some (d,.box t (l.zero.map Zk.sv)),[d],false⟩ else none
   | some _=>none)
  | _,_=>none
 | .box t x=>match o.dst with
  | some d=>(match st.res d with
   | none=>(match ev st x with
    | some s=>(match s.cl with
     | some cs=>bif st.tys.contains t&&Nat.blt t 1000000 then some ⟨.box d 0,some (d,.box t cs),d::SV.idsL cs,false⟩ else none
     | none=>none)
    | none=>none)
   | some _=>none)
  | none=>none
 | .build t parts=>match tab.get t with
  | some l=>(match !l.flds.isEmpty with
   | true=>fillS l st (l.zero.map Zk.sv) parts.toList
   | false=>none)
  | none=>none
 | .store t x y=>match tab.get t with
  | some l=>(match ev st x with
   | some (.box id off)=>(match bxo st id off with
    | some (ty,cs)=>(match ev st y with
     | some s=>(match s.cl with
      | some ds=>(match Nat.beq ds.length l.zero.length&&Nat.ble (off+ds.length) cs.length&&ds.all SV.cell&&(o.dst.isNone&&st.tys.contains ty) with
       | true=>(match a2e (over cs off ds) with
        | some es=>some ⟨.any,some (id,.box ty es),id::SV.idsL ds,false⟩
        | none=>none)
       | false=>none)
      | none=>none)
     | none=>none)
    | none=>none)
   | _=>none)
  | none=>none
 | .call c=>match c.callee,c.args[0]?,c.argTypes[0]? with
  | .builtin .len,some x,some t=>(match tab.get t with
   | some l=>bif Nat.beq l.esz 0 then none else (match ev st x with
    | some (.pv (.rows _ _ _ xs))=>some (valE (.pv (.raw (.int .i64 (xs.length:Int)))) [])
    | some (.pv (.nat n))=>some (valE (.pv (.raw (.int .i64 ((a7 n).length:Int)))) [])
    | some .emp=>some (valE (.pv (.raw (.int .i64 0))) [])
    | some (.nil ..)=>some (valE (.pv (.raw (.int .i64 0))) [])
    | some (.tok i)=>(match st.res i with
     | some (.tok _ _ _ xs)=>some (valE (.pv (.raw (.int .i64 (xs.length:Int)))) [i])
     | _=>none)
    | _=>none)
   | none=>none)
  | _,_,_=>none
 | .buildSlice t 0 parts=>match tab.get t,o.dst with
  | some l,some d=>(match st.res d with
   | none=>bif Nat.beq l.esz 0||!st.tys.contains l.elem||!parts.isEmpty then none else some ⟨.tok d,some (d,.tok l.elem l.esz l.ets []),[d],true⟩
   | some _=>none)
  | _,_=>none
 | .nilCheck x=>match ev st x with
  | some (.box id o)=>(match Nat.blt o 1000000 with
   | true=>some (valE (.box id o) [])
   | false=>none)
  | some (.elt id o)=>some (valE (.elt id o) [])
  | some (.ref e cs)=>some (valE (.ref e cs) [])
  | _=>none
 | .unOp .not _ x=>match ev st x with
  | some (.pv (.raw (.bool b)))=>some (valE (.pv (.raw (.bool !b))) [])
  | _=>none
 | _=>none
where
 fillS (l:Lay) (st:St):List SV→List (Nat×Operand)→Option Eff
 | cs,[]=>some (valE (.agg cs) [])
 | cs,(i,x)::r=>match l.flds[i]? with
  | some (off,n,_)=>(match ev st x with
   | some s=>(match s.cl with
    | some ds=>bif Nat.beq ds.length n then (match a2e (over cs off ds) with
     | some es=>fillS l st es r
     | none=>none) else none
    | none=>none)
   | none=>none)
  | none=>none
end Go.Proofs.YtbhbainhmfjpdaaGreatDoor
