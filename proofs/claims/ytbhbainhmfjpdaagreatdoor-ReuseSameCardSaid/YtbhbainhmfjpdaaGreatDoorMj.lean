/- Walks of the search and of what it calls, part 10. -/
import Derived.Test.YtbhbainhmfjpdaaGreatDoorMi
set_option linter.unusedVariables false
set_option linter.unusedSimpArgs false
set_option maxRecDepth 100000
set_option maxHeartbeats 8000000
namespace Go.Proofs.YtbhbainhmfjpdaaGreatDoor
open Go.RowKit
section
variable {P:Program} {f:FuncId}
theorem aod {x z:Nat} (hc:fv P f=true) (h:∀(w:World) (a:Sv),a.Num w (a7 x)→Calls P f #[a.v] w fun e w'=>∃r:Sv,e=.returned r.v∧r.Num w' (a7 z)∧Gr w w'):PCalls P TU f [.nat x] (.nat z):=⟨hc,fun w X us h1 h2 h3=>by
 obtain⟨u,rfl,g⟩:=a44 h3;obtain⟨a,rfl,ha⟩:=qt g;exact (h w a ha).mono fun e w' ⟨r,he,hr,G⟩=>⟨_,he,a5q hr (XOk.gr ⟨h1,h2⟩ G) (zH.2 rfl),G⟩⟩
theorem aoc {x y z:Nat} (hc:fv P f=true) (h:∀(w:World) (a b:Sv),a.Num w (a7 x)→b.Num w (a7 y)→Calls P f #[a.v,b.v] w fun e w'=>∃r:Sv,e=.returned r.v∧r.Num w' (a7 z)∧Gr w w'):PCalls P TU f [.nat x,.nat y] (.nat z):=⟨hc,fun w X us h1 h2 h3=>by
 obtain⟨u,v,rfl,g1,g2⟩:=a2o h3;obtain⟨a,rfl,ha⟩:=qt g1;obtain⟨b,rfl,hb⟩:=qt g2;exact (h w a b ha hb).mono fun e w' ⟨r,he,hr,G⟩=>⟨_,he,a5q hr (XOk.gr ⟨h1,h2⟩ G) (zH.2 rfl),G⟩⟩
end
theorem aow {w:World} {X:Nat→Prop} {p q r:PV} {us:List Value} (h:PV.RepL w X [p,q,r] us):∃u v x,us=[u,v,x]∧p.Rep w X u∧q.Rep w X v∧r.Rep w X x:=by
 rw[PV.RepL] at h;obtain⟨u,us',rfl,h1,h⟩:=h;obtain⟨v,x,rfl,h2,h3⟩:=a2o h;exact⟨u,v,x,rfl,h1,h2,h3⟩
theorem alc {m:Nat} (hm:Sl m):PCalls Tryz.prog TU 54 [.nat m] (.nat (se m)):=aod (by kernel_rfl) fun w a ha=>jw w a m ha (nt hm dx)
theorem agk {a b:Nat} (ha:Sl a) (hb:Sl b):PCalls Tryz.prog TU 53 [.nat a,.nat b] (.nat (a*b)):=aoc (by kernel_rfl) fun w x y hx hy=>by
 have h:=ko w x y _ _ hx hy (nt ha dx) (nt hb dx);rw[vl,vl] at h;exact h
theorem ala {s:Bool} {a b:Nat} (ha:(a7 a).length≤300000) (hb0:0 < b) (hb:(a7 b).length≤300000):PCalls Tryz.prog TU 56 [bP s,.nat a,.nat b] (ratP (quot s a b)):=⟨by kernel_rfl,fun w X us h1 h2 h3=>by
 obtain⟨u,v,x,rfl,g1,g2,g3⟩:=aow h3;obtain rfl:=jy g1;obtain⟨x,rfl,hx⟩:=qt g2;obtain⟨y,rfl,hy⟩:=qt g3;exact (me w s x y a b hx hy ha hb0 hb).mono fun e w' ⟨r,he,hr,G⟩=>⟨_,he,a1b hr (XOk.gr ⟨h1,h2⟩ G) (zH.2 rfl),G⟩⟩
set_option maxRecDepth 20000 in
theorem aoa {x y:Q} (h:x.Sm) (k:y.Sm) (h0:y.num≠0):PCalls Tryz.prog TU 171 [ratP x,ratP y] (.tup [ratP (Q.div x y),iP 0]):=by
 refine pc [35] (by kernel_rfl) Tryz.func171 Y Y (fun D=>?_);have hx:=h.b31;have hy:=k.b31;have e1:se y.den=y.un:=rfl;have e2:se x.den=x.un:=rfl;have hs:(isg y.neg y.num == 0)=false:=by unfold isg;rw[if_neg h0];cases y.neg<;>rfl
 refine pa Y Y (ps (pr Y ?_));refine rc (ig k) Y Y Y Y Y Y Y Y ?_;refine ro Y Y Y (fun hd=>ot Y Y Y (congrArg some hs) hd) Y (rn Y ?_);refine pif Y (fun e=>by cases e) (fun e=>pk ?_);refine pr Y ?_;refine rbe (x.neg != y.neg) Y Y Y Y Y Y (.inr ⟨rfl,rfl⟩) Y ?_;refine rc (alc hy.2) Y Y Y Y Y Y Y Y ?_;refine rc (agk hx.1 (show Sl (se y.den) from nt k.den dx)) Y Y Y Y Y Y Y Y ?_;refine rc (alc hx.2) Y Y Y Y Y Y Y Y ?_;refine rc (agk (show Sl (se x.den) from nt h.den dx) hy.1) Y Y Y Y Y Y Y Y ?_;have l1:(a7 x.un).length≤10000:=h.den;have l2:(a7 y.un).length≤10000:=k.den;refine rc (ala (nt (bh _ _) (by have:=h.num;have:=k.den;have:(a7 (se y.den)).length≤10000:=k.den;omega)) (Nat.mul_pos x.un_pos (Nat.pos_of_ne_zero h0)) (nt (bh _ _) (by have:=k.num;have:(a7 (se x.den)).length≤10000:=h.den;omega))) Y Y Y Y Y Y Y Y (rn (by kernel_rfl) ?_);exact pt (xm Y Y)
structure Q.S (s:Nat) (q:Q):Prop where
 num:(a7 q.num).length≤s
 den:(a7 q.un).length≤s
 ok:q.Ok
theorem Q.S.up {s t:Nat} {q:Q} (h:q.S s) (ht:s≤t):q.S t:=⟨nt h.num ht,nt h.den ht,h.ok⟩
theorem Q.S.sm {s:Nat} {q:Q} (h:q.S s) (ht:s≤10000):q.Sm:=⟨nt h.num ht,nt h.den ht⟩
theorem Q.S.lo {s:Nat} {q:Q} (h:q.S s) (ht:s≤10000):q.Lo:=⟨nt h.num ht,nt h.den ht⟩
theorem Q.S.pos {s:Nat} {q:Q} (h:q.S s):1≤s:=nt (ab2 q.un_pos) h.den
theorem a55 (b:Bool) {n d s:Nat} (hn:(a7 n).length≤s) (hd0:0 < d) (hd:(a7 d).length≤s):(quot b n d).S s:=⟨(vp b hn hd0 hd).num,(vp b hn hd0 hd).den,vo b n hd0⟩
theorem Q.S.canon {s:Nat} {q:Q} (h:q.S s):ci q=q:=l5 h.ok
theorem Q.S.mul {s t:Nat} {x y:Q} (h:x.S s) (k:y.S t):(Q.mul x y).S (s+t):=
 a55 _ (nt (bh _ _) (Nat.add_le_add h.num k.num)) (Nat.mul_pos x.un_pos y.un_pos) (nt (bh _ _) (Nat.add_le_add h.den k.den))
theorem Q.S.div {s t:Nat} {x y:Q} (h:x.S s) (k:y.S t) (h0:y.num≠0):(Q.div x y).S (s+t):=
 a55 _ (nt (bh _ _) (Nat.add_le_add h.num k.den)) (Nat.mul_pos x.un_pos (Nat.pos_of_ne_zero h0)) (nt (bh _ _) (Nat.add_le_add h.den k.num))
theorem Q.S.add {s t:Nat} {x y:Q} (h:x.S s) (k:y.S t):(Q.add x y).S (s+t+1):=by
 have h1:(a7 (x.num*y.un)).length≤s+t:=nt (bh _ _) (Nat.add_le_add h.num k.den);have h2:(a7 (y.num*x.un)).length≤s+t:=nt (bh _ _) (by have:=k.num;have:=h.den;omega);refine a55 _ ?_ (Nat.mul_pos x.un_pos y.un_pos) (nt (bh _ _) (by have:=h.den;have:=k.den;omega));unfold sadd;split
 ·exact du _ _ _ h1 h2
 ·split
  ·exact nt (aq (Nat.sub_le _ _)) om
  ·exact nt (aq (Nat.sub_le _ _)) om
theorem Q.S.neg {s:Nat} {q:Q} (h:q.S s):q.neg'.S s:=a55 (!q.neg) h.num q.un_pos h.den
theorem yz {q:Q} (h1:q.num < B32) (h2:q.un < B32) (h:q.Ok):q.S 1:=⟨b8 (k:=1) (by rw[Nat.pow_one];exact h1),b8 (k:=1) (by rw[Nat.pow_one];exact h2),h⟩
theorem sz_zero:Q.zero.S 1:=yz dx dx dx
theorem sz_one:Q.one.S 1:=yz dx dx dx
theorem er:Q.mone.S 1:=yz dx dx dx
theorem Q.zero_of {q:Q} (h:q.Ok) (h0:q.num=0):q=Q.zero:=by
 obtain⟨n,a,d⟩:=q;obtain⟨h1,h2⟩:=h.pos h0;simp only at h0 h1 h2;rw[h0,h1,h2]
theorem Q.add_ok (x y:Q):(Q.add x y).Ok:=vo _ _ (Nat.mul_pos x.un_pos y.un_pos)
theorem Q.mul_ok (x y:Q):(Q.mul x y).Ok:=vo _ _ (Nat.mul_pos x.un_pos y.un_pos)
theorem ahh:Q.zero.un=1:=rfl
theorem Q.zadd {x:Q} (h:x.Ok):Q.add Q.zero x=x:=by
 have hs:=Q.sg_ok h;unfold Q.add;simp only[ahh,Nat.one_mul,Nat.mul_one,Nat.zero_mul];have e1:Q.zero.sg=false:=rfl;rw[e1,hs];simp only[Bool.false_and];have:sadd false 0 (x.neg&&decide (0 < x.num)) x.num=(x.neg,x.num):=by
  have h2:(x.neg&&decide (0 < x.num))=x.neg:=by rw[← hs];unfold Q.sg;cases x.neg<;>simp
  rw[h2];unfold sadd;cases hn:x.neg with
  | false=>simp
  | true=>
   have:0 < x.num:=by
    rcases Nat.eq_zero_or_pos x.num with h3 | h3
    ·have:=(h.pos h3).1;rw[hn] at this;cases this
    ·exact h3
   simp[this]
 rw[this];exact jl h
theorem a8g (na:Bool) (a:Nat) (nb:Bool) (b:Nat) (ha:a=0→na=false) (hb:b=0→nb=false):sadd na a nb b=sadd nb b na a:=by
 unfold sadd;cases na<;>cases nb<;>simp[Nat.add_comm]
 ·rcases Nat.lt_trichotomy a b with h | h | h
  ·simp[h,Nat.not_lt_of_gt h,Nat.sub_pos_of_lt h]
  ·subst h;simp
  ·simp[h,Nat.not_lt_of_gt h]
 ·rcases Nat.lt_trichotomy a b with h | h | h
  ·simp[h,Nat.not_lt_of_gt h]
  ·subst h;simp
  ·simp[h,Nat.not_lt_of_gt h,Nat.sub_pos_of_lt h]
theorem Q.addc (x y:Q):Q.add x y=Q.add y x:=by
 unfold Q.add;simp only;rw[a8g _ _ _ _ (fun h=>by simp[h]) (fun h=>by simp[h]),Nat.mul_comm x.un]
theorem Q.addz {x:Q} (h:x.Ok):Q.add x Q.zero=x:=by rw[Q.addc,Q.zadd h]
theorem Q.zmul (x:Q):Q.mul Q.zero x=Q.zero:=by
 unfold Q.mul quot;simp
def cfL:List Tm→Int→Q
 | [],_=>Q.zero
 | t::r,v=>if t.1=v then t.2 else cfL r v
abbrev Srt' (l:List Tm):Prop:=l.Pairwise fun a b=>a.1 < b.1
abbrev Nz (l:List Tm):Prop:=∀t∈l,t.2.Ok∧t.2.num≠0
theorem f4:∀{l:List Tm} {v:Int},(∀t∈l,t.1≠v)→cfL l v=Q.zero
 | [],v,_=>rfl
 | t::r,v,h=>by
  rw[cfL,if_neg (h t (mf ..))];exact f4 fun u hu=>h u (zC _ hu)
theorem a41:∀{l:List Tm} {t:Tm},Srt' l→t∈l→cfL l t.1=t.2
 | u::r,t,hs,h=>by
  rw[Srt',List.pairwise_cons] at hs;rw[cfL];rcases zP.1 h with e | e
  ·subst e;rw[if_pos rfl]
  ·rw[if_neg (by have:=hs.1 t e;omega)];exact a41 hs.2 e
theorem a2l:∀{l:List Tm} {v:Int},Nz l→(cfL l v).Ok
 | [],v,_=>(by decide:Q.zero.Ok)
 | t::r,v,h=>by
  rw[cfL];split
  ·exact (h t (mf ..)).1
  ·exact a2l fun u hu=>h u (zC _ hu)
theorem xe:∀{l r:List Tm} {v:Int},(∀t∈l,t.1≠v)→cfL (l++r) v=cfL r v
 | [],r,v,_=>rfl
 | t::l,r,v,h=>by
  rw[zY,cfL,if_neg (h t (mf ..))];exact xe fun u hu=>h u (zC _ hu)
theorem a42:∀{l r:List Tm},Srt' l→Srt' r→Nz l→Nz r→(∀v,cfL l v=cfL r v)→l=r
 | [],[],_,_,_,_,_=>rfl
 | [],u::r,_,_,_,hn,h=>by
  have:=h u.1;rw[cfL,cfL,if_pos rfl] at this;have h1:=(hn u (mf ..)).2;rw[← this] at h1;exact absurd rfl h1
 | t::l,[],_,_,hn,_,h=>by
  have:=h t.1;rw[cfL,cfL,if_pos rfl] at this;have h1:=(hn t (mf ..)).2;rw[this] at h1;exact absurd rfl h1
 | t::l,u::r,hl,hr,hn,hm,h=>by
  rw[Srt',List.pairwise_cons] at hl hr;have ht:=(hn t (mf ..)).2;have hu:=(hm u (mf ..)).2;have e:t.1=u.1:=by
   rcases Int.lt_trichotomy t.1 u.1 with g | g | g
   ·have:=h t.1;rw[cfL,if_pos rfl,f4 (l:=u::r) (fun x hx=>by
     rcases zP.1 hx with e | e
     ·subst e;omega
     ·have:=hr.1 x e;omega)] at this
    rw[this] at ht;exact absurd rfl ht
   ·exact g
   ·have:=h u.1;rw[f4 (l:=t::l) (fun x hx=>by
     rcases zP.1 hx with e | e
     ·subst e;omega
     ·have:=hl.1 x e;omega),cfL,if_pos rfl] at this
    rw[← this] at hu;exact absurd rfl hu
  have e2:t.2=u.2:=by
   have:=h t.1;rw[cfL,if_pos rfl,cfL,if_pos e.symm] at this;exact this
  have e3:t=u:=Prod.ext e e2;subst e3;rw[a42 hl.2 hr.2 (fun x hx=>hn x (zC _ hx)) (fun x hx=>hm x (zC _ hx)) fun v=>by
   by_cases hv:t.1=v
   ·rw[f4 fun x hx=>by have:=hl.1 x hx;omega,f4 fun x hx=>by have:=hr.1 x hx;omega]
   ·have:=h v;rwa [cfL,if_neg hv,cfL,if_neg hv] at this]
def one' (v:Int) (c:Q):List Tm:=if c.num=0 then [] else [(v,c)]
theorem ja (l:List Tm) (v:Int) (c:Q):snoc l v c=l++one' v c:=by unfold snoc one';split<;>simp
theorem qi (l:List Tm) (v:Int) (c:Q) (h:c.Ok):putT l v c=l++one' v c:=by rw[a9k l v h,ja]
theorem a1s {v:Int} {c:Q} (h:c.Ok):Nz (one' v c):=fun t ht=>by
 unfold one' at ht;split at ht
 ·cases ht
 ·rename_i h0;rw[mj ht];exact⟨h,h0⟩
theorem ga {v:Int} {c:Q}:∀t∈one' v c,t.1=v:=fun t ht=>by
 unfold one' at ht;split at ht
 ·cases ht
 ·rw[mj ht]
theorem ah1 {v:Int} {c:Q} (h:c.Ok):cfL (one' v c) v=c:=by
 unfold one';split
 ·rename_i h0;rw[Q.zero_of h h0];rfl
 ·rw[cfL,if_pos rfl]
theorem aal {v:Int} {c:Q}:Srt' (one' v c):=by unfold one';split<;>simp[Srt']
def insT (v:Int) (c:Q):List Tm→List Tm
 | []=>one' v c
 | t::r=>if t.1=v then one' v (Q.add t.2 c)++r else if v < t.1 then one' v c++t::r else t::insT v c r
theorem zt {t:Tm} (h:t.2.num≠0):one' t.1 t.2=[t]:=by unfold one';rw[if_neg h]
theorem oo {v:Int} {c:Q}:∀(l acc:List Tm),Nz l→(∀t∈l,t.1≠v)→fc v c true l acc=acc++l
 | [],acc,_,_=>by simp[fc]
 | t::r,acc,hn,hv=>by
  rw[fc,if_neg (hv t (mf ..)),if_neg (by simp),ja,zt (hn t (mf ..)).2,oo r _ (fun x hx=>hn x (zC _ hx)) fun x hx=>hv x (zC _ hx)];simp
theorem sd {v:Int} {c:Q} (hc:c.Ok):∀(l acc:List Tm),Srt' l→Nz l→fc v c false l acc=acc++insT v c l
 | [],acc,_,_=>by rw[fc,if_neg (by simp),l5 hc,ja,insT]
 | t::r,acc,hs,hn=>by
  rw[Srt',List.pairwise_cons] at hs;have hr:Nz r:=fun x hx=>hn x (zC _ hx)
  rw[fc,insT];by_cases h1:t.1=v
  ·rw[if_pos h1,if_pos h1,ja,oo r _ hr (fun x hx=>by have:=hs.1 x hx;omega),h1,List.append_assoc]
  ·rw[if_neg h1,if_neg h1];by_cases h2:v < t.1
   ·rw[if_pos ⟨rfl,h2⟩,if_pos h2,l5 hc,ja,ja,zt (hn t (mf ..)).2,oo r _ hr (fun x hx=>by have:=hs.1 x hx;omega)];simp
   ·rw[if_neg (fun h=>h2 h.2),if_neg h2,ja,zt (hn t (mf ..)).2,sd hc r _ hs.2 hr];simp
theorem a61 {v:Int} {c:Q}:∀{l:List Tm} {t:Tm},t∈insT v c l→t.1=v∨t∈l
 | [],t,h=>.inl (ga t h)
 | u::r,t,h=>by
  rw[insT] at h;split at h
  ·rcases zJ.1 h with h | h
   ·exact .inl (ga t h)
   ·exact .inr (zC _ h)
  ·split at h
   ·rcases zJ.1 h with h | h
    ·exact .inl (ga t h)
    ·exact .inr h
   ·rcases zP.1 h with e | e
    ·exact .inr (e▸mf ..)
    ·exact (a61 e).imp id (zC _)
theorem a3q {v:Int} {c:Q} (hc:c.Ok):∀{l:List Tm},Nz l→Nz (insT v c l)
 | [],h=>a1s hc
 | u::r,h=>by
  have hr:Nz r:=fun x hx=>h x (zC _ hx)
  rw[insT];split
  ·intro t ht;rcases zJ.1 ht with ht | ht
   ·exact a1s (Q.add_ok ..) t ht
   ·exact hr t ht
  ·split
   ·intro t ht;rcases zJ.1 ht with ht | ht
    ·exact a1s hc t ht
    ·exact h t ht
   ·intro t ht;rcases zP.1 ht with e | e
    ·exact e▸h u (mf ..)
    ·exact a3q hc hr t e
theorem lm {v:Int} {c:Q} {r:List Tm} (h:Srt' r) (hv:∀t∈r,v < t.1):Srt' (one' v c++r):=by
 rw[Srt',List.pairwise_append];exact⟨aal,h,fun a ha b hb=>by rw[ga a ha];exact hv b hb⟩
theorem a09 {v:Int} {c:Q}:∀{l:List Tm},Srt' l→Srt' (insT v c l)
 | [],h=>aal
 | u::r,h=>by
  rw[Srt',List.pairwise_cons] at h;rw[insT];split
  ·rename_i e
   exact lm h.2 fun t ht=>by have:=h.1 t ht;omega
  ·split
   ·rename_i e
    exact lm (List.pairwise_cons.2 h) fun t ht=>by
     rcases zP.1 ht with g | g
     ·rw[g];exact e
     ·have:=h.1 t g;omega
   ·rename_i e1 e2
    rw[Srt',List.pairwise_cons];exact⟨fun t ht=>(a61 ht).elim (fun g=>by omega) fun g=>h.1 t g,a09 h.2⟩
theorem abc {v:Int} {c:Q} (hc:c.Ok):∀{l:List Tm} (w:Int),Srt' l→Nz l→cfL (insT v c l) w=if w=v then Q.add (cfL l v) c else cfL l w
 | [],w,_,_=>by
  rw[insT];split
  ·rename_i e;rw[e,ah1 hc,cfL,Q.zadd hc]
  ·rename_i e;rw[f4 fun t ht=>by rw[ga t ht];omega];rfl
 | u::r,w,hs,hn=>by
  rw[Srt',List.pairwise_cons] at hs;have hr:Nz r:=fun x hx=>hn x (zC _ hx)
  rw[insT];by_cases h1:u.1=v
  ·rw[if_pos h1];by_cases hw:w=v
   ·rw[if_pos hw,cfL,if_pos h1];have:=ah1 (v:=v) (Q.add_ok u.2 c);unfold one' at this ⊢;split
    ·rename_i h0
     rw[zX,f4 fun t ht=>by have:=hs.1 t ht;omega,Q.zero_of (Q.add_ok ..) h0]
    ·rw[hw,zY,cfL,if_pos rfl]
   ·rw[if_neg hw,xe fun t ht=>by rw[ga t ht];omega,cfL,if_neg om]
  ·rw[if_neg h1];by_cases h2:v < u.1
   ·rw[if_pos h2];by_cases hw:w=v
    ·rw[if_pos hw];have h3:cfL (u::r) v=Q.zero:=f4 fun t ht=>by
      rcases zP.1 ht with g | g
      ·rw[g];exact h1
      ·have:=hs.1 t g;omega
     rw[h3,Q.zadd hc];unfold one';split
     ·rename_i h0
      rw[zX,hw,h3,Q.zero_of hc h0]
     ·rw[zY,cfL,if_pos hw.symm]
    ·rw[if_neg hw,xe fun t ht=>by rw[ga t ht];omega]
   ·rw[if_neg h2,cfL];by_cases h3:u.1=w
    ·rw[if_pos h3,if_neg om,cfL,if_pos h3]
    ·rw[if_neg h3,abc hc w hs.2 hr,cfL,if_neg h1,cfL,if_neg h3]
theorem a0s:∀(y acc:List Tm),Srt' y→Nz y→Srt' acc→Nz acc→Srt' (addT acc y)∧Nz (addT acc y)∧∀w,cfL (addT acc y) w=Q.add (cfL acc w) (cfL y w)
 | [],acc,_,_,hs,hn=>⟨hs,hn,fun w=>by rw[addT,cfL,Q.addz (a2l hn)]⟩
 | t::y,acc,hy,hyn,hs,hn=>by
  rw[Srt',List.pairwise_cons] at hy;have ht:=hyn t (mf ..);have e:kh acc t.1 t.2=insT t.1 t.2 acc:=by rw[kh,sd ht.1 acc [] hs hn];rfl
  obtain⟨h1,h2,h3⟩:=a0s y (insT t.1 t.2 acc) hy.2 (fun x hx=>hyn x (zC _ hx)) (a09 hs) (a3q ht.1 hn);rw[addT,e];refine⟨h1,h2,fun w=>?_⟩;rw[h3,abc ht.1 w hs hn,cfL];by_cases hw:w=t.1
  ·have hz:cfL y w=Q.zero:=f4 fun x hx=>by have:=hy.1 x hx;omega
   rw[if_pos hw,if_pos hw.symm,hz,Q.addz (Q.add_ok ..),hw]
  ·rw[if_neg hw,if_neg om]
theorem pu {c:Q}:∀(y acc:List Tm),Srt' y→∃r,eb c acc y=acc++r∧Srt' r∧Nz r∧(∀t∈r,∃u∈y,u.1=t.1)∧∀w,cfL r w=Q.mul (cfL y w) c
 | [],acc,_=>⟨[],by simp[eb],by simp[Srt'],(fun t h=>by cases h),(fun t h=>by cases h),fun w=>by rw[cfL,Q.zmul]⟩
 | t::y,acc,hy=>by
  rw[Srt',List.pairwise_cons] at hy;obtain⟨r,h1,h2,h3,h4,h5⟩:=pu (c:=c) y (snoc acc t.1 (Q.mul t.2 c)) hy.2;have hv:∀x∈r,t.1 < x.1:=fun x hx=>by obtain⟨u,hu,e⟩:=h4 x hx;have:=hy.1 u hu;omega
  refine⟨one' t.1 (Q.mul t.2 c)++r,by rw[eb,h1,ja,List.append_assoc],lm h2 hv,fun x hx=>?_,fun x hx=>?_,fun w=>?_⟩
  ·rcases zJ.1 hx with e | e
   ·exact a1s (Q.mul_ok ..) x e
   ·exact h3 x e
  ·rcases zJ.1 hx with e | e
   ·exact⟨t,mf ..,(ga x e).symm⟩
   ·obtain⟨u,hu,e⟩:=h4 x e;exact⟨u,zC _ hu,e⟩
  ·rw[cfL];by_cases hw:t.1=w
   ·rw[if_pos hw];unfold one';split
    ·rename_i h0
     rw[zX,f4 fun x hx=>by have:=hv x hx;omega,Q.zero_of (Q.mul_ok ..) h0]
    ·rw[zY,cfL,if_pos hw]
   ·rw[if_neg hw,xe fun x hx=>by rw[ga x hx];exact hw,h5]
theorem ajk {c:Q}:∀(n:Nat) (la lb acc:List Tm),la.length+lb.length≤n→Srt' la→Srt' lb→Nz la→∃r,mrgT c n la lb acc=acc++r∧Srt' r∧Nz r∧(∀t∈r,(∃u∈la,u.1=t.1)∨∃u∈lb,u.1=t.1)∧∀w,cfL r w=Q.add (cfL la w) (Q.mul (cfL lb w) c):=by
 have join:∀(v:Int) (q:Q) (r:List Tm) (F:Int→Q),q.Ok→Srt' r→Nz r→(∀x∈r,v < x.1)→(∀w,w≠v→cfL r w=F w)→F v=q→Srt' (one' v q++r)∧Nz (one' v q++r)∧∀w,cfL (one' v q++r) w=F w:=fun v q r F hq h1 h2 h3 h4 h5=>by
  refine⟨lm h1 h3,fun x hx=>?_,fun w=>?_⟩
  ·rcases zJ.1 hx with e | e
   ·exact a1s hq x e
   ·exact h2 x e
  ·by_cases hw:w=v
   ·subst hw;unfold one';split
    ·rename_i h0
     rw[zX,f4 fun x hx=>by have:=h3 x hx;omega,h5,Q.zero_of hq h0]
    ·rw[zY,cfL,if_pos rfl,h5]
   ·rw[xe fun x hx=>by rw[ga x hx];omega,h4 w hw]
 intro n
 induction n with
 | zero=>
  intro la lb acc hn _ _ _;obtain rfl:=List.length_eq_zero_iff.1 (show la.length=0 by omega);obtain rfl:=List.length_eq_zero_iff.1 (show lb.length=0 by omega);exact⟨[],by simp[mrgT],by simp[Srt'],(fun t h=>by cases h),(fun t h=>by cases h),fun w=>by rw[cfL,Q.zmul,Q.zadd dx]⟩
 | succ n ih=>
  intro la lb acc hn ha hb hz
  match la,lb with
  | [],[]=>exact⟨[],by simp[mrgT],by simp[Srt'],(fun t h=>by cases h),(fun t h=>by cases h),fun w=>by rw[cfL,Q.zmul,Q.zadd dx]⟩
  | s::la,[]=>
   have ha':=List.pairwise_cons.1 ha;have hs:=hz s (mf ..);obtain⟨r,h1,h2,h3,h4,h5⟩:=ih la [] (putT acc s.1 s.2) (by simp only[zW,List.length_nil] at hn ⊢;omega) ha'.2 hb fun x hx=>hz x (zC _ hx)
   have hv:∀x∈r,s.1 < x.1:=fun x hx=>by
    rcases h4 x hx with ⟨u,hu,e⟩ | ⟨u,hu,e⟩
    ·have:=ha'.1 u hu;omega
    ·cases hu
   obtain⟨j1,j2,j3⟩:=join s.1 s.2 r (fun w=>Q.add (cfL (s::la) w) (Q.mul (cfL [] w) c)) hs.1 h2 h3 hv (fun w hw=>by show _=Q.add (cfL (s::la) w) _;rw[h5,cfL.eq_2 _ s,if_neg om]) (by show Q.add (cfL (s::la) s.1) (Q.mul Q.zero c)=_;rw[cfL.eq_2 _ s,if_pos rfl,Q.zmul,Q.addz hs.1]);refine⟨one' s.1 s.2++r,by rw[mrgT,h1,qi _ _ _ hs.1,List.append_assoc],j1,j2,fun x hx=>?_,j3⟩;rcases zJ.1 hx with e | e
   ·exact .inl ⟨s,mf ..,(ga x e).symm⟩
   ·exact (h4 x e).imp (fun ⟨u,hu,e⟩=>⟨u,zC _ hu,e⟩) id
  | [],t::lb=>
   have hb':=List.pairwise_cons.1 hb;obtain⟨r,h1,h2,h3,h4,h5⟩:=ih [] lb (putT acc t.1 (Q.mul t.2 c)) (by simp only[zW,List.length_nil] at hn ⊢;omega) ha hb'.2 hz;have hv:∀x∈r,t.1 < x.1:=fun x hx=>by
    rcases h4 x hx with ⟨u,hu,e⟩ | ⟨u,hu,e⟩
    ·cases hu
    ·have:=hb'.1 u hu;omega
   obtain⟨j1,j2,j3⟩:=join t.1 (Q.mul t.2 c) r (fun w=>Q.add (cfL [] w) (Q.mul (cfL (t::lb) w) c)) (Q.mul_ok ..) h2 h3 hv (fun w hw=>by show _=Q.add _ (Q.mul (cfL (t::lb) w) c);rw[h5,cfL.eq_2 _ t,if_neg om]) (by show Q.add Q.zero (Q.mul (cfL (t::lb) t.1) c)=_;rw[cfL.eq_2 _ t,if_pos rfl,Q.zadd (Q.mul_ok ..)]);refine⟨one' t.1 (Q.mul t.2 c)++r,by rw[mrgT,h1,qi _ _ _ (Q.mul_ok ..),List.append_assoc],j1,j2,fun x hx=>?_,j3⟩;rcases zJ.1 hx with e | e
   ·exact .inr ⟨t,mf ..,(ga x e).symm⟩
   ·exact (h4 x e).imp id fun ⟨u,hu,e⟩=>⟨u,zC _ hu,e⟩
  | s::la,t::lb=>
   have ha':=List.pairwise_cons.1 ha;have hb':=List.pairwise_cons.1 hb;have hs:=hz s (mf ..);have hz':Nz la:=fun x hx=>hz x (zC _ hx)
   rw[mrgT];by_cases g1:s.1 < t.1
   ·rw[if_pos g1];obtain⟨r,h1,h2,h3,h4,h5⟩:=ih la (t::lb) (putT acc s.1 s.2) (by simp only[zW] at hn ⊢;omega) ha'.2 hb hz';have hv:∀x∈r,s.1 < x.1:=fun x hx=>by
     rcases h4 x hx with ⟨u,hu,e⟩ | ⟨u,hu,e⟩
     ·have:=ha'.1 u hu;omega
     ·rcases zP.1 hu with e2 | e2
      ·subst e2;omega
      ·have:=hb'.1 u e2;omega
    have hz0:cfL (t::lb) s.1=Q.zero:=f4 fun x hx=>by
     rcases zP.1 hx with e2 | e2
     ·subst e2;omega
     ·have:=hb'.1 x e2;omega
    obtain⟨j1,j2,j3⟩:=join s.1 s.2 r (fun w=>Q.add (cfL (s::la) w) (Q.mul (cfL (t::lb) w) c)) hs.1 h2 h3 hv (fun w hw=>by show _=Q.add (cfL (s::la) w) _;rw[h5,cfL.eq_2 _ s,if_neg om]) (by show Q.add (cfL (s::la) s.1) (Q.mul (cfL (t::lb) s.1) c)=_;rw[hz0,cfL.eq_2 _ s,if_pos rfl,Q.zmul,Q.addz hs.1]);refine⟨one' s.1 s.2++r,by rw[h1,qi _ _ _ hs.1,List.append_assoc],j1,j2,fun x hx=>?_,j3⟩;rcases zJ.1 hx with e | e
    ·exact .inl ⟨s,mf ..,(ga x e).symm⟩
    ·exact (h4 x e).imp (fun ⟨u,hu,e⟩=>⟨u,zC _ hu,e⟩) id
   ·rw[if_neg g1];by_cases g2:t.1 < s.1
    ·rw[if_pos g2];obtain⟨r,h1,h2,h3,h4,h5⟩:=ih (s::la) lb (putT acc t.1 (Q.mul t.2 c)) (by simp only[zW] at hn ⊢;omega) ha hb'.2 hz;have hv:∀x∈r,t.1 < x.1:=fun x hx=>by
      rcases h4 x hx with ⟨u,hu,e⟩ | ⟨u,hu,e⟩
      ·rcases zP.1 hu with e2 | e2
       ·subst e2;omega
       ·have:=ha'.1 u e2;omega
      ·have:=hb'.1 u hu;omega
     have hz0:cfL (s::la) t.1=Q.zero:=f4 fun x hx=>by
      rcases zP.1 hx with e2 | e2
      ·subst e2;omega
      ·have:=ha'.1 x e2;omega
     obtain⟨j1,j2,j3⟩:=join t.1 (Q.mul t.2 c) r (fun w=>Q.add (cfL (s::la) w) (Q.mul (cfL (t::lb) w) c)) (Q.mul_ok ..) h2 h3 hv (fun w hw=>by show _=Q.add _ (Q.mul (cfL (t::lb) w) c);rw[h5,cfL.eq_2 _ t,if_neg om]) (by show Q.add (cfL (s::la) t.1) (Q.mul (cfL (t::lb) t.1) c)=_;rw[hz0,cfL.eq_2 _ t,if_pos rfl,Q.zadd (Q.mul_ok ..)]);refine⟨one' t.1 (Q.mul t.2 c)++r,by rw[h1,qi _ _ _ (Q.mul_ok ..),List.append_assoc],j1,j2,fun x hx=>?_,j3⟩;rcases zJ.1 hx with e | e
     ·exact .inr ⟨t,mf ..,(ga x e).symm⟩
     ·exact (h4 x e).imp id fun ⟨u,hu,e⟩=>⟨u,zC _ hu,e⟩
    ·rw[if_neg g2];have e0:t.1=s.1:=by omega
     obtain⟨r,h1,h2,h3,h4,h5⟩:=ih la lb (putT acc s.1 (Q.add s.2 (Q.mul t.2 c))) (by simp only[zW] at hn ⊢;omega) ha'.2 hb'.2 hz';have hv:∀x∈r,s.1 < x.1:=fun x hx=>by
      rcases h4 x hx with ⟨u,hu,e⟩ | ⟨u,hu,e⟩
      ·have:=ha'.1 u hu;omega
      ·have:=hb'.1 u hu;omega
     obtain⟨j1,j2,j3⟩:=join s.1 (Q.add s.2 (Q.mul t.2 c)) r (fun w=>Q.add (cfL (s::la) w) (Q.mul (cfL (t::lb) w) c)) (Q.add_ok ..) h2 h3 hv (fun w hw=>by show _=Q.add (cfL (s::la) w) (Q.mul (cfL (t::lb) w) c);rw[h5,cfL.eq_2 _ s,if_neg om,cfL.eq_2 _ t,if_neg om]) (by show Q.add (cfL (s::la) s.1) (Q.mul (cfL (t::lb) s.1) c)=_;rw[cfL.eq_2 _ s,if_pos rfl,cfL.eq_2 _ t,if_pos e0]);refine⟨one' s.1 (Q.add s.2 (Q.mul t.2 c))++r,by rw[h1,qi _ _ _ (Q.add_ok ..),List.append_assoc],j1,j2,fun x hx=>?_,j3⟩;rcases zJ.1 hx with e | e
     ·exact .inl ⟨s,mf ..,(ga x e).symm⟩
     ·exact (h4 x e).imp (fun ⟨u,hu,e⟩=>⟨u,zC _ hu,e⟩) fun ⟨u,hu,e⟩=>⟨u,zC _ hu,e⟩
structure Fm.Cn (f:Fm):Prop where
 srt:Srt' f.terms
 nz:Nz f.terms
 const:f.const.Ok
theorem Fm.Cn.addR {f g:Fm} (h:f.Cn) (k:g.Cn):(Fm.addR f g).Cn:=by
 obtain⟨h1,h2,_⟩:=a0s g.terms f.terms k.srt k.nz h.srt h.nz;exact⟨h1,h2,Q.add_ok ..⟩
theorem Fm.Cn.scaleR {f:Fm} {q:Q} (h:f.Cn):(Fm.scaleR f q).Cn:=by
 obtain⟨r,h1,h2,h3,_⟩:=pu (c:=q) f.terms [] h.srt;rw[zX] at h1;exact⟨by show Srt' (eb q [] f.terms);rw[h1];exact h2,by show Nz (eb q [] f.terms);rw[h1];exact h3,Q.mul_ok ..⟩
theorem Fm.Cn.scale_cf {f:Fm} {q:Q} (h:f.Cn) (w:Int):cfL (Fm.scaleR f q).terms w=Q.mul (cfL f.terms w) q:=by
 obtain⟨r,h1,_,_,_,h5⟩:=pu (c:=q) f.terms [] h.srt;rw[zX] at h1;show cfL (eb q [] f.terms) w=_;rw[h1];exact h5 w
theorem Fm.Cn.add_cf {f g:Fm} (h:f.Cn) (k:g.Cn) (w:Int):cfL (Fm.addR f g).terms w=Q.add (cfL f.terms w) (cfL g.terms w):=(a0s g.terms f.terms k.srt k.nz h.srt h.nz).2.2 w
theorem aav {f g:Fm} {q:Q} (h:f.Cn) (k:g.Cn):mrg f g q=Fm.addR f (Fm.scaleR g q):=by
 obtain⟨r,h1,h2,h3,_,h5⟩:=ajk (c:=q) (f.terms.length+g.terms.length) f.terms g.terms [] (nr _) h.srt k.srt h.nz;rw[zX] at h1;have k2:=k.scaleR (q:=q);have hc:=h.addR k2;have e:r=(Fm.addR f (Fm.scaleR g q)).terms:=a42 h2 hc.srt h3 hc.nz fun v=>by rw[h5,h.add_cf k2,k.scale_cf]
 show Fm.mk _ _=_;rw[h1,e];rfl
structure Fm.S (s l:Nat) (f:Fm):Prop where
 cn:f.Cn
 each:∀t∈f.terms,t.2.S s
 const:f.const.S s
 len:f.terms.length≤l
theorem Fm.S.up {s l t m:Nat} {f:Fm} (h:f.S s l) (hs:s≤t) (hl:l≤m):f.S t m:=⟨h.cn,fun x hx=>(h.each x hx).up hs,h.const.up hs,nt h.len hl⟩
theorem cn_zero:Fm.zero.Cn:=⟨by simp[Srt'],(fun t h=>by cases h),by decide⟩
theorem fm_zero_S:Fm.zero.S 1 0:=⟨cn_zero,fun t h=>(by cases h),sz_zero,nr _⟩
theorem akh:∀{l:List Tm} {s:Nat} {v:Int},(∀t∈l,t.2.S s)→1≤s→(cfL l v).S s
 | [],s,v,_,h=>sz_zero.up h
 | t::r,s,v,h,h1=>by
  rw[cfL];split
  ·exact h t (mf ..)
  ·exact akh (fun u hu=>h u (zC _ hu)) h1
theorem ahe {s t:Nat} {x y:List Tm} (hx:Srt' x) (hxn:Nz x) (hy:Srt' y) (hyn:Nz y) (h:∀e∈x,e.2.S s) (k:∀e∈y,e.2.S t) (h1:1≤s) (k1:1≤t):∀e∈addT x y,e.2.S (s+t+1):=fun e he=>by
 obtain⟨g1,g2,g3⟩:=a0s y x hy hyn hx hxn;rw[← a41 g1 he,g3];exact (akh h h1).add (akh k k1)
theorem Fm.S.addR {s l t m:Nat} {f g:Fm} (h:f.S s l) (k:g.S t m):(Fm.addR f g).S (s+t+1) (l+m):=
 ⟨h.cn.addR k.cn,ahe h.cn.srt h.cn.nz k.cn.srt k.cn.nz h.each k.each h.const.pos k.const.pos,h.const.add k.const,nt (ut ..) (Nat.add_le_add h.len k.len)⟩
theorem Fm.S.scaleR {s l t:Nat} {f:Fm} {q:Q} (h:f.S s l) (k:q.S t):(Fm.scaleR f q).S (s+t) l:=
 ⟨h.cn.scaleR,ru (P:=fun x=>x.S (s+t)) f.terms [] (fun x hx=>by cases hx) fun x hx=>(h.each x hx).mul k,h.const.mul k,nt (rq ..) (by simpa using h.len)⟩
theorem Fm.S.lo {s l:Nat} {f:Fm} (h:f.S s l) (hs:s≤10000) (hl:l≤400):f.Lo:=⟨fun t ht=>(h.each t ht).lo hs,h.const.lo hs,nt h.len hl⟩
theorem Res.In.move {lo:Nat→Prop} {w w':World} {X X':Nat→Prop} {B B':Nat→Nat} {T T':Nat→Sv} {i:Nat} {r:Res} (h:r.In lo w X B T i) (S:∀ts,Still w w' X X' ts) (hk:∀b,r.blk (B i) (T i)=some b→w'.heap[b]?=w.heap[b]?) (hi:B' i=B i∧T' i=T i) (hs:∀j∈r.ids,B' j=B j∧T' j=T j):r.In lo w' X' B' T' i:=by
 cases r with
 | box ty cells=>
  obtain⟨h1,us,h2,h3⟩:=h;exact⟨by rw[hi.1];exact h1,us,by rw[hi.1];exact h2.keep (hk _ rfl),h3.still (S _) hs⟩
 | tok e k ts xs=>
  obtain⟨us,h1,h2,h3,h4,h5,h6⟩:=h;exact⟨us,by rw[hi.2];exact md h1 hk,PV.RepLL.still (ts:=ts) h2 (S _) fun r hr c hc=>((h3 r hr).2 c hc).2,h3,by rw[hi.2];exact h4,h5,by rw[hi.2];exact h6⟩
section
variable {C:Cx} {st:St} {a:Act} {w w':World} {B B':Nat→Nat} {T T':Nat→Sv}
theorem ak0 (h:InvB C st a w B T) {dst:Option Nat} {id:Nat} {r':Res} {s:SV} {v:Value} {rb:List Nat} {kt:Bool} (hB:∀i,i≠id→B' i=B i∧T' i=T i) (hk:kt=false→B' id=B id∧T' id=T id) (hF:C.F id→B' id=B id)
  (F:Fr (fun b=>∃r,st.res id=some r∧r.blk (B id) (T id)=some b) w w') (hnew:∀b,r'.blk (B' id) (T' id)=some b→(∃r,st.res id=some r∧r.blk (B id) (T id)=some b)∨w.heap.size≤b)
  (hin:r'.In (fun _=>True) w' (fun b=>(Own0 C st B T b∧¬∃r,st.res id=some r∧r.blk (B id) (T id)=some b)∨r'.blk (B' id) (T' id)=some b) B' T' id) (hids:r'.ids=[]) (hs:s.Rep w' (fun b=>(Own0 C st B T b∧¬∃r,st.res id=some r∧r.blk (B id) (T id)=some b)∨r'.blk (B' id) (T' id)=some b) B' T' v) (hsi:∀i∈s.ids,i=id) (hd:∀d,dst=some d→C.dk d):
  Inv C (Eff.app ⟨s,some (id,r'),rb,kt⟩ dst st) (a.put dst v) w':=by
 have ownX:∀b,(∃r,st.res id=some r∧r.blk (B id) (T id)=some b)→Own0 C st B T b:=fun b ⟨r,h1,h2⟩=>.inr ⟨id,r,h1,h2⟩
 have olds:∀t s',(Eff.old ⟨s,some (id,r'),rb,kt⟩ st t)=some s'→∃s0,st.slot t=some s0∧(∀X w v,SV.Rep w X B T s0 v→SV.Rep w X B T s' v)∧∀i∈s'.ids,i∈s0.ids∧B' i=B i∧T' i=T i:=fun t s' e=>by
  cases kt with
  | false=>exact⟨s',e,fun _ _ _ h=>h,fun i hi=>⟨hi,by
    by_cases hid:i=id
    ·rw[hid];exact hk rfl
    ·exact hB i hid⟩⟩
  | true=>
   cases hh:st.slot t with
   | none=>rw[show Eff.old ⟨s,some (id,r'),rb,true⟩ st t=lj id (st.slot t) from rfl,hh] at e;cases e
   | some s0=>
    rw[show Eff.old ⟨s,some (id,r'),rb,true⟩ st t=lj id (st.slot t) from rfl,hh] at e;injection e with e;subst e;exact⟨s0,rfl,fun _ _ _ h=>a01 h,fun i hi=>⟨(qz i hi).1,hB i (qz i hi).2⟩⟩
 have hres:∀j r,(Eff.app ⟨s,some (id,r'),rb,kt⟩ dst st).res j=some r→(j=id∧r=r')∨(j≠id∧∃r0,st.res j=some r0∧(∀b x,r.blk b x=r0.blk b x)∧r.typ=r0.typ∧(∀lo w X,r0.In lo w X B T j→r.In lo w X B T j)∧∀i∈r.ids,i∈r0.ids∧B' i=B i∧T' i=T i):=fun j r e=>by
  simp only[Eff.app] at e;cases hb:Nat.beq j id with
  | true=>rw[hb] at e;injection e with e;exact .inl ⟨zF hb,e.symm⟩
  | false=>
   rw[hb] at e;refine .inr ⟨Nat.ne_of_beq_eq_false hb,?_⟩;cases kt with
   | false=>exact⟨r,e,fun _ _=>rfl,rfl,fun _ _ _ h=>h,fun i hi=>⟨hi,by
     by_cases hid:i=id
     ·rw[hid];exact hk rfl
     ·exact hB i hid⟩⟩
   | true=>
    cases hh:st.res j with
    | none=>rw[hh] at e;cases e
    | some r0=>
     rw[hh] at e;injection e with e;subst e;refine⟨r0,rfl,?_⟩;cases r0 with
     | box ty cs=>exact⟨fun _ _=>rfl,rfl,fun lo w X ⟨h1,us,h2,h3⟩=>⟨h1,us,h2,ww h3⟩,fun i hi=>⟨(mr i hi).1,hB i (mr i hi).2⟩⟩
     | tok e k ts xs=>exact⟨fun _ _=>rfl,rfl,fun _ _ _ h=>h,fun i hi=>by cases hi⟩
 have blks:∀b,(∃j r,(Eff.app ⟨s,some (id,r'),rb,kt⟩ dst st).res j=some r∧r.blk (B' j) (T' j)=some b)→(Own0 C st B T b∧¬∃r,st.res id=some r∧r.blk (B id) (T id)=some b)∨r'.blk (B' id) (T' id)=some b:=fun b ⟨j,r,e,hb⟩=>by
  rcases hres j r e with ⟨rfl,rfl⟩ | ⟨hj,r0,h1,h2,_⟩
  ·exact .inr hb
  ·rw[h2,(hB j hj).1,(hB j hj).2] at hb;exact .inl ⟨.inr ⟨j,r0,h1,hb⟩,fun ⟨q,k1,k2⟩=>hj (h.apart j r0 id q b h1 k1 hb k2)⟩
 have hX:∀b,Own0 C (Eff.app ⟨s,some (id,r'),rb,kt⟩ dst st) B' T' b→(Own0 C st B T b∧¬∃r,st.res id=some r∧r.blk (B id) (T id)=some b)∨r'.blk (B' id) (T' id)=some b:=fun b hb=>hb.elim (fun hb=>.inl ⟨.inl hb,fun ⟨q,k1,k2⟩=>((h.inn id q k1).lo k2).1.elim (fun g=>absurd (C.old b hb) (Nat.not_lt.2 g)) (C.hM b hb)⟩) (blks b)
 have old:∀j r b,st.res j=some r→r.blk (B j) (T j)=some b→b < w.heap.size:=fun j r b e hb=>((h.inn j r e).lo hb).2
 have S:∀ts,Still w w' (Own0 C st B T) (Own0 C (Eff.app ⟨s,some (id,r'),rb,kt⟩ dst st) B' T') ts:=fun ts=>by
  refine⟨F.size,fun b cs t fr hx hh ht=>?_⟩;have hlt:b < w.heap.size:=by
   rcases zU b w.heap.size with h | h
   ·exact h
   ·rw[zR h] at hh;cases hh
  refine⟨F.keep b hlt fun e=>hx (ownX b e),fun hb=>?_⟩;rcases hX b hb with hb | hb
  ·exact hx hb.1
  ·rcases hnew b hb with h1 | h1
   ·exact hx (ownX b h1)
   ·omega
 have S':∀ts,Still w' w' (fun b=>(Own0 C st B T b∧¬∃r,st.res id=some r∧r.blk (B id) (T id)=some b)∨r'.blk (B' id) (T' id)=some b) (Own0 C (Eff.app ⟨s,some (id,r'),rb,kt⟩ dst st) B' T') ts:=fun ts=>⟨nr _,fun b cs t fr hx hh ht=>⟨rfl,fun hb=>hx (hX b hb)⟩⟩
 have alive':∀j,(st.res j).isSome=true→((Eff.app ⟨s,some (id,r'),rb,kt⟩ dst st).res j).isSome=true:=fun j hj=>by
  simp only[Eff.app];cases Nat.beq j id with
  | true=>rfl
  | false=>
   cases kt with
   | false=>exact hj
   | true=>
    cases hh:st.res j with
    | none=>rw[hh] at hj;cases hj
    | some r=>rfl
 have selfA:((Eff.app ⟨s,some (id,r'),rb,kt⟩ dst st).res id).isSome=true:=by simp only[Eff.app,Nat.beq_refl];rfl
 have hlo:∀b,r'.blk (B' id) (T' id)=some b→C.lo b:=fun b hb=>by
  rcases hnew b hb with ⟨r,h1,h2⟩ | h1
  ·exact ((h.inn id r h1).lo h2).1
  ·exact .inl (nt h.gr.size h1)
 have hfix:∀i,C.F i→B' i=C.B0 i:=fun i hi=>by
  by_cases e:i=id
  ·rw[e] at hi ⊢;exact (hF hi).trans (h.gr.fix _ hi)
  ·exact (hB i e).1.trans (h.gr.fix i hi)
 refine⟨B',T',y6 h.size hd,put_dfr.trans h.dfr,⟨(h.gr.step F fun b _ ⟨r,h1,h2⟩=>((h.inn id r h1).lo h2).1).fr,hfix⟩,fun t s' e=>?_,fun t s' e=>?_,fun i r e=>?_,fun i r e j hj=>?_,fun i r j q b hi hj h1 h2=>?_⟩
 ·have hold:∀t s',(Eff.old ⟨s,some (id,r'),rb,kt⟩ st t)=some s'→SV.Rep w' (Own0 C (Eff.app ⟨s,some (id,r'),rb,kt⟩ dst st) B' T') B' T' s' (a.tmps.getD t undef):=fun t s' e=>by
   obtain⟨s0,h1,h2,h3⟩:=olds t s' e;exact (h2 _ _ _ (h.slot t s0 h1)).still (S _) fun i hi=>(h3 i hi).2
  cases dst with
  | none=>exact hold t s' e
  | some d=>
   simp only[Eff.app] at e;cases hb:Nat.beq t d with
   | true=>
    rw[hb] at e;obtain rfl:=zF hb;injection e with e;subst e;rw[i7 (by rw[h.size.1];exact (hd _ rfl).1)];exact hs.still (S' _) fun _ _=>⟨rfl,rfl⟩
   | false=>
    rw[hb] at e;rw[gc (Nat.ne_of_beq_eq_false hb)];exact hold t s' e
 ·have hold:∀t s',(Eff.old ⟨s,some (id,r'),rb,kt⟩ st t)=some s'→∀i∈s'.ids,((Eff.app ⟨s,some (id,r'),rb,kt⟩ dst st).res i).isSome=true:=fun t s' e i hi=>by
   obtain⟨s0,h1,h2,h3⟩:=olds t s' e;exact alive' i (h.live t s0 h1 i (h3 i hi).1)
  cases dst with
  | none=>exact hold t s' e
  | some d=>
   simp only[Eff.app] at e;cases hb:Nat.beq t d with
   | true=>
    rw[hb] at e;injection e with e;subst e;intro i hi;rw[hsi i hi];exact selfA
   | false=>rw[hb] at e;exact hold t s' e
 ·rcases hres i r e with ⟨rfl,rfl⟩ | ⟨hi,r0,h1,h2,h3,h4,h5⟩
  ·have:=hin.move S' (fun _ _=>rfl) ⟨rfl,rfl⟩ fun _ _=>⟨rfl,rfl⟩
   exact this.wide (fun b hb _=>hlo b hb) fun b hb=>hb
  ·refine (h4 _ _ _ (h.inn i r0 h1)).move S (fun b hb=>?_) (hB i hi) fun j hj=>(h5 j hj).2
   rw[h2] at hb;exact F.keep b (old i r0 b h1 hb) fun ⟨q,k1,k2⟩=>hi (h.apart i r0 id q b h1 k1 hb k2)
 ·rcases hres i r e with ⟨rfl,rfl⟩ | ⟨hi,r0,h1,h2,h3,h4,h5⟩
  ·rw[hids] at hj;cases hj
  ·exact alive' j (h.alive i r0 h1 j (h5 j hj).1)
 ·have cross:∀(i:Nat) (r:Res) (j:Nat) (q:Res),i=id→r=r'→r.blk (B' i) (T' i)=some b→(j≠id∧∃r0,st.res j=some r0∧(∀b x,q.blk b x=r0.blk b x)∧q.typ=r0.typ∧(∀lo w X,r0.In lo w X B T j→q.In lo w X B T j)∧∀i∈q.ids,i∈r0.ids∧B' i=B i∧T' i=T i)→q.blk (B' j) (T' j)=some b→False:=fun i r j q e1 e2 h1 ⟨nj,r0,g1,g2,_⟩ h2=>by
   subst e1 e2;rw[g2,(hB j nj).1,(hB j nj).2] at h2;rcases hnew b h1 with ⟨z,k1,k2⟩ | k1
   ·exact nj (h.apart j r0 i z b g1 k1 h2 k2)
   ·have:=old j r0 b g1 h2;omega
  rcases hres i r hi with ⟨e1,e2⟩ | g1
  ·rcases hres j q hj with ⟨e3,e4⟩ | g2
   ·rw[e1,e3]
   ·exact (cross i r j q e1 e2 h1 g2 h2).elim
  ·rcases hres j q hj with ⟨e3,e4⟩ | g2
   ·exact (cross j q i r e3 e4 h2 g1 h1).elim
   ·obtain⟨n1,r0,k1,k2,_⟩:=g1;obtain⟨n2,q0,k3,k4,_⟩:=g2;rw[k2,(hB i n1).1,(hB i n1).2] at h1;rw[k4,(hB j n2).1,(hB j n2).2] at h2;exact h.apart i r0 j q0 b k1 k3 h1 h2
end
def Lr (r:Option Res) (B:Nat→Nat) (T:Nat→Sv) (b:Nat):Prop:=∃q,r=some q∧q.blk (B 1000) (T 1000)=some b
abbrev up {α:Type} (f:Nat→α) (x:α):Nat→α:=fun i=>if i=1000 then x else f i
def SCalls (P:Program) (H:World→Prop) (Tg:List Nat) (f:FuncId) (args:List SV) (r:Option Res) (r':Res) (res:SV) (kt:Bool):Prop:=fv P f=true∧
 ∀(w:World) (X:Nat→Prop) (B:Nat→Nat) (T:Nat→Sv) (us:List Value),H w→(∀b,X b→b < w.heap.size)→(∀b cs t fr,X b→w.heap[b]?=some (.cells cs t fr)→t ∉ Tg)→(∀b,X b→¬Lr r B T b)→(∀q,r=some q→q.In (fun _=>True) w (fun b=>X b∨Lr r B T b) B T 1000)→SV.RepL w (fun b=>X b∨Lr r B T b) B T args us→
  Calls P f us.toArray w fun e w'=>∃v b' x',e=.returned v∧(r.isSome=true→b'=B 1000)∧(kt=false→b'=B 1000∧x'=T 1000)∧Fr (Lr r B T) w w'∧(∀b,r'.blk b' x'=some b→Lr r B T b∨w.heap.size≤b)∧r'.In (fun _=>True) w' (fun b=>X b∨r'.blk b' x'=some b) (up B b') (up T x') 1000∧res.Rep w' (fun b=>X b∨r'.blk b' x'=some b) (up B b') (up T x') v
def rsO:Option Res→List (Nat×Res)
 | some q=>[(1000,q)]
 | none=>[]
theorem vh {r:Option Res} {i:Nat} {q:Res} (h:am (rsO r) i=some q):i=1000∧r=some q:=by
 cases r with
 | none=>cases h
 | some p=>
  rw[rsO,am] at h;cases hb:Nat.beq i 1000 with
  | true=>rw[hb] at h;injection h with h;exact⟨zF hb,congrArg some h⟩
  | false=>rw[hb] at h;cases h
theorem acx {r:Option Res} {q:Res} (h:r=some q):am (rsO r) 1000=some q:=by subst h;rfl
def retS (tab:Tab) (st:St):ResultVar→Option SV
 | .tmp t=>st.slot t
 | .cell t ty=>match st.slot t,tab.get ty with
  | some (.box id 0),some l=>(match bxo st id 0 with
   | some (_,cs)=>(match l.agg with
    | true=>bif Nat.beq cs.length l.zero.length then some (.agg cs) else none
    | false=>(match cs with
     | [c]=>some c
     | _=>none))
   | none=>none)
  | _,_=>none
def coR (st:St) (s:SV):Option SV:=bif s.ids.contains 1000 then (bif s.ids.all (fun i=>Nat.beq i 1000) then some s else none) else match coSV st s with
 | some p=>some (.pv p)
 | none=>none
def ansS (tab:Tab) (st:St):List ResultVar→Option SV
 | [r]=>match retS tab st r with
  | some s=>coR st s
  | none=>none
 | _=>none
def boxy:Res→Bool
 | .box ..=>true
 | .tok ..=>false
def RetS (tab:Tab) (fn:Func) (r':Res) (res:SV):Exit→St→Prop
 | .ret,st | .normal,st=>ansS tab st fn.results.toList=some res∧st.res 1000=some r'
 | _,_=>False
section
variable {P:Program} {tab:Tab} {C:Cx} {st:St}
theorem ad0 (hT:ie C.P tab) {a:Act} {w:World} {B:Nat→Nat} {T:Nat→Sv} (hi:InvB C st a w B T) {rs:List ResultVar} {fn:Func} (hrs:fn.results.toList=rs) {res:SV} (h:ansS tab st rs=some res):∃s v,(results fn a.tmps).run C.P w=.ok v w∧SV.Rep w (Own0 C st B T) B T s v∧coR st s=some res:=by
 match rs,h with
 | [r],h=>
  rw[ansS] at h;split at h
  ·rename_i s hs
   have key:∀v,(match r with
     | .tmp t=>(pure (a.tmps.getD t undef):Sem Value)
     | .cell x t=>do loadVar t (← asAddr (a.tmps.getD x undef))).run C.P w=.ok v w→(results fn a.tmps).run C.P w=.ok v w:=fun v hv=>by
    unfold results;rw[show fn.results=#[r] from by rw[← hrs]];rw[Sem.run_bind,Array.mapM_eq_mapM_toList,map_eq_pure_bind,Sem.run_bind];have:([r].mapM fun (r:ResultVar)=>match r with
     | .tmp t=>(pure (a.tmps.getD t undef):Sem Value)
     | .cell x t=>do loadVar t (← asAddr (a.tmps.getD x undef))).run C.P w=.ok [v] w:=by
     rw[List.mapM_cons,Sem.run_bind,hv,Result.andThen_ok,Sem.run_bind,List.mapM_nil,Sem.run_pure,Result.andThen_ok,Sem.run_pure]
    exact congrArg (fun r:Result (List Value)=>(r.andThen fun (a:List Value) w'=>Sem.run C.P (pure a.toArray) w').andThen fun (a:Array Value) w'=>Sem.run C.P (pure (if h:a.size=1 then a[0] else .tuple a)) w') this
   cases r with
   | tmp t=>exact⟨s,_,key _ rfl,hi.slot t s hs,h⟩
   | cell t ty=>
    unfold retS at hs;simp only at hs;split at hs
    ·rename_i id l h1 h2
     split at hs
     ·rename_i tz cs h3
      have lk:=Tab.get_ok hT h2;obtain⟨d,hu,hd⟩:=lk.agg;have hsl:=hi.slot t _ h1;rw[SV.Rep,mw rfl] at hsl;replace h3:=yi h3;obtain⟨h3,_,htz⟩:=h3;obtain⟨g1,us,g2,g3⟩:=hi.inn id _ h3;have g2:=g2.bk htz;have hc:∀j v,us[j]?=some v→w.cell? ((⟨B id,0,none⟩:Addr).add j)=some v:=fun j v hv=>by
       rw[ij,g2.cell];simpa using hv
      split at hs
      ·rename_i hag
       cases hb:Nat.beq cs.length l.zero.length with
       | false=>rw[hb] at hs;cases hs
       | true=>
        rw[hb] at hs;injection hs with hs;subst hs;refine⟨.agg cs,.agg us.toArray,key _ ?_,by rw[SV.Rep];exact⟨us,rfl,g3⟩,h⟩;simp only[hsl,asAddr];exact mi (n:=l.zero.length) hu (hd.trans hag) (by rw[lk.size,g3.len,zF hb]) hc
      ·rename_i hag
       split at hs
       ·rename_i c
        injection hs with hs;subst hs;have g4:=g3;rw[SV.RepL] at g4;obtain⟨u,us',rfl,g5,g6⟩:=g4;refine⟨c,u,key _ ?_,g5,h⟩;simp only[hsl,asAddr];refine iw hu (hd.trans hag) ?_;have:=hc 0 u rfl;rwa [add_zero] at this
       ·cases hs
     ·cases hs
    ·cases hs
  ·cases h
theorem SCalls.of {H:World→Prop} {T:List Nat} {f:FuncId} {args:List SV} {r:Option Res} {r':Res} {res:SV} {kt:Bool} {fn:Func} {c:Code} (tys:List Nat) (hT:ie P tab) (hm:P.follows .mixedOrders=true) (hcall:fv P f=true) (hf:P.funcs[f]?=some fn) (hb:fn.body=some c) (hn:Nat.ble args.length fn.ntmps=true) (hck:(Nat.ble fn.ntmps 1000&&((rsO r).all fun p=>p.2.ids.isEmpty&&tys.contains p.2.typ)&&r'.ids.isEmpty&&(kt||boxy r'&&r.isSome&&res.tids.isEmpty)&&(SV.idsL args).all fun i=>Nat.beq i 1000&&r.isSome)=true) (h:∀D:Dom P T 0,H D.w0→(r.isNone=true→∀i,¬D.F i)→PW (D.cx fn.ntmps) c (St.initM args (rsO r) tys) (RetS tab fn r' res)):SCalls P H T f args r r' res kt:=by
 refine⟨hcall,fun w X B Tk us hH hX hXT hXL hpre hr=>?_⟩;have hn:=zD hn;simp only[be,zG] at hck;obtain⟨⟨⟨⟨k1,k2⟩,k3⟩,k4⟩,k5⟩:=hck
 let D:Dom P T 0:=⟨w,X,hX,hm,hXT,Lr r B Tk,hXL,fun i=>i=1000∧r.isSome=true,B,fun _=>undef⟩
 refine calls_of_wp hf hb ?_;have hlen:=hr.len;have hinv:Inv (D.cx fn.ntmps) (St.initM args (rsO r) tys) { tmps:=us.toArray++Array.replicate (fn.ntmps - us.toArray.size) undef,defers:=[] } w:=by
  refine⟨B,Tk,⟨⟨by simp;omega,fun t h=>absurd h (Nat.not_lt_zero t)⟩,rfl,⟨Fr.refl _ w,fun i h=>rfl⟩,fun t s e=>?_,fun t s e i hi=>?_,fun i q e=>?_,fun i q e j hj=>?_,fun i p j q b e1 e2 _ _=>by rw[(vh e1).1,(vh e2).1]⟩⟩
  ·obtain⟨u,hu,hpr⟩:=hr.at (show args[t]?=some s from e);have hut:(us.toArray++Array.replicate (fn.ntmps - us.toArray.size) undef).getD t undef=u:=by
    have hlt:=(gs hu).1;rw[Array.getD_eq_getD_getElem?,Array.getElem?_append_left (by simpa using hlt)];simp[hu]
   rw[hut];exact hpr.still ⟨nr _,fun b cs t fr hx hh ht=>⟨rfl,fun hb=>hx (hb.imp (fun h=>h) fun ⟨i,q,e,hb⟩=>by
    obtain⟨rfl,e2⟩:=vh e;exact⟨q,e2,hb⟩)⟩⟩ fun _ _=>⟨rfl,rfl⟩
  ·have:=k5 i (gz (mg (show args[t]?=some s from e)) hi);obtain⟨q,hq⟩:=Option.isSome_iff_exists.1 this.2;show (am (rsO r) i).isSome=true;rw[zF this.1,acx hq];rfl
  ·obtain⟨rfl,e2⟩:=vh e;exact (hpre q e2).wide (fun b hb _=>.inr ⟨q,e2,hb⟩) fun b hb=>hb.imp (fun h=>h) fun ⟨i,q,e,hb⟩=>by
    obtain⟨rfl,e2⟩:=vh e;exact⟨q,e2,hb⟩
  ·obtain⟨rfl,e2⟩:=vh e;subst e2;have:=(k2 _ (zH.2 rfl)).1;rw[List.isEmpty_iff.1 this] at hj;cases hj
 refine Code.wp_mono (fun e a w' hq=>?_) (h D hH (fun hN i hi=>by have:=hi.2;rw[Option.isNone_iff_eq_none.1 hN] at this;cases this) _ w (fun i q e=>by
  obtain⟨rfl,e2⟩:=vh e;subst e2;exact zE.1 (k2 _ (zH.2 rfl)).2) hinv)
 obtain⟨st,h1,_,⟨B',T',hi⟩⟩:=hq;have fin:ansS tab st fn.results.toList=some res∧st.res 1000=some r'→∃v,(results fn a.tmps).run P w'=.ok v w'∧a.defers=[]∧∃b' x',(r.isSome=true→b'=B 1000)∧(kt=false→b'=B 1000∧x'=Tk 1000)∧Fr (Lr r B Tk) w w'∧(∀b,r'.blk b' x'=some b→Lr r B Tk b∨w.heap.size≤b)∧r'.In (fun _=>True) w' (fun b=>X b∨r'.blk b' x'=some b) (up B b') (up Tk x') 1000∧res.Rep w' (fun b=>X b∨r'.blk b' x'=some b) (up B b') (up Tk x') v:=fun ⟨h1,h2⟩=>by
  obtain⟨s,v,g1,g2,g3⟩:=ad0 (C:=D.cx fn.ntmps) hT hi rfl h1;have hfix:r.isSome=true→B' 1000=B 1000:=fun h=>hi.gr.fix 1000 ⟨⟨rfl,h⟩,zD k1⟩
  obtain⟨x',hx',hxk⟩:∃x':Sv,(kt=false→x'=Tk 1000)∧(x'=T' 1000∨kt=false∧boxy r'=true∧res.tids=[]):=by
   cases hkt:kt with
   | true=>exact⟨T' 1000,(fun e=>by cases e),.inl rfl⟩
   | false=>
    rw[hkt,Bool.false_or] at k4;simp only[be] at k4;exact⟨Tk 1000,fun _=>rfl,.inr ⟨rfl,k4.1.1,List.isEmpty_iff.1 k4.2⟩⟩
  have hbl:r'.blk (B' 1000) x'=r'.blk (B' 1000) (T' 1000):=by
   rcases hxk with e | ⟨_,e,_⟩
   ·rw[e]
   ·cases r' with
    | box=>rfl
    | tok=>cases e
  have hsub:∀b,X b∨r'.blk (B' 1000) x'=some b→Own0 (D.cx fn.ntmps) st B' T' b:=fun b hb=>hb.elim .inl fun h=>.inr ⟨1000,r',h2,by rw[← hbl];exact h⟩
  have S:∀ts,Still w' w' (Own0 (D.cx fn.ntmps) st B' T') (fun b=>X b∨r'.blk (B' 1000) x'=some b) ts:=fun ts=>⟨nr _,fun b cs t fr hx hh ht=>⟨rfl,fun hb=>hx (hsub b hb)⟩⟩
  have hin0:=hi.inn 1000 r' h2;refine⟨v,g1,hi.dfr,B' 1000,x',hfix,fun e=>⟨?_,hx' e⟩,hi.gr.fr,fun b hb=>((hin0.lo (hbl▸hb)).1).symm,?_,?_⟩
  ·rw[e,Bool.false_or] at k4;simp only[be] at k4;exact hfix k4.1.2
  ·have h3:=hin0.wide (lo':=fun _=>True) (fun _ _ _=>trivial) hsub;cases r' with
   | box ty cs=>
    obtain⟨_,us,h4,h5⟩:=h3;have:SV.idsL cs=[]:=List.isEmpty_iff.1 k3;exact⟨trivial,us,h4,h5.still ⟨nr _,fun b cs t fr hx hh ht=>⟨rfl,hx⟩⟩ fun i hi=>by rw[this] at hi;cases hi⟩
   | tok e k ts xs=>
    have e1:x'=T' 1000:=hxk.elim id fun h=>by cases h.2.1
    subst e1;exact h3.reB (B':=up B (B' 1000)) (T':=up Tk (T' 1000)) rfl rfl fun j hj=>by cases hj
  ·unfold coR at g3;cases hc:s.ids.contains 1000 with
   | true=>
    rw[hc] at g3;simp only[cond_true] at g3;cases hall:s.ids.all (fun i=>Nat.beq i 1000) with
    | false=>rw[hall] at g3;cases g3
    | true=>
     rw[hall] at g3;injection g3 with g3;subst g3;have one:∀i∈s.ids,i=1000:=fun i hi=>zF (zG.1 hall i hi)
     rcases hxk with e | ⟨_,_,e⟩
     ·subst e;exact g2.still (S _) fun i hi=>by rw[one i hi];exact⟨rfl,rfl⟩
     ·have h5:SV.Rep w' (fun b=>X b∨r'.blk (B' 1000) x'=some b) (up B (B' 1000)) T' s v:=g2.still (S _) fun i hi=>by rw[one i hi];exact⟨rfl,rfl⟩
      exact h5.reT fun i hi=>by rw[e] at hi;cases hi
   | false=>
    rw[hc] at g3;simp only[cond_false] at g3;split at g3
    ·rename_i p hp
     injection g3 with g3;subst g3;rw[SV.Rep];refine Co.rep hi (io hp) g2 fun b hb=>⟨hsub b hb,fun ⟨i,hi1,q,hq,hb2⟩=>?_⟩
     rcases hb with hb | hb
     ·have h4:=(hi.inn i q hq).lo hb2;exact h4.1.elim (fun g=>absurd (hX b hb) (Nat.not_lt.2 g)) (hXL b hb)
     ·rw[hbl] at hb;have:=hi.apart i q 1000 r' b hq h2 hb2 hb;rw[this] at hi1;rw[zE.2 hi1] at hc;cases hc
    ·cases g3
 cases e with
 | ret=>
  obtain⟨v,g1,g2,b',x',g3⟩:=fin h1;exact bodyPost_ret g1 g2 ⟨v,b',x',rfl,g3⟩
 | normal=>
  obtain⟨v,g1,g2,b',x',g3⟩:=fin h1;exact bodyPost_end g1 g2 ⟨v,b',x',rfl,g3⟩
 | _=>exact h1.elim
end
section
variable {C:Cx} {o:Oper} {st:St}
theorem a2i {st1:St} {a:Act} {w:World} {B:Nat→Nat} {T:Nat→Sv} (h:InvB C st1 a w B T):∀{ss ps:List SV} {us:List Value},ii st ss=some ps→SV.RepL w (Own0 C st1 B T) B T ss us→SV.RepL w (Own0 C st1 B T) B T ps us
 | [],ps,us,hc,hr=>by rw[ii] at hc;injection hc with hc;subst hc;exact hr
 | s::ss,ps,us,hc,hr=>by
  rw[ii] at hc;split at hc
  ·rename_i p ps' h1 h2
   injection hc with hc;subst hc;rw[SV.RepL] at hr;obtain⟨u,us',rfl,h3,h4⟩:=hr;refine SV.RepL.cons ?_ (a2i h h2 h4);unfold ac1 at h1;split at h1
   ·rename_i hids
    split at h1
    ·rename_i q hq
     injection h1 with h1;subst h1;rw[SV.Rep];exact Co.rep h ((io hq).move fun i hi=>by rw[hids] at hi;cases hi) h3 fun b hb=>⟨hb,fun ⟨i,hi,_⟩=>by rw[hids] at hi;cases hi⟩
    ·cases h1
   ·injection h1 with h1;subst h1;exact h3
  ·cases hc
theorem aag {H:World→Prop} {c:Call} {f:FuncId} {ss args:List SV} {r:Option Res} {r':Res} {res:SV} {kt:Bool} {Tg:List Nat} (hp:SCalls C.P H Tg f args r r' res kt) (hH:∀B w,GrC C B w→H w) (hF:C.F 1000→r.isSome=true) (ho:o.op=.call c) (hc:c.callee=.value (.func f)) (ha:evL st c.args.toList=some ss) (hco:ii st ss=some args) (hids:((SV.idsL ss).all (fun i=>Nat.beq i 1000)&&r'.ids.isEmpty&&res.ids.all (fun i=>Nat.beq i 1000))=true) (hre:st.res 1000=r) (he:st.tys.contains r'.typ=true) (hT:Tg.all (fun t=>C.T.contains t)=true) (hty:Tg.all (fun t=>!st.tys.contains t)=true) (hd:∀d,o.dst=some d→C.dk d):OpE C st.tys o st ⟨res,some (1000,r'),[1000],kt⟩:=by
 simp only[be,zG] at hids;refine⟨fun i r e=>by injection e with e;injection e with e1 e2;subst e1 e2;exact⟨mf ..,zE.1 he⟩,fun st1 h1 h2 hts a w ⟨B,T,hi⟩=>?_⟩;have hre':=hre;rw[← h2 1000 (mf ..)] at hre';rw[← jp (o:=o) (st1:=st1) (rb:=[]) ⟨h1,fun i hi=>by cases hi⟩ fun x hx=>by
  rw[ho];simp only[Op.operands,Call.operands,hc,Array.mem_append];exact .inr (Array.mem_toList_iff.1 hx)] at ha
 obtain⟨g1,g2⟩:=kj hi ha;have g3:=a2i hi hco g1;have lown:∀b,Lr r B T b→Own0 C st1 B T b:=fun b ⟨q,e,hb⟩=>.inr ⟨1000,q,hre'.trans e,hb⟩
 have sub:∀b,(Own0 C st1 B T b∧¬Lr r B T b)∨Lr r B T b→Own0 C st1 B T b:=fun b hb=>hb.elim And.left (lown b)
 have bus:∀b,Own0 C st1 B T b→(Own0 C st1 B T b∧¬Lr r B T b)∨Lr r B T b:=fun b hb=>by
  by_cases hl:Lr r B T b
  ·exact .inr hl
  ·exact .inl ⟨hb,hl⟩
 have old:∀b,Own0 C st1 B T b→b < w.heap.size:=fun b hb=>by
  rcases hb with hb | ⟨i,r,hr,hb⟩
  ·exact nk (C.old b hb) hi.gr.size
  ·exact ((hi.inn i r hr).lo hb).2
 have run:(execOp a.eval o).run C.P w=.ok (.enter f (c.args.toList.map a.eval).toArray) w:=by
  simp only[execOp,ho,resolve,hc,Sem.run_bind];have hf:a.eval (.func f)=.func (.func f) #[] #[]:=rfl;rw[hf];simp only[Deferred.ofValue];simp[invoke,j6 hp.1];rw[← Array.toList_map,Array.toArray_toList]
 have Ss:∀ts,Still w w (Own0 C st1 B T) (fun b=>(Own0 C st1 B T b∧¬Lr r B T b)∨Lr r B T b) ts:=fun ts=>⟨nr _,fun b cs t fr hx hh ht=>⟨rfl,fun hb=>hx (sub b hb)⟩⟩
 have hcall:=hp.2 w (fun b=>Own0 C st1 B T b∧¬Lr r B T b) B T _ (hH B w hi.gr) (fun b hb=>old b hb.1) (fun b cs t fr hb hh htg=>by
  have htc:=zG.1 hT t htg;have hty':=zG.1 hty t htg;rcases hb.1 with hb1 | ⟨i,r,hr,hb1⟩
  ·have hh':C.w0.heap[b]?=some (.cells cs t fr):=by rw[← hi.gr.old hb1];exact hh
   exact C.hT b cs t fr hb1 hh' (zE.1 htc)
  ·have h1:=(hi.inn i r hr).typ hb1 hh;have h2:=hts i r hr;rw[← h1] at h2;rw[zE.2 h2] at hty';cases hty') (fun b hb=>hb.2) (fun q e=>(hi.inn 1000 q (hre'.trans e)).wide (fun _ _ _=>trivial) sub) (g3.still (Ss _) fun _ _=>⟨rfl,rfl⟩)
 refine eo run (hcall.mono fun ex w' ⟨v,b',x',hex,p1,p2,p3,p4,p5,p6⟩=>⟨v,hex,?_⟩);have F1:Fr (fun b=>∃q,st1.res 1000=some q∧q.blk (B 1000) (T 1000)=some b) w w':=p3.wide fun b _ ⟨q,e,hb⟩=>⟨q,hre'.trans e,hb⟩
 have hY:∀b,(Own0 C st1 B T b∧¬∃r,st1.res 1000=some r∧r.blk (B 1000) (T 1000)=some b)∨r'.blk (up B b' 1000) (up T x' 1000)=some b→(Own0 C st1 B T b∧¬Lr r B T b)∨r'.blk b' x'=some b:=fun b hb=>hb.imp (fun ⟨h1,h2⟩=>⟨h1,fun ⟨q,e,k⟩=>h2 ⟨q,hre'.trans e,k⟩⟩) id
 refine ak0 hi (B':=up B b') (T':=up T x') (fun i hi=>⟨if_neg hi,if_neg hi⟩) (fun e=>⟨(if_pos rfl).trans (p2 e).1,(if_pos rfl).trans (p2 e).2⟩) (fun e=>(if_pos rfl).trans (p1 (hF e))) F1 (fun b hb=>(p4 b hb).imp (fun ⟨q,e,hb⟩=>⟨q,hre'.trans e,hb⟩) id) ?_ (List.isEmpty_iff.1 hids.1.2) ?_ (fun i hi=>zF (hids.2 i hi)) hd
 ·exact p5.wide (fun _ _ _=>trivial) hY |>.reB (if_pos rfl) (if_pos rfl) fun j hj=>⟨rfl,rfl⟩
 ·exact p6.still ⟨nr _,fun b cs t fr hx hh ht=>⟨rfl,fun hb=>hx (hY b hb)⟩⟩ fun _ _=>⟨rfl,rfl⟩
end
section
variable {T:List Nat} {Z:Nat} {D:Dom Tryz.prog T Z} {N:Nat} {st:St} {Q:Exit→St→Prop} {ops:List Oper} {draw:Bool} {acc:List Itm} {r':Res} {res:SV}
theorem rsc0 {H:World→Prop} {k:Nat} {ks:List Nat} {c:Call} {f:FuncId} {ss args:List SV} {r:Option Res} {kt:Bool} {Tg:List Nat} {dst:Option Nat} {ty:TypeId} {pos:String} {af:Array Edge} {gd:Option (Nat×Bool)} (hH:∀B w,GrC (D.cx N) B w→H w) (hF:r.isNone=true→∀i,¬D.F i) (hp:SCalls Tryz.prog H Tg f args r r' res kt) (next:Reg (D.cx N) ops draw Q (acc++[⟨k,true,⟨res,some (1000,r'),[1000],kt⟩,lkOf ops k st (⟨res,some (1000,r'),[1000],kt⟩:Eff)⟩]) ks ((⟨res,some (1000,r'),[1000],kt⟩:Eff).app dst st)) (hk:nthL ops k=some ⟨dst,.call c,ty,pos,af,gd⟩:=by exact rfl) (hw:co ops.toArray ⟨dst,.call c,ty,pos,af,gd⟩ st=some true:=by exact rfl) (hd:dstB ⟨dst,.call c,ty,pos,af,gd⟩ N Z=true:=by exact rfl) (hc:c.callee=.value (.func f):=by exact rfl) (ha:evL st c.args.toList=some ss:=by exact rfl) (hco:ii st ss=some args:=by exact rfl) (hre:st.res 1000=r:=by exact rfl) (hB:((SV.idsL ss).all (fun i=>Nat.beq i 1000)&&r'.ids.isEmpty&&res.ids.all (fun i=>Nat.beq i 1000)&&(st.tys.contains r'.typ&&(Tg.all (fun t=>T.contains t)&&Tg.all (fun t=>!st.tys.contains t))))=true:=by exact rfl):Reg (D.cx N) ops draw Q acc (k::ks) st:=by
 simp only[be] at hB;exact dh hk hw hd (fun hd=>aag (C:=D.cx N) hp hH (fun e=>by
  cases r with
  | none=>exact (hF rfl _ e.1).elim
  | some q=>rfl) rfl hc ha hco (by simp only[be];exact hB.1) hre hB.2.1 hB.2.2.1 hB.2.2.2 hd) next
theorem pcs {H:World→Prop} {f:FuncId} {args:List SV} {r:Option Res} {kt:Bool} {fn:Func} {c:Code} (tys:List Nat) (hf:(Tryz.prog).funcs[f]?=some fn) (h:∀D:Dom Tryz.prog T 0,H D.w0→(r.isNone=true→∀i,¬D.F i)→W D fn.ntmps c (St.initM args (rsO r) tys) (RetS tab fn r' res)) (hcall:fv Tryz.prog f=true:=by kernel_rfl) (hb:fn.body=some c:=by exact rfl) (hn:Nat.ble args.length fn.ntmps=true:=by exact rfl) (hck:(Nat.ble fn.ntmps 1000&&((rsO r).all fun p=>p.2.ids.isEmpty&&tys.contains p.2.typ)&&r'.ids.isEmpty&&(kt||boxy r'&&r.isSome&&res.tids.isEmpty)&&(SV.idsL args).all fun i=>Nat.beq i 1000&&r.isSome)=true:=by exact rfl):SCalls Tryz.prog H T f args r r' res kt:=SCalls.of tys ah a1z hcall hf hb hn hck h
theorem rets {fn:Func} {s:SV} (h:ansS tab st fn.results.toList=some s) (e:s=res) (h2:st.res 1000=some r'):RetS tab fn r' res .ret st:=⟨h.trans (congrArg some e),h2⟩
end
section
theorem aip {q:Q} {n d:Nat} (h:q.Bd n d) (hn:n≤100000):PCalls Tryz.prog [] 130 [ratP q] (iP q.sign):=a76 (by kernel_rfl) fun w a ha=>tu w a q ha (nt h.num (nt hn dx))
theorem aeh {q:Q} {n d:Nat} (h:q.Bd n d) (hn:n≤100000) (hd:d≤100000):PCalls Tryz.prog TU 177 [ratP q] (ratP (ci q)):=aig (by kernel_rfl) fun w a ha=>xg w a q ha (nt h.num (nt hn dx)) (nt h.den hd)
theorem agy {x y:Q} {n d m e:Nat} (h:x.Bd n d) (k:y.Bd m e) (hn:n≤100000) (hd:d≤100000) (hm:m≤100000) (he:e≤100000):PCalls Tryz.prog TU 229 [ratP x,ratP y] (ratP (Q.add x y)):=a9p (by kernel_rfl) fun w a b ha hb=>a50 w a b x y ha hb (nt h.num hn) (nt k.num hm) ⟨nt h.den hd,nt k.den he⟩
theorem aif {l:List Tm} {v:Int} {c:Q} (h:(c.sign != 0)=false):putT l v c=l:=by
 rw[vc,Bool.not_eq_false',de] at h;rw[putT,if_pos h]
theorem ads {l:List Tm} {v:Int} {c:Q} (h:(c.sign != 0)=true):l++[(v,ci c)]=putT l v c:=by
 rw[vc,Bool.not_eq_true',decide_eq_false_iff_not] at h;rw[putT,if_neg h]
theorem ab3 {α β:Type} {f:α→β} {a:α} {l:List α}:((((a::l).map f).length:Int) == 0)=false:=beq_eq_false_iff_ne.2 (by simp only[List.map_cons,zW];omega)
theorem alm {α β:Type} {f:α→β} {a:α} {l:List α}:decide ((0:Int) < (((a::l).map f).length:Int))=true:=dt (by simp only[List.map_cons,zW];omega)
theorem abz {α β:Type} {f:α→β} {l:List α} (h:decide ((0:Int) < ((l.map f).length:Int))=true):∃a r,l=a::r:=by
 cases l with
 | nil=>cases h
 | cons a r=>exact⟨a,r,rfl⟩
theorem aat {α β:Type} {f:α→β} {l:List α} (h:decide ((0:Int) < ((l.map f).length:Int))=false):l=[]:=by
 cases l with
 | nil=>rfl
 | cons a r=>rw[alm] at h;cases h
theorem aji {α β:Type} {f:α→β} {l:List α} (h:(((l.map f).length:Int) == 0)=true):l=[]:=by
 cases l with
 | nil=>rfl
 | cons a r=>rw[ab3] at h;cases h
theorem afo {α β:Type} {f:α→β} {l:List α} (h:(((l.map f).length:Int) == 0)=false):∃a r,l=a::r:=by
 cases l with
 | nil=>cases h
 | cons a r=>exact⟨a,r,rfl⟩
theorem sub1 {α β:Type} {f:α→β} {a:α} {l:List α}:((((a::l).map f).take ((a::l).map f).length).drop 1)=l.map f:=by rw[List.take_length];rfl
theorem tm_snoc {l:List Tm} {v:Int} {c:Q}:l.map tmC++[tmC (v,c)]=(l++[(v,c)]).map tmC:=by rw[zN];rfl
theorem a9y {l:List Tm} {k c:Q} {v:Int} {n d:Nat} (hc:c.Bd n d) (hn:n≤100000) (hd:d≤100000) (hl:l.length≤1000000):SCalls Tryz.prog (fun _=>True) TU 231 [.agg [.tok 1000,.pv (bP k.neg),.pv (.nat k.num),.pv (.nat k.den)],.pv (iP v),.pv (ratP c)] (some (.tok 138 4 [200] (l.map tmC))) (.tok 138 4 [200] ((putT l v c).map tmC)) (.agg [.tok 1000,.pv (bP k.neg),.pv (.nat k.num),.pv (.nat k.den)]) true:=by
 refine pcs [37,35,138] Tryz.func231 (fun D hH hF=>?_);refine ac (c:=aip hc hn) ?_;refine a2 (fun e9=>?_) (fun e9=>?_)
 ·refine ac (c:=aeh hc hn hd) ?_;refine au ?_;refine rp0 a3y (by rw[zB];show l.length+1≤_;omega) Y Y Y Y Y Y Y Y ?_;refine au ?_;exact rets Y Y (congrArg (fun x=>some (Res.tok _ _ _ x)) (tm_snoc.trans (congrArg (List.map tmC) (ads e9))))
 ·refine au ?_;exact rets Y Y (congrArg (fun x=>some (Res.tok 138 4 [200] (List.map tmC x))) (aif e9).symm)
structure MrgAt (x y:Fm) (c:Q) (n:Nat) (la lb acc:List Tm):Prop where
 ey:mrgT c n la lb acc=(mrg x y c).terms
 ha:∀t∈la,t.2.Lo
 hb:∀t∈lb,t.2.Lo
 hn:la.length+lb.length≤n
 hl:acc.length+n≤1000
variable {x y:Fm} {c:Q} {s t:Tm} {n:Nat} {la lb acc:List Tm}
theorem MrgAt.fin (h:MrgAt x y c n [] [] acc):acc=(mrg x y c).terms:=(aew c n acc).symm.trans h.ey
theorem MrgAt.a0 (h:MrgAt x y c n (s::la) [] acc):MrgAt x y c (n - 1) la [] (putT acc s.1 s.2):=by
 have h1:=h.hn;have h2:=h.hl;have h3:=qj acc s.1 s.2;obtain⟨m,rfl⟩:∃m,n=m+1:=⟨n - 1,by rw[zW] at h1;omega⟩;exact⟨h.ey,fun t ht=>h.ha t (zC _ ht),h.hb,by rw[zW] at h1;show _≤m;omega,by show _+m≤_;omega⟩
theorem MrgAt.a1 (h:MrgAt x y c n (s::la) (t::lb) acc) (hs:s.1 < t.1):MrgAt x y c (n - 1) la (t::lb) (putT acc s.1 s.2):=by
 have h1:=h.hn;have h2:=h.hl;have h3:=qj acc s.1 s.2;obtain⟨m,rfl⟩:∃m,n=m+1:=⟨n - 1,by rw[zW] at h1;omega⟩;have h4:=h.ey;rw[mrgT,if_pos hs] at h4;exact⟨h4,fun t ht=>h.ha t (zC _ ht),h.hb,by simp only[zW] at h1 ⊢;show _≤m;omega,by show _+m≤_;omega⟩
theorem MrgAt.b0 (h:MrgAt x y c n [] (t::lb) acc):MrgAt x y c (n - 1) [] lb (putT acc t.1 (Q.mul t.2 c)):=by
 have h1:=h.hn;have h2:=h.hl;have h3:=qj acc t.1 (Q.mul t.2 c);obtain⟨m,rfl⟩:∃m,n=m+1:=⟨n - 1,by rw[zW] at h1;omega⟩;exact⟨h.ey,h.ha,fun s hs=>h.hb s (zC _ hs),by rw[zW] at h1;show _≤m;omega,by show _+m≤_;omega⟩
theorem MrgAt.b1 (h:MrgAt x y c n (s::la) (t::lb) acc) (hs:¬s.1 < t.1) (ht:t.1 < s.1):MrgAt x y c (n - 1) (s::la) lb (putT acc t.1 (Q.mul t.2 c)):=by
 have h1:=h.hn;have h2:=h.hl;have h3:=qj acc t.1 (Q.mul t.2 c);obtain⟨m,rfl⟩:∃m,n=m+1:=⟨n - 1,by rw[zW] at h1;omega⟩;have h4:=h.ey;rw[mrgT,if_neg hs,if_pos ht] at h4;exact⟨h4,h.ha,fun s hs=>h.hb s (zC _ hs),by simp only[zW] at h1 ⊢;show _≤m;omega,by show _+m≤_;omega⟩
theorem MrgAt.c1 (h:MrgAt x y c n (s::la) (t::lb) acc) (hs:¬s.1 < t.1) (ht:¬t.1 < s.1):MrgAt x y c (n - 1) la lb (putT acc s.1 (Q.add s.2 (Q.mul t.2 c))):=by
 have h1:=h.hn;have h2:=h.hl;have h3:=qj acc s.1 (Q.add s.2 (Q.mul t.2 c));obtain⟨m,rfl⟩:∃m,n=m+1:=⟨n - 1,by rw[zW] at h1;omega⟩;have h4:=h.ey;rw[mrgT,if_neg hs,if_neg ht] at h4;exact⟨h4,fun t ht=>h.ha t (zC _ ht),fun s hs=>h.hb s (zC _ hs),by simp only[zW] at h1;show _≤m;omega,by show _+m≤_;omega⟩
theorem a3g (h:x.Lo) (k:y.Lo) (hq:c.Lo):PCalls Tryz.prog TF 192 [fmP x,fmP y,ratP c] (fmP (mrg x y c)):=by
 refine pcA [37,35,138] Tryz.func192 (fun D=>?_);refine ac (c:=ae1 k.const.sm hq.sm) ?_;refine ac (c:=agy h.const.bd (k.const.bd.mul hq.bd) dx dx dx dx) ?_;refine au ?_;refine tkb (b:=7) (off:=0) (id:=1000) (e:=138) (k:=4) (ts:=[200]) Y ?_;refine pl (ι:={p:Nat×List Tm×List Tm×List Tm // MrgAt x y c p.1 p.2.1 p.2.2.1 p.2.2.2}) (fun p=>[(3,.box 3 0),(4,.box 4 0),(5,.box 5 0),(6,.box 6 0),(7,.box 7 0),(8,.pv (cf p.1.2.1)),(9,.pv (cf p.1.2.2.1))]) (fun p=>[(3,.box 37 [.pv (cf x.terms),.pv (bP x.const.neg),.pv (.nat x.const.num),.pv (.nat x.const.den)]),(4,.box 37 [.pv (cf y.terms),.pv (bP y.const.neg),.pv (.nat y.const.num),.pv (.nat y.const.den)]),(5,.box 35 [.pv (bP c.neg),.pv (.nat c.num),.pv (.nat c.den)]),(6,.box 37 [.nil 138 4 [200],.pv (bP false),.pv (.nat 0),.pv (.nat 0)]),(7,.box 37 [.tok 1000,.pv (bP (mrg x y c).const.neg),.pv (.nat (mrg x y c).const.num),.pv (.nat (mrg x y c).const.den)]),(1000,.tok 138 4 [200] (p.1.2.2.2.map tmC))]) [37,35,138] (fun p=>p.1.2.1.length+p.1.2.2.1.length) ⟨(x.terms.length+y.terms.length,x.terms,y.terms,[]),⟨rfl,h.num,k.num,nr _,by have:=h.len;have:=k.len;simp only[List.length_nil];omega⟩⟩ (ai Y (ai Y (ai Y (ai Y (ai Y (ai Y (ai Y trivial))))))) (ai Y (ai Y (ai Y (ai Y (ai Y (ai Y trivial)))))) (fun _=>rfl) ?_;intro ⟨(n,la,lb,acc),hI⟩;simp only at hI;refine a2 (fun e25=>?_) (fun e25=>?_)
 ·obtain⟨s,la,rfl⟩:=abz e25;refine a2 (fun e55=>?_) (fun e55=>?_)
  ·obtain rfl:=aji e55;refine ax (c:=rfl) ?_;refine ax (c:=rfl) ?_;refine au ?_;refine rsc0 (fun _ _ _=>trivial) (fun e=>by cases e) (a9y (l:=acc) (k:=(mrg x y c).const) (hI.ha s (mf ..)).bd dx dx (by have:=hI.hl;omega)) ?_;refine au ?_;refine ro0 Y Y Y (fun hd=>ct ah Y Y Y (.inr ⟨_,rfl,show _=some (SV.pv (iP ((1:Nat):Int))) from rfl⟩) (.inl ⟨rfl,rfl⟩) (by simp only[List.map_cons,zW];omega) (nr _) Y dx hd) ?_;refine au ?_;exact pe ⟨(n - 1,la,[],putT acc s.1 s.2),hI.a0⟩ (ai Y (ai Y (ai Y (ai Y (ai Y (ai (congrArg (fun z=>some (SV.pv (PV.rows 138 4 [200] z))) sub1) (ai (Y) trivial))))))) (ai Y (ai Y (ai Y (ai Y (ai Y (ai Y trivial)))))) Y (by simp only[zW,List.length_nil];omega)
  ·obtain⟨t,lb,rfl⟩:=afo e55;refine akT (c:=by exact alm) ?_;refine ax (c:=rfl) ?_;refine ax (c:=rfl) ?_;refine a2 (fun e51=>?_) (fun e51=>?_)
   ·refine ax (c:=rfl) ?_;refine ax (c:=rfl) ?_;refine au ?_;refine rsc0 (fun _ _ _=>trivial) (fun e=>by cases e) (a9y (l:=acc) (k:=(mrg x y c).const) (hI.ha s (mf ..)).bd dx dx (by have:=hI.hl;omega)) ?_;refine au ?_;refine ro0 Y Y Y (fun hd=>ct ah Y Y Y (.inr ⟨_,rfl,show _=some (SV.pv (iP ((1:Nat):Int))) from rfl⟩) (.inl ⟨rfl,rfl⟩) (by simp only[List.map_cons,zW];omega) (nr _) Y dx hd) ?_;refine au ?_;exact pe ⟨(n - 1,la,t::lb,putT acc s.1 s.2),hI.a1 (zK e51)⟩ (ai Y (ai Y (ai Y (ai Y (ai Y (ai (congrArg (fun z=>some (SV.pv (PV.rows 138 4 [200] z))) sub1) (ai (Y) trivial))))))) (ai Y (ai Y (ai Y (ai Y (ai Y (ai Y trivial)))))) Y (by simp only[zW,List.length_nil];omega)
   ·refine akF (c:=by exact ab3) ?_;refine ax (c:=rfl) ?_;refine ax (c:=rfl) ?_;refine a2 (fun e83=>?_) (fun e83=>?_)
    ·refine ax (c:=rfl) ?_;refine ax (c:=rfl) ?_;refine ac (c:=ae1 (hI.hb t (mf ..)).sm hq.sm) ?_;refine rsc0 (fun _ _ _=>trivial) (fun e=>by cases e) (a9y (l:=acc) (k:=(mrg x y c).const) ((hI.hb t (mf ..)).bd.mul hq.bd) dx dx (by have:=hI.hl;omega)) ?_;refine au ?_;refine ro0 Y Y Y (fun hd=>ct ah Y Y Y (.inr ⟨_,rfl,show _=some (SV.pv (iP ((1:Nat):Int))) from rfl⟩) (.inl ⟨rfl,rfl⟩) (by simp only[List.map_cons,zW];omega) (nr _) Y dx hd) ?_;refine au ?_;exact pe ⟨(n - 1,s::la,lb,putT acc t.1 (Q.mul t.2 c)),hI.b1 (zM e51) (zK e83)⟩ (ai Y (ai Y (ai Y (ai Y (ai Y (ai (Y) (ai (congrArg (fun z=>some (SV.pv (PV.rows 138 4 [200] z))) sub1) trivial))))))) (ai Y (ai Y (ai Y (ai Y (ai Y (ai Y trivial)))))) Y (by simp only[zW,List.length_nil];omega)
    ·refine ax (c:=rfl) ?_;refine ax (c:=rfl) ?_;refine ax (c:=rfl) ?_;refine ac (c:=ae1 (hI.hb t (mf ..)).sm hq.sm) ?_;refine ac (c:=agy (hI.ha s (mf ..)).bd ((hI.hb t (mf ..)).bd.mul hq.bd) dx dx dx dx) ?_;refine rsc0 (fun _ _ _=>trivial) (fun e=>by cases e) (a9y (l:=acc) (k:=(mrg x y c).const) ((hI.ha s (mf ..)).bd.add ((hI.hb t (mf ..)).bd.mul hq.bd)) dx dx (by have:=hI.hl;omega)) ?_;refine au ?_;refine ro0 Y Y Y (fun hd=>ct ah Y Y Y (.inr ⟨_,rfl,show _=some (SV.pv (iP ((1:Nat):Int))) from rfl⟩) (.inl ⟨rfl,rfl⟩) (by simp only[List.map_cons,zW];omega) (nr _) Y dx hd) ?_;refine au ?_;refine ro0 Y Y Y (fun hd=>ct ah Y Y Y (.inr ⟨_,rfl,show _=some (SV.pv (iP ((1:Nat):Int))) from rfl⟩) (.inl ⟨rfl,rfl⟩) (by simp only[List.map_cons,zW];omega) (nr _) Y dx hd) ?_;refine au ?_;exact pe ⟨(n - 1,la,lb,putT acc s.1 (Q.add s.2 (Q.mul t.2 c))),hI.c1 (zM e51) (zM e83)⟩ (ai Y (ai Y (ai Y (ai Y (ai Y (ai (congrArg (fun z=>some (SV.pv (PV.rows 138 4 [200] z))) sub1) (ai (congrArg (fun z=>some (SV.pv (PV.rows 138 4 [200] z))) sub1) trivial))))))) (ai Y (ai Y (ai Y (ai Y (ai Y (ai Y trivial)))))) Y (by simp only[zW,List.length_nil];omega)
 ·obtain rfl:=aat e25;refine a2 (fun e29=>?_) (fun e29=>?_)
  ·obtain⟨t,lb,rfl⟩:=abz e29;refine akF (c:=by exact ab3) ?_;refine akF (c:=by exact rfl) ?_;refine akT (c:=by exact rfl) ?_;refine ax (c:=rfl) ?_;refine ax (c:=rfl) ?_;refine ac (c:=ae1 (hI.hb t (mf ..)).sm hq.sm) ?_;refine rsc0 (fun _ _ _=>trivial) (fun e=>by cases e) (a9y (l:=acc) (k:=(mrg x y c).const) ((hI.hb t (mf ..)).bd.mul hq.bd) dx dx (by have:=hI.hl;omega)) ?_;refine au ?_;refine ro0 Y Y Y (fun hd=>ct ah Y Y Y (.inr ⟨_,rfl,show _=some (SV.pv (iP ((1:Nat):Int))) from rfl⟩) (.inl ⟨rfl,rfl⟩) (by simp only[List.map_cons,zW];omega) (nr _) Y dx hd) ?_;refine au ?_;exact pe ⟨(n - 1,[],lb,putT acc t.1 (Q.mul t.2 c)),hI.b0⟩ (ai Y (ai Y (ai Y (ai Y (ai Y (ai (Y) (ai (congrArg (fun z=>some (SV.pv (PV.rows 138 4 [200] z))) sub1) trivial))))))) (ai Y (ai Y (ai Y (ai Y (ai Y (ai Y trivial)))))) Y (by simp only[zW,List.length_nil];omega)
  ·obtain rfl:=aat e29;exact ar (c:=congrArg (fun l=>fmP ⟨l,(mrg x y c).const⟩) hI.fin)
theorem am5 (h:x.Lo) (k:y.Lo):PCalls Tryz.prog TF 191 [fmP x,fmP y] (fmP (mrg x y Q.one)):=by
 refine pcA [37] Tryz.func191 (fun D=>?_);refine ac (c:=p_of 1 dx dx) ?_;refine ac (c:=a3g (c:=Q.one) h k an0) ?_;exact ar (c:=rfl)
theorem am4 (h:x.Lo) (k:y.Lo):PCalls Tryz.prog TF 140 [fmP x,fmP y] (fmP (mrg x y Q.mone)):=by
 refine pcA [37] Tryz.func140 (fun D=>?_);refine ac (c:=p_of (-1) dx dx) ?_;refine ac (c:=a3g (c:=Q.mone) h k ajr) ?_;exact ar (c:=rfl)
theorem ae2 (h:x.Lo) (hq:c.Lo):PCalls Tryz.prog TF 187 [fmP x,ratP c] (fmP (mrg Fm.zero x c)):=by
 refine pcA [37,35] Tryz.func187 (fun D=>?_);refine ac (c:=a3g (x:=Fm.zero) ⟨(fun t ht=>by cases ht),ajq,by decide⟩ h hq) ?_;exact ar (c:=rfl)
end
theorem ai0 {q:Q} {n d:Nat} (h:q.Bd n d) (hn:n≤100000):PCalls Tryz.prog [] 27 [ratP q] (iP (isg q.neg q.num)):=a76 (by kernel_rfl) fun w a ha=>a15 w a q ha (nt h.num (nt hn dx))
theorem ahl {l:List Tm} {v:Int} {c:Q} (h:(isg c.neg c.num == 0)=true):l=snoc l v c:=by
 rw[um,de] at h;rw[snoc,if_pos h]
theorem acr {l:List Tm} {v:Int} {c:Q} (h:(isg c.neg c.num == 0)=false):l++[(v,c)]=snoc l v c:=by
 rw[um,decide_eq_false_iff_not] at h;rw[snoc,if_neg h]
theorem r_nz {l:List Tm} {v:Int} {c:Q} {n d:Nat} (hc:c.Bd n d) (hn:n≤100000) (hl:l.length≤1000000):SCalls Tryz.prog (fun _=>True) [] 70 [.tok 1000,.pv (.agg (tmC (v,c)))] (some (.tok 138 4 [200] (l.map tmC))) (.tok 138 4 [200] ((snoc l v c).map tmC)) (.tok 1000) true:=by
 refine pcs [138] Tryz.func70 (fun D hH hF=>?_);refine ac (c:=ai0 hc hn) ?_;refine a2 (fun e8=>?_) (fun e8=>?_)
 ·refine au ?_;exact rets Y Y (congrArg (fun x=>some (Res.tok 138 4 [200] (List.map tmC x))) (ahl e8))
 ·refine au ?_;refine rp0 a3y (by rw[zB];show l.length+1≤_;omega) Y Y Y Y Y Y Y Y ?_;refine au ?_;exact rets Y Y (congrArg (fun x=>some (Res.tok _ _ _ x)) (tm_snoc.trans (congrArg (List.map tmC) (acr e8))))
theorem zk {v:Int} {c:Q} {l acc:List Tm} {i:Nat} {d:Bool} (hi:i < l.length) (h:fc v c d (l.drop i) acc=kh l v c):
  ((atZ l (i:Int)).1=v→fc v c true (l.drop (i+1)) (snoc acc (atZ l (i:Int)).1 (Q.add (atZ l (i:Int)).2 c))=kh l v c)∧((atZ l (i:Int)).1≠v→d=false→v < (atZ l (i:Int)).1→fc v c true (l.drop (i+1)) (snoc (snoc acc v (ci c)) (atZ l (i:Int)).1 (atZ l (i:Int)).2)=kh l v c)∧((atZ l (i:Int)).1≠v→¬(d=false∧v < (atZ l (i:Int)).1)→fc v c d (l.drop (i+1)) (snoc acc (atZ l (i:Int)).1 (atZ l (i:Int)).2)=kh l v c):=by
 have e:l.drop i=atZ l (i:Int)::l.drop (i+1):=by rw[bm (ge hi),zQ hi]
 rw[e,fc] at h;refine⟨fun h1=>?_,fun h1 h2 h3=>?_,fun h1 h2=>?_⟩
 ·rwa [if_pos h1] at h
 ·rwa [if_neg h1,if_pos ⟨h2,h3⟩] at h
 ·rwa [if_neg h1,if_neg h2] at h
theorem a57 {v:Int} {c:Q} {l acc:List Tm} {i:Nat} {d:Bool} (hi:l.length≤i) (h:fc v c d (l.drop i) acc=kh l v c):(bif d then acc else snoc acc v (ci c))=kh l v c:=by
 rw[List.drop_of_length_le hi,fc] at h;rw[← h];cases d<;>rfl
theorem wj {a b:Int} (h:(a == b)=false):a≠b:=beq_eq_false_iff_ne.1 h
theorem ai3 {f:Fm} {v:Int} {c:Q} (hx:∀t∈f.terms,t.2.Sm∧t.2.Ok) (hc:c.Sm) (hco:c.Ok) (hn:f.terms.length≤1000):PCalls Tryz.prog TF 68 [fmP f,iP v,ratP c] (fmP ⟨kh f.terms v c,f.const⟩):=by
 refine pcA [37,35,138] Tryz.func68 (fun D=>?_);refine au ?_;refine tks (t:=7) (id:=1000) (e:=138) (k:=4) (ts:=[200]) Y ?_;refine pl (ι:={p:Nat×List Tm×Bool // p.1≤f.terms.length∧fc v c p.2.2 (f.terms.drop p.1) p.2.1=kh f.terms v c∧p.2.1.length≤2*p.1}) (fun p=>[(1,.pv (iP v)),(3,.box 3 0),(5,.box 5 0),(6,.box 6 0),(7,.tok 1000),(8,.pv (bP p.1.2.2)),(9,.pv (iP (p.1.1:Int)))]) (fun p=>[(3,.box 37 [.pv (cf f.terms),.pv (bP f.const.neg),.pv (.nat f.const.num),.pv (.nat f.const.den)]),(5,.box 35 [.pv (bP c.neg),.pv (.nat c.num),.pv (.nat c.den)]),(6,.box 37 [.nil 138 4 [200],.pv (bP false),.pv (.nat 0),.pv (.nat 0)]),(1000,.tok 138 4 [200] (p.1.2.1.map tmC))]) [37,35,138] (fun p=>f.terms.length - p.1.1) ⟨(0,[],false),nq _,rfl,nr _⟩ (ai Y (ai Y (ai Y (ai Y (ai Y (ai Y (ai Y trivial))))))) (ai Y (ai Y (ai Y (ai Y trivial)))) (fun _=>rfl) ?_;intro ⟨(i,acc,d),hi0,hg,hl⟩;simp only at hi0 hg hl;refine a2 (fun e15=>?_) (fun e15=>?_)
 ·have hi:i < f.terms.length:=dw e15;refine ax (c:=(ae (ab hi))) ?_;refine a2 (fun e26=>?_) (fun e26=>?_)
  ·refine ac (c:=a72 (hx _ (bg (l:=f.terms) (z:=(i:Int)) om om)).1 hc (hx _ (bg (l:=f.terms) (z:=(i:Int)) om om)).2 hco) ?_;refine au ?_;refine rsc0 (fun _ _ _=>trivial) (fun e=>by cases e) (r_nz (l:=acc) (v:=(atZ f.terms (i:Int)).1) (c:=Q.add (atZ f.terms (i:Int)).2 c) ((hx _ (bg (l:=f.terms) (z:=(i:Int)) om om)).1.lo.bd.add hc.lo.bd) dx om) ?_;refine aa (c:=a8 (by show i≤_;omega)) ?_;refine au ?_;exact pe ⟨(i+1,snoc acc (atZ f.terms (i:Int)).1 (Q.add (atZ f.terms (i:Int)).2 c),true),hi,(zk hi hg).1 (eq_of_beq e26),nt (dy ..) om⟩ (ai Y (ai Y (ai Y (ai Y (ai Y (ai Y (ai Y trivial))))))) (ai Y (ai Y (ai Y (ai Y trivial)))) Y (by show f.terms.length - (i+1) < f.terms.length - i;omega)
  ·refine a2 (fun e34=>?_) (fun e34=>?_)
   ·replace e34:=il e34;have e34:d=false:=by cases d<;>first | rfl | cases e34
    refine a2 (fun e39=>?_) (fun e39=>?_)
    ·refine ac (c:=kg hc) ?_;refine au ?_;refine rsc0 (fun _ _ _=>trivial) (fun e=>by cases e) (r_nz (l:=acc) (v:=v) (c:=ci c) hc.lo.bd.canon dx om) ?_;refine au ?_;refine rsc0 (fun _ _ _=>trivial) (fun e=>by cases e) (r_nz (l:=(snoc acc v (ci c))) (v:=(atZ f.terms (i:Int)).1) (c:=(atZ f.terms (i:Int)).2) (hx _ (bg (l:=f.terms) (z:=(i:Int)) om om)).1.lo.bd dx (by have:=dy acc v (ci c);omega)) ?_;refine aa (c:=a8 (by show i≤_;omega)) ?_;refine au ?_;exact pe ⟨(i+1,snoc (snoc acc v (ci c)) (atZ f.terms (i:Int)).1 (atZ f.terms (i:Int)).2,true),hi,(zk hi hg).2.1 (wj e26) e34 (zK e39),nt (dy ..) (by have:=dy acc v (ci c);omega)⟩ (ai Y (ai Y (ai Y (ai Y (ai Y (ai Y (ai Y trivial))))))) (ai Y (ai Y (ai Y (ai Y trivial)))) Y (by show f.terms.length - (i+1) < f.terms.length - i;omega)
    ·refine au ?_;refine rsc0 (fun _ _ _=>trivial) (fun e=>by cases e) (r_nz (l:=acc) (v:=(atZ f.terms (i:Int)).1) (c:=(atZ f.terms (i:Int)).2) (hx _ (bg (l:=f.terms) (z:=(i:Int)) om om)).1.lo.bd dx (by have:=dy acc v (ci c);omega)) ?_;refine aa (c:=a8 (by show i≤_;omega)) ?_;refine au ?_;exact pe ⟨(i+1,snoc acc (atZ f.terms (i:Int)).1 (atZ f.terms (i:Int)).2,d),hi,(zk hi hg).2.2 (wj e26) (fun hh=>absurd hh.2 (zM e39)),nt (dy ..) om⟩ (ai Y (ai Y (ai Y (ai Y (ai Y (ai Y (ai Y trivial))))))) (ai Y (ai Y (ai Y (ai Y trivial)))) Y (by show f.terms.length - (i+1) < f.terms.length - i;omega)
   ·replace e34:=j0 e34;have e34:d=true:=by cases d<;>first | rfl | cases e34
    refine au ?_;refine rsc0 (fun _ _ _=>trivial) (fun e=>by cases e) (r_nz (l:=acc) (v:=(atZ f.terms (i:Int)).1) (c:=(atZ f.terms (i:Int)).2) (hx _ (bg (l:=f.terms) (z:=(i:Int)) om om)).1.lo.bd dx (by have:=dy acc v (ci c);omega)) ?_;refine aa (c:=a8 (by show i≤_;omega)) ?_;refine au ?_;exact pe ⟨(i+1,snoc acc (atZ f.terms (i:Int)).1 (atZ f.terms (i:Int)).2,d),hi,(zk hi hg).2.2 (wj e26) (fun hh=>by rw[hh.1] at e34;cases e34),nt (dy ..) om⟩ (ai Y (ai Y (ai Y (ai Y (ai Y (ai Y (ai Y trivial))))))) (ai Y (ai Y (ai Y (ai Y trivial)))) Y (by show f.terms.length - (i+1) < f.terms.length - i;omega)
 ·have hj:f.terms.length≤i:=fx e15;refine a2 (fun e50=>?_) (fun e50=>?_)
  ·replace e50:=il e50;have e50:d=false:=by cases d<;>first | rfl | cases e50
   refine ac (c:=kg hc) ?_;refine au ?_;refine rsc0 (fun _ _ _=>trivial) (fun e=>by cases e) (r_nz (l:=acc) (v:=v) (c:=ci c) hc.lo.bd.canon dx om) ?_;exact ar (c:=congrArg (fun l=>fmP ⟨l,f.const⟩) (by have:=a57 hj hg;rw[e50] at this;exact this))
  ·replace e50:=j0 e50;have e50:d=true:=by cases d<;>first | rfl | cases e50
   exact ar (c:=congrArg (fun l=>fmP ⟨l,f.const⟩) (by have:=a57 hj hg;rw[e50] at this;exact this))
theorem ag3 {x y:List Tm} {i:Nat} (hi:i < y.length):kh (addT x (y.take i)) (atZ y (i:Int)).1 (atZ y (i:Int)).2=addT x (y.take (i+1)):=by
 rw[List.take_add_one,ab hi];exact (a2s ..).symm
theorem ag5 {x y:List Tm} (h:x.length+y.length≤900):((addT x y).map tmC).length≤900:=by
 rw[zB];exact nt (ut ..) h
theorem a6r {c:Q} {y acc:List Tm} {i:Nat} (hi:i < y.length) (h:eb c acc (y.drop i)=eb c [] y):eb c (snoc acc (atZ y (i:Int)).1 (Q.mul (atZ y (i:Int)).2 c)) (y.drop (i+1))=eb c [] y:=by
 rw[← h,zQ hi,bm (ge hi)];rfl
theorem akr {s l t m:Nat} {f g:Fm} (h:f.S s l) (k:g.S t m) (hs:s+t+1≤10000) (n:Nat):∀x∈addT f.terms (g.terms.take n),x.2.Sm∧x.2.Ok:=fun x hx=>by
 have h2:=ahe (y:=g.terms.take n) h.cn.srt h.cn.nz (List.Pairwise.sublist (List.take_sublist ..) k.cn.srt) (fun y hy=>k.cn.nz y (List.mem_of_mem_take hy)) h.each (fun y hy=>k.each y (List.mem_of_mem_take hy)) h.const.pos k.const.pos x hx;exact⟨h2.sm hs,h2.ok⟩
theorem a52 {s l t m:Nat} {f g:Fm} (h:f.S s l) (k:g.S t m) (hs:s+t+1≤10000) (hl:l+m≤900):PCalls Tryz.prog TF 31 [fmP f,fmP g] (fmP (Fm.addR f g)):=by
 have l1:=h.len;have l2:=k.len;refine pcA [37] Tryz.func31 (fun D=>?_);refine ac (c:=a72 (h.const.sm om) (k.const.sm om) h.const.ok k.const.ok) ?_;refine qg 3 ?_;refine rn (by kernel_rfl) ?_
 apply a9o (sl:=[(2,_),(3,_),(4,_),(5,_)]) (rs:=[(2,_),(3,_),(4,_),(5,.box 37 [.pv (cf (addT f.terms g.terms)),.pv (bP (Q.add f.const g.const).neg),.pv (.nat (Q.add f.const g.const).num),.pv (.nat (Q.add f.const g.const).den)])]) [37,138] (True)
 case h1=>
  refine au ?_;refine pl (ι:={i:Nat // i≤g.terms.length}) (fun i=>[(2,.box 2 0),(3,.box 3 0),(4,.box 4 0),(5,.box 5 0),(6,.pv (iP (i.1:Int)))]) (fun i=>[(2,.box 37 [.pv (cf f.terms),.pv (bP f.const.neg),.pv (.nat f.const.num),.pv (.nat f.const.den)]),(3,.box 37 [.pv (cf g.terms),.pv (bP g.const.neg),.pv (.nat g.const.num),.pv (.nat g.const.den)]),(4,.box 37 [.nil 138 4 [200],.pv (bP false),.pv (.nat 0),.pv (.nat 0)]),(5,.box 37 [.pv (cf (addT f.terms (g.terms.take i.1))),.pv (bP (Q.add f.const g.const).neg),.pv (.nat (Q.add f.const g.const).num),.pv (.nat (Q.add f.const g.const).den)])]) [37] (fun i=>g.terms.length - i.1) ⟨0,nq _⟩ (ai Y (ai Y (ai Y (ai Y (ai Y trivial))))) (ai Y (ai Y (ai Y (ai Y trivial)))) (fun _=>rfl) ?_;intro ⟨i,hi0⟩;refine a2 (fun e19=>?_) (fun e19=>?_)
  ·have hi:i < g.terms.length:=dw e19;refine ax (c:=(ae (ab hi))) ?_;refine ax (c:=(ae (ab hi))) ?_;refine ac (c:=ai3 (f:=⟨addT f.terms (g.terms.take i),Q.add f.const g.const⟩) (c:=(atZ g.terms (i:Int)).2) (akr h k hs i) ((k.each _ (bg (l:=g.terms) (z:=(i:Int)) om om)).sm om) (k.each _ (bg (l:=g.terms) (z:=(i:Int)) om om)).ok (nt (ut ..) (by rw[List.length_take];omega))) ?_;refine aa (c:=a8 (by show i≤_;omega)) ?_;refine au ?_;exact pe ⟨i+1,hi⟩ (ai Y (ai Y (ai Y (ai Y (ai Y trivial))))) (ai Y (ai Y (ai Y (ai (congrArg (fun l=>some (Res.box 37 [.pv (cf l),.pv (bP (Q.add f.const g.const).neg),.pv (.nat (Q.add f.const g.const).num),.pv (.nat (Q.add f.const g.const).den)])) (ag3 hi)) trivial)))) Y (by show g.terms.length - (i+1) < g.terms.length - i;omega)
  ·have hj:g.terms.length≤i:=fx e19;refine au ?_;refine⟨?_,trivial⟩;refine Sub.of ?_ ?_ ?_
   ·exact (ai (rfl) (ai (rfl) (ai (rfl) (ai (rfl) trivial))))
   ·exact (ai (rfl) (ai (rfl) (ai (rfl) (ai (congrArg (fun l=>some (Res.box 37 [.pv (cf (addT f.terms l)),.pv (bP (Q.add f.const g.const).neg),.pv (.nat (Q.add f.const g.const).num),.pv (.nat (Q.add f.const g.const).den)])) (List.take_of_length_le hj)) trivial))))
   ·rfl
 case h2=>
  intro _;refine au ?_;refine rp0 a3y (nt (Nat.le_of_eq (Nat.zero_add _)) (nt (ag5 (x:=f.terms) (y:=g.terms) om) dx)) Y Y Y Y Y Y Y Y ?_;exact ar (c:=rfl)
theorem ip {s l t:Nat} {f:Fm} {q:Q} (h:f.S s l) (k:q.S t) (hs:s≤10000) (ht:t≤10000) (hl:l≤900):PCalls Tryz.prog TF 32 [fmP f,ratP q] (fmP (Fm.scaleR f q)):=by
 have l1:=h.len;refine pcA [37,35,138] Tryz.func32 (fun D=>?_);refine ac (c:=adb (h.const.sm hs) (k.sm ht)) ?_;refine au ?_;refine tkb (b:=5) (off:=0) (id:=1000) (e:=138) (k:=4) (ts:=[200]) Y ?_;refine pl (ι:={p:Nat×List Tm // p.1≤f.terms.length∧eb q p.2 (f.terms.drop p.1)=eb q [] f.terms∧p.2.length≤p.1}) (fun p=>[(2,.box 2 0),(3,.box 3 0),(4,.box 4 0),(5,.box 5 0),(6,.pv (iP (p.1.1:Int)))]) (fun p=>[(2,.box 37 [.pv (cf f.terms),.pv (bP f.const.neg),.pv (.nat f.const.num),.pv (.nat f.const.den)]),(3,.box 35 [.pv (bP q.neg),.pv (.nat q.num),.pv (.nat q.den)]),(4,.box 37 [.nil 138 4 [200],.pv (bP false),.pv (.nat 0),.pv (.nat 0)]),(5,.box 37 [.tok 1000,.pv (bP (Q.mul f.const q).neg),.pv (.nat (Q.mul f.const q).num),.pv (.nat (Q.mul f.const q).den)]),(1000,.tok 138 4 [200] (p.1.2.map tmC))]) [37,35,138] (fun p=>f.terms.length - p.1.1) ⟨(0,[]),nq _,rfl,nr _⟩ (ai Y (ai Y (ai Y (ai Y (ai Y trivial))))) (ai Y (ai Y (ai Y (ai Y (ai Y trivial))))) (fun _=>rfl) ?_;intro ⟨(i,acc),hi0,hg,ha⟩;simp only at hi0 hg ha;refine a2 (fun e16=>?_) (fun e16=>?_)
 ·have hi:i < f.terms.length:=dw e16;refine ax (c:=(ae (ab hi))) ?_;refine ax (c:=(ae (ab hi))) ?_;refine ac (c:=adb ((h.each _ (bg (l:=f.terms) (z:=(i:Int)) om om)).sm hs) (k.sm ht)) ?_;refine au ?_;refine rsc0 (fun _ _ _=>trivial) (fun e=>by cases e) (r_nz (l:=acc) (v:=(atZ f.terms (i:Int)).1) (c:=Q.mul (atZ f.terms (i:Int)).2 q) (((h.each _ (bg (l:=f.terms) (z:=(i:Int)) om om)).sm hs).lo.bd.mul (k.sm ht).lo.bd) dx om) ?_;refine aa (c:=a8 (by show i≤_;omega)) ?_;refine au ?_;exact pe ⟨(i+1,snoc acc (atZ f.terms (i:Int)).1 (Q.mul (atZ f.terms (i:Int)).2 q)),hi,a6r hi hg,nt (dy ..) (Nat.succ_le_succ ha)⟩ (ai Y (ai Y (ai Y (ai Y (ai Y trivial))))) (ai Y (ai Y (ai Y (ai Y (ai Y trivial))))) Y (by show f.terms.length - (i+1) < f.terms.length - i;omega)
 ·have hj:f.terms.length≤i:=fx e16;exact ar (c:=congrArg (fun l=>fmP ⟨l,Q.mul f.const q⟩) (by rw[List.drop_of_length_le hj,eb] at hg;exact hg))
def Fm.subR (f g:Fm):Fm:=Fm.addR f (Fm.scaleR g Q.mone)
theorem Fm.S.subR {s l t m:Nat} {f g:Fm} (h:f.S s l) (k:g.S t m):(Fm.subR f g).S (s+(t+1)+1) (l+m):=h.addR (k.scaleR er)
theorem m9 {s l t m:Nat} {f g:Fm} (h:f.S s l) (k:g.S t m) (hs:s+(t+1)+1≤10000) (hl:l+m≤900):PCalls Tryz.prog TF 122 [fmP f,fmP g] (fmP (Fm.subR f g)):=by
 have e:ofQ (-1)=Q.mone:=rfl;refine pc [37] (by kernel_rfl) Tryz.func122 Y Y (fun D=>?_);refine pa Y Y (pr Y ?_);refine rc (r_of (-1) dx dx) Y Y Y Y Y Y Y Y ?_;refine rc (ip (q:=ofQ (-1)) k er om dx om) Y Y Y Y Y Y Y Y ?_;refine rc (a52 h (k.scaleR er) hs hl) Y Y Y Y Y Y Y Y (rn (by kernel_rfl) ?_);exact pt (xm Y Y)
def varR (v:Int):Fm:=⟨[(v,Q.one)],Q.zero⟩
def numR (q:Q):Fm:=⟨[],q⟩
theorem ff (v:Int):(varR v).S 1 1:=⟨⟨by simp[Srt',varR],(fun t ht=>by rw[mj ht];exact⟨(by decide:Q.one.Ok),(by decide:Q.one.num≠0)⟩),(by decide:Q.zero.Ok)⟩,fun t ht=>by rw[mj ht];exact sz_one,sz_zero,nr _⟩
theorem db {q:Q} {s:Nat} (h:q.S s):(numR q).S s 0:=⟨⟨by simp[Srt',numR],(fun t ht=>by cases ht),h.ok⟩,fun t ht=>(by cases ht),h,nr _⟩
theorem a38 (v:Int):PCalls Tryz.prog TF 60 [iP v] (fmP (varR v)):=by
 refine pc [37] (by kernel_rfl) Tryz.func60 Y Y (fun D=>?_);refine pa Y Y (pr Y ?_);refine rc (r_of 1 dx dx) Y Y Y Y Y Y Y Y ?_;refine rl Y Y Y Y Y Y Y Y (rn Y ?_);exact pt (xm Y Y)
theorem a1e {q:Q}:PCalls Tryz.prog TF 62 [ratP q] (fmP (numR q)):=by
 refine pc [37,35] (by kernel_rfl) Tryz.func62 Y Y (fun D=>?_);refine pa Y Y (pa Y Y ?_);exact pt (xm Y Y)
theorem Q.mul_one {x:Q} (h:x.Ok):Q.mul x Q.one=x:=by
 unfold Q.mul;have e1:Q.one.un=1:=rfl;simp only[e1,Nat.mul_one];have:(x.neg != false)=x.neg:=by cases x.neg<;>rfl
 rw[this];exact jl h
theorem Fm.Cn.ext {f g:Fm} (h:f.Cn) (k:g.Cn) (e:∀v,cfL f.terms v=cfL g.terms v) (ec:f.const=g.const):f=g:=by
 have:=a42 h.srt k.srt h.nz k.nz e;obtain⟨a,b⟩:=f;obtain⟨c,d⟩:=g;simp only at this ec;rw[this,ec]
theorem Fm.Cn.scale_one {f:Fm} (h:f.Cn):Fm.scaleR f Q.one=f:=Fm.Cn.ext h.scaleR h (fun v=>by rw[h.scale_cf,Q.mul_one (a2l h.nz)]) (Q.mul_one h.const)
theorem Fm.Cn.zero_addR {f:Fm} (h:f.Cn):Fm.addR Fm.zero f=f:=Fm.Cn.ext (cn_zero.addR h) h (fun v=>by rw[cn_zero.add_cf h,show cfL Fm.zero.terms v=Q.zero from rfl,Q.zadd (a2l h.nz)]) (Q.zadd h.const)
theorem Fm.Cn.addR_zero {f:Fm} (h:f.Cn):Fm.addR f Fm.zero=f:=Fm.Cn.ext (h.addR cn_zero) h (fun v=>by rw[h.add_cf cn_zero,show cfL Fm.zero.terms v=Q.zero from rfl,Q.addz (a2l h.nz)]) (Q.addz h.const)
theorem aa3 {s l t m:Nat} {f g:Fm} (h:f.S s l) (k:g.S t m) (hs:s≤10000) (ht:t≤10000) (hl:l≤400) (hm:m≤400):PCalls Tryz.prog TF 191 [fmP f,fmP g] (fmP (Fm.addR f g)):=by
 have:=am5 (h.lo hs hl) (k.lo ht hm);rwa [aav h.cn k.cn,k.cn.scale_one] at this
theorem mn {s l t m:Nat} {f g:Fm} (h:f.S s l) (k:g.S t m) (hs:s≤10000) (ht:t≤10000) (hl:l≤400) (hm:m≤400):PCalls Tryz.prog TF 140 [fmP f,fmP g] (fmP (Fm.subR f g)):=by
 have:=am4 (h.lo hs hl) (k.lo ht hm);rwa [aav h.cn k.cn] at this
theorem qm {s l t:Nat} {f:Fm} {q:Q} (h:f.S s l) (k:q.S t) (hs:s≤10000) (ht:t≤10000) (hl:l≤400):PCalls Tryz.prog TF 187 [fmP f,ratP q] (fmP (Fm.scaleR f q)):=by
 have:=ae2 (h.lo hs hl) (k.lo ht);rwa [aav cn_zero h.cn,h.cn.scaleR.zero_addR] at this
def PV.brief:PV→Prop
 | .rows _ _ _ xs=>xs.length≤9223372036854775807
 | .agg (.rows _ _ _ xs::_)=>xs.length≤9223372036854775807
 | _=>True
theorem PV.Rep.brief {w:World} {X:Nat→Prop} {p:PV} {v:Value} (h:p.Rep w X v):p.brief:=by
 have key:∀{e k:Nat} {ts:List Nat} {xs:List (List PV)} {u:Value},PV.Rep w X (.rows e k ts xs) u→xs.length≤9223372036854775807:=fun {e k ts xs u} h=>by
  rw[PV.Rep] at h;obtain⟨x,us,_,hn,h1,_⟩:=h;rw[← hn];exact nt h1.cap h1.max
 cases p with
 | rows e k ts xs=>exact key h
 | agg cs=>
  cases cs with
  | nil=>trivial
  | cons c cs=>
   cases c with
   | rows e k ts xs=>
    rw[PV.Rep] at h;obtain⟨us,_,h⟩:=h;rw[PV.RepL] at h;obtain⟨u,_,_,h1,_⟩:=h;exact key h1
   | _=>trivial
 | _=>trivial
theorem pln {C:Cx} {st:St} {Q:Exit→St→Prop} {c:Code} {p:PV} (t:Nat) (hs:st.slot t=some (.pv p)) (h:p.brief→PW C c st Q):PW C c st Q:=fun a w ht ⟨B,T,hi⟩=>by
 have h1:=hi.slot t _ hs;rw[SV.Rep] at h1;exact h h1.brief a w ht ⟨B,T,hi⟩
theorem xi {n:Nat} (h:n < 9223372036854775807):ariO .add .i64 (n:Int) 1=some (((n+1:Nat)):Int):=by
 show some (IntKind.wrap .i64 ((n:Int)+1))=_;rw[IntKind.wrap_i64];exact congrArg some om
theorem ahc {n:Nat} (h0:decide (0 < (n:Int))=true) (h:n≤9223372036854775807):ariO .sub .i64 (n:Int) 1=some (((n - 1:Nat)):Int):=by
 have:=zK h0;show some (IntKind.wrap .i64 ((n:Int) - 1))=_;rw[IntKind.wrap_i64];exact congrArg some om
theorem age {q:Q} (h:q.num≠0):(q.sign == 0)=false:=by
 have:=vc q;rw[df h] at this;simpa using this
theorem aiw {x:Fm} {v:Nat} (hn:∀t∈x.terms,t.2.Sm) (hc:x.const.Sm) (k:x.Ok v):PCalls Tryz.prog [] 73 [fmP x,iP v] (bP true):=by
 refine pcA [37,138] Tryz.func73 (fun D=>?_);refine pln 0 Y fun hl9=>?_
 have hl9:x.terms.length≤9223372036854775807:=by have h:(x.terms.map tmC).length≤9223372036854775807:=hl9;rw[zB] at h;exact h
 refine au ?_;refine pl (ι:={i:Nat // i≤x.terms.length}) (fun i=>[(1,.pv (iP (v:Int))),(2,.box 2 0),(4,.pv (bP false)),(8,.pv (cf x.terms)),(9,.pv (iP ((x.terms.map tmC).length:Int))),(10,.pv (iP (i.1:Int)))]) (fun _=>[(2,.box 37 [.pv (cf x.terms),.pv (bP x.const.neg),.pv (.nat x.const.num),.pv (.nat x.const.den)])]) [37,138] (fun i=>x.terms.length - i.1) ⟨0,nq _⟩ (ai Y (ai Y (ai Y (ai Y (ai Y (ai Y trivial)))))) (ai Y trivial) (fun _=>rfl) ?_;intro ⟨i,hi0⟩;refine a2 (fun e11=>?_) (fun e11=>?_)
 ·have hi:i < x.terms.length:=dw e11;have hm:=bg (l:=x.terms) (z:=(i:Int)) om om;obtain⟨m1,m2,m3,m4⟩:=k.each _ hm;refine ax (c:=(ae (ab hi))) ?_;refine akF (c:=by exact df om) ?_;refine akF (c:=by exact df om) ?_;refine a2 (fun e27=>?_) (fun e27=>?_)
  ·have h0:0 < i:=by have h:(0:Int) < (i:Int):=zK e27;omega
   have ha:=k.asc (i - 1) _ _ (ab (show i - 1 < x.terms.length by omega)) (by rw[show i - 1+1=i from by omega];exact ab hi);refine aa (c:=ahc e27 (by show i≤_;omega)) ?_;refine ax (c:=(ae (ab (show i - 1 < x.terms.length by omega)))) ?_;refine akF (c:=by exact df om) ?_;refine ac (c:=a9v (hn _ hm)) ?_;refine akF (c:=by exact age m3) ?_;refine ac (c:=lc (hn _ hm) m4) ?_;refine aa (c:=xi (by show i < _;omega)) ?_;refine au ?_;exact pe ⟨i+1,hi⟩ (ai Y (ai Y (ai Y (ai Y (ai Y (ai Y trivial)))))) (ai Y trivial) Y (by show x.terms.length - (i+1) < x.terms.length - i;omega)
  ·refine ac (c:=a9v (hn _ hm)) ?_;refine akF (c:=by exact age m3) ?_;refine ac (c:=lc (hn _ hm) m4) ?_;refine aa (c:=xi (by show i < _;omega)) ?_;refine au ?_;exact pe ⟨i+1,hi⟩ (ai Y (ai Y (ai Y (ai Y (ai Y (ai Y trivial)))))) (ai Y trivial) Y (by show x.terms.length - (i+1) < x.terms.length - i;omega)
 ·refine ac (c:=lc hc k.const) ?_;exact ar (c:=rfl)
theorem ao7 {x:Fm} {v:Nat} (hn:∀t∈x.terms,t.2.Sm) (hc:x.const.Sm) (k:x.Ok v):PCalls Tryz.prog [] 87 [fmP x,iP v] (bP true):=by
 refine pcA [37,138] Tryz.func87 (fun D=>?_);refine pln 0 Y fun hl9=>?_
 have hl9:x.terms.length≤9223372036854775807:=by have h:(x.terms.map tmC).length≤9223372036854775807:=hl9;rw[zB] at h;exact h
 refine au ?_;refine pl (ι:={i:Nat // i≤x.terms.length}) (fun i=>[(1,.pv (iP (v:Int))),(2,.box 2 0),(4,.pv (bP false)),(5,.pv (iP (i.1:Int)))]) (fun _=>[(2,.box 37 [.pv (cf x.terms),.pv (bP x.const.neg),.pv (.nat x.const.num),.pv (.nat x.const.den)])]) [37,138] (fun i=>x.terms.length - i.1) ⟨0,nq _⟩ (ai Y (ai Y (ai Y (ai Y trivial)))) (ai Y trivial) (fun _=>rfl) ?_;intro ⟨i,hi0⟩;refine a2 (fun e11=>?_) (fun e11=>?_)
 ·have hi:i < x.terms.length:=dw e11;have hm:=bg (l:=x.terms) (z:=(i:Int)) om om;obtain⟨m1,m2,m3,m4⟩:=k.each _ hm;refine ax (c:=(ae (ab hi))) ?_;refine akF (c:=by exact df om) ?_;refine akF (c:=by exact df om) ?_;refine a2 (fun e31=>?_) (fun e31=>?_)
  ·have h0:0 < i:=by have h:(0:Int) < (i:Int):=zK e31;omega
   have ha:=k.asc (i - 1) _ _ (ab (show i - 1 < x.terms.length by omega)) (by rw[show i - 1+1=i from by omega];exact ab hi);refine aa (c:=ahc e31 (by show i≤_;omega)) ?_;refine ax (c:=(ae (ab (show i - 1 < x.terms.length by omega)))) ?_;refine akF (c:=by exact df om) ?_;refine ac (c:=ig (hn _ hm)) ?_;refine akF (c:=by exact (um _).trans (df m3)) ?_;refine ac (c:=mm (hn _ hm) m4) ?_;refine aa (c:=xi (by show i < _;omega)) ?_;refine au ?_;exact pe ⟨i+1,hi⟩ (ai Y (ai Y (ai Y (ai Y trivial)))) (ai Y trivial) Y (by show x.terms.length - (i+1) < x.terms.length - i;omega)
  ·refine ac (c:=ig (hn _ hm)) ?_;refine akF (c:=by exact (um _).trans (df m3)) ?_;refine ac (c:=mm (hn _ hm) m4) ?_;refine aa (c:=xi (by show i < _;omega)) ?_;refine au ?_;exact pe ⟨i+1,hi⟩ (ai Y (ai Y (ai Y (ai Y trivial)))) (ai Y trivial) Y (by show x.terms.length - (i+1) < x.terms.length - i;omega)
 ·refine ac (c:=mm hc k.const) ?_;exact ar (c:=rfl)
theorem zo {x:Fm} {v:Nat} (h:x.Lo) (k:x.Ok v):PCalls Tryz.prog [] 73 [fmP x,iP v] (bP true):=aiw (fun t ht=>(h.num t ht).sm) h.const.sm k
theorem r_v7 {x:Fm} {v:Nat} (h:x.Sm v):PCalls Tryz.prog [] 87 [fmP x,iP v] (bP true):=ao7 h.num h.const h.ok
theorem a8w {l:List Fm} {v:Nat} (h:∀x∈l,x.Sm v):PCalls Tryz.prog [] 114 [bc l,iP v] (bP true):=by
 refine pcA [] Tryz.func114 (fun D=>?_);refine pln 0 Y fun hl9=>?_
 have hl9:l.length≤9223372036854775807:=by have h:(l.map fmC).length≤9223372036854775807:=hl9;rw[zB] at h;exact h
 refine au ?_;refine pl (ι:={i:Nat // i≤l.length}) (fun i=>[(0,.pv (bc l)),(1,.pv (iP (v:Int))),(4,.pv (bP false)),(5,.pv (iP (i.1:Int)))]) (fun _=>[]) [] (fun i=>l.length - i.1) ⟨0,nq _⟩ (ai Y (ai Y (ai Y (ai Y trivial)))) trivial (fun _=>rfl) ?_;intro ⟨i,hi0⟩;refine a2 (fun e9=>?_) (fun e9=>?_)
 ·have hi:i < l.length:=dw e9;refine ax (c:=(ae (ab hi))) ?_;refine ac (c:=r_v7 (h _ (bg (l:=l) (z:=(i:Int)) om om))) ?_;refine aa (c:=xi (by show i < _;omega)) ?_;refine au ?_;exact pe ⟨i+1,hi⟩ (ai Y (ai Y (ai Y (ai Y trivial)))) trivial Y (by show l.length - (i+1) < l.length - i;omega)
 ·exact ar (c:=rfl)
theorem ac7 {x y:Nat} (h:x≤2000) (k:y≤2000):ariO .add .i64 (x:Int) (y:Int)=some ((x+y:Nat):Int):=by
 show some (IntKind.wrap .i64 ((x:Int)+(y:Int)))=_;rw[fd om om];exact congrArg some om
theorem ahd {α β:Type} {f:α→β} {x:Nat} {l:List α} (h:x≤2000) (k:l.length≤2000):ariO .add .i64 (x:Int) ((l.map f).length:Int)=some ((x+l.length:Nat):Int):=by rw[zB];exact ac7 h k
theorem a51 {g:Gm} (h:g.Va):PCalls Tryz.prog [] 57 [gmP g] (bP true):=by
 have g1:=h.i0;have g2:=h.i9;have g3:=h.u9;have g4:=h.o0;have g5:=h.o9;refine pcA [27] Tryz.func57 (fun D=>?_);refine akF (c:=by exact df om) ?_;refine akF (c:=by exact df om) ?_;refine akF (c:=by exact df (by rw[zB];omega)) ?_;refine akF (c:=by exact df (by rw[zB];omega)) ?_;refine akF (c:=by exact df (by rw[zB];omega)) ?_;refine au ?_;refine pl (ι:={j:Nat // j≤g.units.length}) (fun j=>[(1,.box 1 0),(2,.pv (bP false)),(3,.pv (iP (j.1:Int)))]) (fun _=>[(1,.box 27 [.pv (iP g.inputs),.pv (bc g.units),.pv (bc g.outputs)])]) [27] (fun j=>g.units.length - j.1) ⟨0,nq _⟩ (ai Y (ai Y (ai Y trivial))) (ai Y trivial) (fun _=>rfl) ?_;intro ⟨j,hj0⟩;refine a2 (fun e34=>?_) (fun e34=>?_)
 ·have hi:j < g.units.length:=dw e34;have hu:=h.us j _ (ab hi);refine ax (c:=(ae (ab hi))) ?_;refine aa (c:=ac7 om (by show j≤_;omega)) ?_;refine ac (c:=r_v7 hu) ?_;refine aa (c:=xi (by show j < _;omega)) ?_;refine au ?_;exact pe ⟨j+1,hi⟩ (ai Y (ai Y (ai Y trivial))) (ai Y trivial) Y (by show g.units.length - (j+1) < g.units.length - j;omega)
 ·refine aa (c:=ahd om om) ?_;refine ac (c:=a8w h.os) ?_;exact ar (c:=rfl)
end Go.Proofs.YtbhbainhmfjpdaaGreatDoor
