/- Walks of the search and of what it calls, part 5. -/
import Derived.Test.YtmhphnljfcncpaaGreatDoorMd
import Derived.ArgAppend
import Derived.Laws.EntriesVeiled
set_option linter.unusedVariables false
set_option linter.unusedSimpArgs false
set_option maxRecDepth 100000
set_option maxHeartbeats 8000000
namespace Go.Proofs.YtmhphnljfcncpaaGreatDoor
open Go.RowKit
structure Q.Bd (q:Q) (n d:Nat):Prop where
 num:(limbs q.num).length≤n
 den:q.un≤d
theorem den0_un (s:Bool) (a d:Nat) (hd:0 < d):(Q.mk s a (den0 d)).un=d:=by
 unfold Q.un den0;by_cases h:d=1
 ·rw[if_pos h];exact (if_pos rfl).trans h.symm
 ·rw[if_neg h];exact if_neg (Nat.ne_of_gt hd)
theorem quot_bd (s:Bool) {a b n d:Nat} (ha:(limbs a).length≤n) (hb0:0 < b) (hb:b≤d):(quot s a b).Bd n d:=by
 unfold quot;split
 ·exact⟨by rw[show (Q.zero).num=0 from rfl,limbs_zero];exact nq _,nt (by show (1:Nat)≤b;exact hb0) hb⟩
 ·rename_i h0
  have hg:=Nat.gcd_pos_of_pos_left b (Nat.pos_of_ne_zero h0);have hd2:0 < b / Nat.gcd a b:=Nat.div_pos (Nat.le_of_dvd hb0 (Nat.gcd_dvd_right ..)) hg;refine⟨nt (limbs_len_mono (Nat.div_le_self _ _)) ha,?_⟩;rw[den0_un _ _ _ hd2];exact nt (Nat.div_le_self _ _) hb
theorem Q.Bd.mul {x y:Q} {n d m e:Nat} (h:x.Bd n d) (k:y.Bd m e):(Q.mul x y).Bd (n+m) (d*e):=
 quot_bd _ (nt (limbs_mul_len _ _) (Nat.add_le_add h.num k.num)) (Nat.mul_pos x.un_pos y.un_pos) (Nat.mul_le_mul h.den k.den)
theorem Q.Bd.add {x y:Q} {n d m e:Nat} (h:x.Bd n d) (k:y.Bd m e) (hd:d < B32) (he:e < B32):(Q.add x y).Bd (n+m+2) (d*e):=by
 have h1:(limbs (x.num*y.un)).length≤n+m+1:=nt (limbs_mul_len _ _) (by have:=h.num;have:=un_len1 (nj k.den he);omega);have h2:(limbs (y.num*x.un)).length≤n+m+1:=nt (limbs_mul_len _ _) (by have:=k.num;have:=un_len1 (nj h.den hd);omega);unfold Q.add;refine quot_bd _ ?_ (Nat.mul_pos x.un_pos y.un_pos) (Nat.mul_le_mul h.den k.den);unfold sadd;split
 ·exact limbs_add_len _ _ _ h1 h2
 ·split
  ·exact nt (limbs_len_mono (Nat.sub_le _ _)) (by omega)
  ·exact nt (limbs_len_mono (Nat.sub_le _ _)) (by omega)
structure Q.Lo (q:Q):Prop where
 num:(limbs q.num).length≤1000
 den:q.un≤1000
theorem Q.Lo.bd {q:Q} (h:q.Lo):q.Bd 1000 1000:=⟨h.num,h.den⟩
def canonQ (q:Q):Q:=quot q.neg q.num q.un
theorem Q.Bd.canon {x:Q} {n d:Nat} (h:x.Bd n d):(canonQ x).Bd n d:=quot_bd _ h.num x.un_pos h.den
theorem canonQ_ok {q:Q} (h:q.Ok):canonQ q=q:=quot_self h
theorem sign_zero (q:Q):(q.sign != 0)=!decide (q.num=0):=by
 unfold Q.sign;by_cases h:q.num=0
 ·simp[h]
 ·rw[if_neg h];cases q.neg<;>simp[h]
theorem fr_own0 {w w':World} {v:Value} (hg:w.grownBy w' v.ownBlock):Fr (fun b=>v.ownBlock=some b) w w':=
 ⟨(Below.refl 0 w).grown hg (nq _) (fun _ _=>nq _),fun b hb hne=>hg.block b hb (fun e=>hne e.symm)⟩
def Own {α β:Type} (cs:β→List Value) (Is:World→β→α→Prop) (e k:Nat) (w:World) (B:Nat) (x:Sv) (xs:List α):Prop:=
 ∃ts:List (β×α),w.ownsRow B e k (.slice x.A x.n x.c) x.n (ts.flatMap fun p=>cs p.1)∧xs=ts.map (·.2)∧∀p∈ts,Is w p.1 p.2
section
variable {α β:Type} {cs:β→List Value} {Is:World→β→α→Prop} {e k:Nat} {w w':World} {B:Nat} {x:Sv} {xs:List α}
theorem Own.nil (w:World) (B:Nat):Own cs Is e k w B Sv.none []:=⟨[],World.ownsRow_nil w B e k,rfl,fun p h=>by cases h⟩
theorem Own.len (h:Own cs Is e k w B x xs) (hk:∀b,(cs b).length=k) (h0:0 < k):xs.length=x.n:=by
 obtain⟨ts,⟨h1,_⟩,rfl,_⟩:=h;rw[flat_len (F:=fun p:β×α=>cs p.1) (k:=k) (fun p=>hk p.1)] at h1;rw[List.length_map];exact Nat.eq_of_mul_eq_mul_right h0 h1
theorem Own.rows (h:Own cs Is e k w B x xs) (h0:0 < k):Rows cs Is e k w x xs:=by
 obtain⟨ts,h1,h2,h3⟩:=h;obtain⟨y,hy,_,hi,ht⟩:=Sv.of_row h1 h0;obtain⟨yA,yn,yc⟩:=y;obtain⟨xA,xn,xc⟩:=x;simp only[Value.slice.injEq] at hy;obtain⟨rfl,rfl,rfl⟩:=hy;exact⟨ts,hi,h2,h3,ht⟩
theorem Own.go (h:Own cs Is e k w B x xs) (hI:∀p,∀a,Is w p a→Is w' p a) (hk:∀b,(Value.slice x.A x.n x.c).ownBlock=some b→w'.heap[b]?=w.heap[b]?):Own cs Is e k w' B x xs:=by
 obtain⟨ts,h1,h2,h3⟩:=h;exact⟨ts,rw_keep h1 hk,h2,fun p hp=>hI _ _ (h3 p hp)⟩
theorem Own.lt (h:Own cs Is e k w B x xs):∀b,(Value.slice x.A x.n x.c).ownBlock=some b→B≤b∧b < w.heap.size:=by
 obtain⟨ts,h1,_⟩:=h;exact World.ownsRow.lt h1
theorem Own.gr (h:Own cs Is e k w B x xs) (hI:∀p,∀a,Is w p a→Is w' p a) (G:Gr w w'):Own cs Is e k w' B x xs:=h.go hI fun b hb=>G.below.block b (h.lt b hb).2
theorem Own.ne (h:Own cs Is e k w B x xs) {g t:Nat} {us:Array Value} (hb:Bk w g t us) (ht:t≠e):(Value.slice x.A x.n x.c).ownBlock≠some g:=by
 obtain⟨ts,h1,_⟩:=h;exact rw_ne h1 hb ht
end
theorem Rv.Is.own {w w':World} {r:Rv} {q:Q} {v:Value} {B e k n:Nat} {xs:List Value} (h:r.Is w q) (ho:w.ownsRow B e k v n xs) (he:e≠300) (F:Fr (fun b=>v.ownBlock=some b) w w'):r.Is w' q:=
 h.tf F fun b cs fr hb hh=>by
  obtain⟨cur,hc⟩:=rw_bk ho b hb;exact Bk.not_ty hc he _ _ hh
theorem Bk.put4 {w:World} {p t:Nat} {a b c d:Value} (h:Bk w p t #[a,b,c,d]) (x y z u:Value):
  Bk ((((w.setCell ⟨p,0,none⟩ x).setCell ⟨p,1,none⟩ y).setCell ⟨p,2,none⟩ z).setCell ⟨p,3,none⟩ u) p t #[x,y,z,u]∧Fr (fun b=>b=p) w ((((w.setCell ⟨p,0,none⟩ x).setCell ⟨p,1,none⟩ y).setCell ⟨p,2,none⟩ z).setCell ⟨p,3,none⟩ u):=by
 refine⟨?_,Fr.trans (Fr.trans (Fr.trans (Fr.set w ⟨p,0,none⟩ x rfl) (Fr.set _ ⟨p,1,none⟩ y rfl)) (Fr.set _ ⟨p,2,none⟩ z rfl)) (Fr.set _ ⟨p,3,none⟩ u rfl)⟩;have:=(((Bk.put h 0 x).put 1 y).put 2 z).put 3 u;simpa using this
theorem Rv.inj {a b:Rv} (h:a.v=b.v):a=b:=by
 obtain⟨n,⟨A,k,c⟩,⟨B,l,d⟩⟩:=a;obtain⟨n',⟨A',k',c'⟩,⟨B',l',d'⟩⟩:=b;simp only[Rv.v,Value.agg.injEq,Array.mk.injEq,List.cons.injEq,Value.bool.injEq,Value.slice.injEq,and_true] at h;obtain⟨rfl,⟨rfl,rfl,rfl⟩,rfl,rfl,rfl⟩:=h;rfl
def Rv.At (q:Q) (v:Value) (W:World):Prop:=∃r:Rv,v=r.v∧r.Is W q
theorem Rv.At.gr {W W':World} {v:Value} {q:Q} (h:Rv.At q v W) (G:Gr W W'):Rv.At q v W':=by
 obtain⟨r,e,hr⟩:=h;exact⟨r,e,hr.gr G⟩
theorem Rv.At.is {W:World} {r:Rv} {q:Q} (h:Rv.At q r.v W):r.Is W q:=by
 obtain⟨s,e,hs⟩:=h;rw[Rv.inj e];exact hs
theorem Fv.inj {a b:Fv} (h:a.v=b.v):a=b:=by
 obtain⟨⟨A,k,c⟩,n,⟨B,l,d⟩,⟨C,m,e⟩⟩:=a;obtain⟨⟨A',k',c'⟩,n',⟨B',l',d'⟩,⟨C',m',e'⟩⟩:=b;simp only[Fv.v,Value.agg.injEq,Array.mk.injEq,List.cons.injEq,Value.bool.injEq,Value.slice.injEq,and_true] at h;obtain⟨⟨rfl,rfl,rfl⟩,rfl,⟨rfl,rfl,rfl⟩,rfl,rfl,rfl⟩:=h;rfl
def Fv.At (x:Fm) (v:Value) (W:World):Prop:=∃f:Fv,v=f.v∧f.Is W x
theorem Fv.At.gr {W W':World} {v:Value} {x:Fm} (h:Fv.At x v W) (G:Gr W W'):Fv.At x v W':=by
 obtain⟨r,e,hr⟩:=h;exact⟨r,e,hr.gr G⟩
theorem Fv.At.is {W:World} {f:Fv} {x:Fm} (h:Fv.At x f.v W):f.Is W x:=by
 obtain⟨s,e,hs⟩:=h;rw[Fv.inj e];exact hs
theorem made1 (w:World) (t0:TypeId) (a0:Array Value):Bk (w.alloc (.cells a0 t0)) w.heap.size t0 a0∧Gr w (w.alloc (.cells a0 t0)):=⟨Bk.made w t0 a0,(Gr.refl w).alloc _⟩
def lenOf:Value→Nat
 | .slice _ n _=>n
 | _=>0
def NewAt (t:TypeId) (cs:Array Value) (N:Nat) (v:Value) (W:World):Prop:=∃b,v=.pointer (some ⟨b,0,Option.none⟩)∧Bk W b t cs∧N≤b
theorem NewAt.gr {W W':World} {v:Value} {t N:Nat} {cs:Array Value} (h:NewAt t cs N v W) (G:Gr W W'):NewAt t cs N v W':=by
 obtain⟨b,e,h1,h2⟩:=h;exact⟨b,e,G.bk h1,h2⟩
theorem NewAt.made (W:World) (t:TypeId) (cs:Array Value) (N:Nat) (h:N≤W.heap.size):NewAt t cs N (.pointer (some ⟨W.heap.size,0,Option.none⟩)) (W.alloc (.cells cs t)):=⟨_,rfl,Bk.made _ _ _,h⟩
theorem NewAt.is {W:World} {b t N:Nat} {cs:Array Value} (h:NewAt t cs N (.pointer (some ⟨b,0,Option.none⟩)) W):Bk W b t cs∧N≤b:=by
 obtain⟨b',e,h1,h2⟩:=h;injection e with e;injection e with e;injection e with e;subst e;exact⟨h1,h2⟩
theorem Gr.od {W W':World} (G:Gr W.drew W'):Gr W W':=(Gr.refl W).drew.trans G
theorem Fr.none {X:Nat→Prop} {w w':World} (h:Fr (fun _=>False) w w'):Fr X w w':=h.wide fun _ _ h=>h.elim
theorem Fr.fr0 {X:Nat→Prop} {w w':World} (h:Fr X w w'):Fr (fun _=>True) w w':=⟨h.bel,fun b hb hx=>(hx trivial).elim⟩
theorem op_appS {P:Program} {t e size bytes:Nat} (h:ElemS P t e size bytes) {w:World} {o:Oper} {a:Act} {K:Act→World→Prop} {Q:Exit→Act→World→Prop} (hgd:o.guard=none) (s x:Operand) (ho:o.op=.call { callee:=.builtin .append,args:=#[s,x],argTypes:=#[t,t] })
  (base:Nat) (v:Value) (n:Nat) (xs:List Value) (hs:a.eval s=v) (hown:w.ownsRow base e size v n xs) (ad:Addr) (m c:Nat) (news:List Value) (hx:a.eval x=.slice (some ad) m c) (hl:news.length=m*size) (hnews:∀j u,news[j]?=some u→w.cell? (ad.add j)=some u) (h1:∀u∈news,u.oneCell'=true)
  (h63:n+m≤maxLen) (hbytes:(n+m)*bytes≤140737488355328) (hbase:base≤w.heap.size)
  (hK:∀v' w',w'.ownsRow base e size v' (n+m) (xs++news)→w.grownBy w' v.ownBlock→(v'.ownBlock=v.ownBlock∨v'.ownBlock=some w.heap.size)→K (a.put o.dst v') w'):Oper.wp P o a w K Q:=by
 have:=step_appS (ops:=#[]) (E:=True) (Q:=Q) h hgd s x ho base v n xs hs hown ad m c news hx hl hnews h1 h63 hbytes hbase hK;rwa [if_pos (by simp[Region.wanted,hgd])] at this
theorem bk_cells {W:World} {b t:Nat} {us:Array Value} (h:Bk W b t us) (j:Nat) (u:Value) (hu:us.toList[j]?=some u):W.cell? ((⟨b,0,none⟩:Addr).add j)=some u:=by
 rw[add_mk,Nat.zero_add];refine (h.cell j).trans ?_;rw[← Array.getElem?_toList];exact hu
section
attribute [local go_sem] Oper.semAt_some
theorem elemT:ElemS Tryz.prog 34 108 4 64:=elem_of (z:=.agg #[.int .i64 0,.bool false,.slice none 0 0,.slice none 0 0]) (by kernel_rfl) (by kernel_rfl) rfl (by decide)
abbrev OwnT (w:World) (B:Nat) (x:Sv) (l:List Tm):Prop:=Own Tv.cs Tv.Is 108 4 w B x l
theorem OwnT.fr {w w':World} {B:Nat} {x:Sv} {l:List Tm} {X:Nat→Prop} (h:OwnT w B x l) (F:Fr X w w') (hX:∀b cs fr,X b→w.heap[b]?≠some (.cells cs 300 fr)) (hx:∀b,(Value.slice x.A x.n x.c).ownBlock=some b→¬X b):OwnT w' B x l:=
 h.go (fun p a ha=>⟨ha.var,ha.coef.tf F hX⟩) fun b hb=>F.keep b (h.lt b hb).2 (hx b hb)
theorem OwnT.up {w w':World} {B:Nat} {x:Sv} {l:List Tm} (h:OwnT w B x l) (G:Gr w w'):OwnT w' B x l:=Own.gr h (fun _ _ ha=>ha.gr G) G
theorem OwnT.terms {w:World} {B:Nat} {x:Sv} {l:List Tm} (h:OwnT w B x l):Terms w x l:=h.rows (by decide)
def TermsOne (x:Int) (q:Q) (v:Value) (W:World):Prop:=∃(b:Nat) (t:Tv),v=.slice (some ⟨b,0,none⟩) 1 1∧Bk W b 108 #[.int .i64 t.var,.bool t.coef.neg,.slice t.coef.num.A t.coef.num.n t.coef.num.c,.slice t.coef.den.A t.coef.den.n t.coef.den.c]∧t.Is W (x,q)
theorem TermsOne.gr {W W':World} {x:Int} {q:Q} {v:Value} (h:TermsOne x q v W) (G:Gr W W'):TermsOne x q v W':=by
 obtain⟨b,t,e,h1,h2⟩:=h;exact⟨b,t,e,G.bk h1,h2.gr G⟩
def putT (l:List Tm) (v:Int) (q:Q):List Tm:=if q.num=0 then l else l++[(v,canonQ q)]
theorem OwnT.push {w w':World} {B:Nat} {x:Sv} {l:List Tm} {t:Tv} {v:Int} {q:Q} {v':Value} (ts:List (Tv×Tm)) (h1:w.ownsRow B 108 4 (.slice x.A x.n x.c) x.n (ts.flatMap fun p=>p.1.cs)) (hl:l=ts.map (·.2)) (hts:∀p∈ts,p.1.Is w p.2) (ht:t.Is w (v,q))
  (h:w'.ownsRow B 108 4 v' (x.n+1) ((ts.flatMap fun p=>p.1.cs)++t.cs)) (F:Fr (fun b=>(Value.slice x.A x.n x.c).ownBlock=some b) w w'):∃y:Sv,v'=y.v∧y.n=x.n+1∧OwnT w' B y (l++[(v,q)]):=by
 obtain⟨A,c,rfl⟩:=rw_form h;refine⟨⟨A,x.n+1,c⟩,rfl,rfl,ts++[(t,(v,q))],?_,?_,?_⟩
 ·rw[List.flatMap_append];simpa using h
 ·rw[hl,List.map_append];rfl
 ·intro p hp;rcases List.mem_append.1 hp with hp | hp
  ·exact⟨(hts p hp).var,(hts p hp).coef.own h1 (by decide) F⟩
  ·rw[mj hp];exact⟨ht.var,ht.coef.own h1 (by decide) F⟩
theorem put_any (w:World) (B:Nat) (f:Fv) (l:List Tm) (k:Q) (v:Int) (c:Rv) (q:Q) (hf:OwnT w B f.terms l) (hk:f.const.Is w k) (hc:c.Is w q) (hB:B≤w.heap.size) (hn:l.length≤1000000) (h1:(limbs q.num).length≤1000000) (h2:q.un < B32):
  Calls Tryz.prog 268 #[f.v,.int .i64 v,c.v] w fun e w'=>∃y:Sv,e=.returned (Fv.v ⟨y,f.const⟩)∧OwnT w' B y (putT l v q)∧Fr (fun b=>(Value.slice f.terms.A f.terms.n f.terms.c).ownBlock=some b) w w':=by
 obtain⟨B1,B2,B3,G⟩:=made3 w 40 38 40 f.ar c.ar Fl;have HA:=I (hf.up G);have HC:=I (hc.gr G);have HG:=I G;have C1:=I B1;have C2:=I B2;have C3:=I B3;have L1:=I h1;have L2:=I h2;have LN:=I hn;have LB:=I hB;have HS:=I (sign_any _ c q HC h1);have hz:=I (sign_zero q);obtain⟨a0,a1,a2,a3⟩:=B1.c4;obtain⟨b0,b1,b2⟩:=B2.c3;clear hf hk hc B1 B2 B3 G h1 h2 hn hB;simp only[Rv.v,Fv.v] at*;go_enter Tryz.func268,Tryz.ntmps268;go_wp2_with fail;refine cm0 HS fun w1 G1=>?_
 have D1:=I (G1.bk C1);have D2:=I (G1.bk C2);have D3:=I (G1.bk C3);have HA1:=I (HA.up G1);have HC1:=I (HC.gr G1);have HG1:=I (HG.trans G1);clear a0 a1 a2 a3 b0 b1 b2 C1 C2 C3 HA HC HG HS;obtain⟨a0,a1,a2,a3⟩:=D1.c4;obtain⟨b0,b1,b2⟩:=D2.c3;have r0_:=D3.c4;have fz:=D3.frozen;have h9:¬w.heap.size=w.heap.size+1+1:=by omega
 have h8:¬w.heap.size=w.heap.size+1:=by omega
 have hpo:Hid (w.heap.size≤w.heap.size+1+1):=nt (Nat.le_succ _) (Nat.le_succ _);have hqo:Hid (w.heap.size≤w.heap.size):=nr _;generalize w.heap.size+1+1=r at*;generalize w.heap.size+1=g at*;generalize hp:w.heap.size=p at*;have hPE:=I hp;clear hp;have h7:¬r=p:=fun e=>h9 e.symm
 generalize q.sign=sg at*;by_cases h0:q.num=0
 ·have hd:(sg != 0)=false:=by rw[hz.out,dt h0];rfl
  go_wp2;refine pex ?_;refine ks D3 fun W5 B5 F5=>?_
  have d_:=B5.c4;refine bret Tryz.results268 ?_;refine⟨f.terms,rfl,?_,?_⟩
  ·unfold putT;rw[if_pos h0];exact HA1.fr F5 (fun b cs fr e hh=>Bk.not_ty D3 (by decide) cs fr (e▸hh)) fun b hb e=>HA1.ne D3 (by decide) (e▸hb)
  ·exact ((HG1.fr_at F5 (by rw[hPE.out];exact hpo.out)).fr).wide fun _ _ h=>h.elim
 ·have hd:(sg != 0)=true:=by rw[hz.out,df h0];rfl
  have h8':¬g=p:=fun e=>h8 e.symm
  obtain⟨ts,t1,t2,t3⟩:=HA1.out;have T1:=I t1;have T2:=I t2;have T3:=I t3;have LX:Hid (f.terms.n≤1000000):=by
   have e:=HA1.len Tv.len (by decide);show f.terms.n≤1000000;rw[← e];exact LN.out
  clear t1 t2 t3 HA1;go_upto_region 2 with fail;refine wpr ?_;have kc:=I fun W' (G:Gr w1.drew W')=>G.kk a0 <| G.kk a1 <| G.kk a2 <| G.kk a3 <| G.kk b0 <| ai (G.keep b1) (G.keep b2)
  refine wg 3 (tf 7 3) [0,1,2,3,4,5,6] [(4,Rv.At (canonQ q)),(6,TermsOne v (canonQ q))] ?_;iterate 4 refine .tk ?_
  refine .dk (fun W1 G1 F1=>canon_any W1 c q (HC1.gr ((Gr.refl w1).drew.trans G1)) L1 L2) ?_;rintro _ ⟨_,-,-,⟨i,rfl,-⟩⟩;refine .tk ?_;refine .dc (fun W1 G1 F1=>?_) ?_
  ·obtain⟨a0,a1,a2,a3,b0,b1,b2⟩:=kc.out W1 G1;have hi:=lk F1 0;have hi:=Rv.At.is hi;refine dov ?_;exact⟨(Gr.refl W1).alloc _,W1.heap.size,⟨v,i⟩,rfl,Bk.made _ _ _,rfl,hi.gr ((Gr.refl W1).alloc _)⟩
  rintro _ ⟨_,-,-,⟨b,-,rfl,-⟩⟩;refine .done fun W1 G1 F1=>?_
  have hi:=lh F1 0;have hb:=lh F1 1;replace kc:=kc.out W1 G1;clear F1 a0 a1 a2 a3 b0 b1 b2;have GW:=I ((Gr.refl w1).drew.trans G1);obtain⟨b',t,he,hb,ht⟩:=hb;obtain rfl:b=b':=by injection he with he;injection he with he;injection he
  have T4:=I (rw_keep T1 (fun b hb=>GW.below.block b (rw_lt T1 b hb).2));have BT:=I hb;have HT:=I ht;have E1:=I (GW.bk D1);have E2:=I (GW.bk D3);clear he hb ht hi G1;refine wpAny_k 7 fun K hK=>?_
  refine op_appS elemT rfl _ _ rfl B f.terms.v f.terms.n (ts.flatMap fun p=>p.1.cs) (by rfl) T4.out ⟨b,0,none⟩ 1 1 [.int .i64 t.var,.bool t.coef.neg,t.coef.num.v,t.coef.den.v] (by rfl) (by rfl) (bk_cells BT) (by simp[Value.oneCell']) (by unfold maxLen;have:=LX.out;omega) (by have:=LX.out;omega) (by have:=LB.out;have:=HG1.size;have:=GW.size;have:=hPE.out;omega) (fun v' w5 e1 e2 e3=>?_);have F:=fr_own0 e2;obtain⟨y,rfl,hyn,hy⟩:=OwnT.push (t:=t) ts T4 T2 (fun a ha=>(T3.out a ha).gr GW) HT e1 F;have HY:=I hy;have KP2:=I (F.bk E1 (fun e=>rw_ne T4 E1 (by decide) e));have KR2:=I (F.bk E2 (fun e=>rw_ne T4 E2 (by decide) e));have FF:=I F;clear e1 e2 e3 F hy hyn;refine hK.out _ _ ?_;clear hK K;refine ptt ?_;have m0_:=KP2.c4;have fz1:=KP2.frozen;have qz1:=KR2.frozen;have q0_:=KR2.c4;clear r0_ fz kc;refine wo 8 ?_;refine wo 9 ?_;refine wpe ?_;have KP3:Hid (Bk (w5.setCell ⟨p,0,none⟩ y.v) p 40 #[y.v,.bool f.const.neg,f.const.num.v,f.const.den.v]):=I (by have:=KP2.put 0 y.v;simpa using this);have F3:=I (Fr.set w5 ⟨p,0,none⟩ y.v rfl:Fr (fun b=>b=p) w5 (w5.setCell ⟨p,0,none⟩ y.v));have KR3:=I (F3.bk KR2 h7);have HY3:=I (HY.fr F3 (fun b cs fr e hh=>Bk.not_ty KP2 (by decide) cs fr (e▸hh)) fun b hb e=>HY.ne KP2 (by decide) (e▸hb));generalize w5.setCell ⟨p,0,none⟩ y.v=w6 at*;clear m0_ q0_ fz1 qz1;have m0_:=KP3.c4;have q0_:=KR3.c4;have qz1:=KR3.frozen;go_wp2;refine pex ?_;refine ks KR3 fun W5 B5 F5=>?_
  have d_:=B5.c4;refine bret Tryz.results268 ?_;refine⟨y,rfl,?_,?_⟩
  ·unfold putT;rw[if_neg h0];exact HY3.fr F5 (fun b cs fr e hh=>Bk.not_ty KR3 (by decide) cs fr (e▸hh)) fun b hb e=>HY3.ne KR3 (by decide) (e▸hb)
  ·refine⟨(((HG1.trans GW).fr.fr0.trans FF.fr0).trans (F3.fr0.trans F5.fr0)).bel,fun b hb hx=>?_⟩;have hbp:b≠p:=fun e=>by have:=hPE.out;omega
   have hbr:b≠r:=fun e=>by have:=hPE.out;have:=hpo.out;omega
   rw[F5.keep b (by have:=HG1.size;have:=GW.size;have:=FF.size;have:=F3.size;omega) hbr,F3.keep b (by have:=HG1.size;have:=GW.size;have:=FF.size;omega) hbp,FF.keep b (by have:=HG1.size;have:=GW.size;omega) hx];exact (HG1.trans GW).below.block b hb
structure Q.Sm (q:Q):Prop where
 num:q.num < 1000000
 den:q.den < 1000
theorem Q.Sm.lo {q:Q} (h:q.Sm):q.Lo:=⟨nt (un_len1 (nm h.num (by decide))) (by decide),by unfold Q.un;split;omega;exact Nat.le_of_lt h.den⟩
theorem lvalid_any (w:World) (f:Fv) (x:Fm) (vars:Nat) (hf:f.Is w x) (hx:x.Ok vars) (hl:∀t∈x.terms,t.2.Lo) (hk:x.const.Lo):
  Calls Tryz.prog 86 #[f.v,.int .i64 vars] w fun e w'=>e=.returned (.bool true)∧Gr w w':=by
 obtain⟨⟨xA,xn,xc⟩,fc⟩:=f;have hvn:x.terms.length=xn:=hf.terms.len;have hmx:xn≤9223372036854775807:=(by obtain⟨_,h1,_⟩:=hf.terms;exact nt h1.cap h1.max);change Hid _ at hf hl;have HX:=I hx;have HV:=I hvn;have HM:=I hmx;have HK:=I hk;clear hx hvn hmx hk;simp only[Rv.v,Fv.v] at*;go_enter Tryz.func86,Tryz.ntmps86;go_wp2_with fail;refine nw1h fun W HG D_p=>?_
 obtain⟨a0,a1,a2,a3⟩:=D_p.c4;go_loopw [10] (fun i wr=>∃k:Nat,i=.int .i64 k∧k≤xn∧Hid (Gr w wr)∧Hid (Bk wr w.heap.size 40 #[.slice xA xn xc,.bool fc.neg,fc.num.v,fc.den.v])) (fun i _=>xn - (intOf i).toNat)
 case atStart=>exact⟨0,rfl,nq _,HG,D_p⟩
 case round=>
  obtain⟨k,rfl,hk,HG2,DP⟩:=hrel;clear HG D_p a0 a1 a2 a3;obtain⟨a0,a1,a2,a3⟩:=DP.c4;by_cases hkn:k < xn
  ·have hkl:k < x.terms.length:=by rw[HV.out];exact hkn
   obtain⟨q,hq⟩:∃q,x.terms[k]?=some q:=⟨_,ge hkl⟩;obtain⟨t,ad,ht,hA,d0,d1,d2,d3⟩:=(hf.terms.gr HG2).at hq;simp only at hA;subst hA;have HT:=I ht;have HE:=I (HX.each q (mg hq));have HL2:=I (hl.out q (mg hq));have HQ:=I hq;have n0:decide (t.var < 0)=false:=by rw[HT.var];have:=HE.1;simp;omega
   have n1:decide ((vars:Int)≤t.var)=false:=by rw[HT.var];have:=HE.2.1;simp;omega
   have n2:(q.2.sign == 0)=false:=by have:=HE.2.2.1;unfold Q.sign;rw[if_neg this];cases q.2.neg<;>rfl
   have hm9:k < 9223372036854775807:=nk hkn HM;generalize hsg:q.2.sign=sg at*;have HSG:=I hsg;clear hq ht hsg hkl;by_cases hk0:k=0
   ·have n3:decide ((0:Int) < (k:Int))=false:=by simp[hk0]
    have n6:decide (0 < k)=false:=by simp[hk0]
    clear hk0;go_wp2_with fail;obtain⟨B1,GB⟩:=made1 wr 108 t.ar;have GT:=I GB;obtain⟨c0,c1,c2,c3⟩:=B1.c4;replace a0:=GB.keep a0;clear B1 GB d0 d1 d2 d3 a1 a2 a3;generalize wr.alloc (.cells t.ar 108)=W3 at*;generalize wr.heap.size=tb at*;refine wpr ?_;have kc:=I fun W' (G:Gr W3.drew W')=>G.kk c0 <| G.kk c1 <| ai (G.keep c2) (G.keep c3)
    refine wg 0 (tf 37 0) [0,1,2,3,4,5,6,7,8,9,10,11,12,13,14,15,16,17,18,19,20,21,22,23,24,25,26,27,28,29,30,31,32,33,34,35,36] [(28,fun v _=>v=.int .i64 sg),(34,fun v _=>v=.bool true)] ?_;iterate 28 refine .tk ?_
    refine .dk (fun W1 G1 F1=>(show Calls _ _ _ _ (fun e w'=>e=.returned (.int .i64 sg)∧Gr W1 w') from by rw[← HSG.out];exact sign_any W1 t.coef q.2 (HT.coef.gr (GT.trans G1.od)) (nt HL2.num (by decide)))) ?_;rintro _ ⟨_,-,-,rfl⟩;iterate 5 refine .tk ?_
    refine .dk (fun W1 G1 F1=>rvalid_any W1 t.coef q.2 (HT.coef.gr (GT.trans G1.od)) HE.2.2.2 (nt HL2.num (by decide)) (nj HL2.den (by decide))) ?_;rintro _ ⟨_,-,-,rfl⟩;iterate 2 refine .tk ?_
    refine .done fun W1 G1 F1=>?_
    clear F1;refine wpe ?_;have HG4:=I (HG2.trans (GT.trans G1.od));have DP4:=I ((GT.trans G1.od).bk DP);clear G1 a0 kc c0 c1 c2 c3;go_wp2;go_roundw
    ·exact⟨k+1,by go_num,by omega,HG4,DP4⟩
    ·simp[intOf];omega
   ·obtain⟨j,hj⟩:∃j,k=j+1:=⟨k - 1,by omega⟩;have n3:decide ((0:Int) < (k:Int))=true:=by simp;omega
    have n6:decide (0 < k)=true:=by simp;omega
    clear hk0;obtain⟨p,hp⟩:∃p,x.terms[j]?=some p:=⟨_,ge (by rw[HV.out];omega)⟩;obtain⟨s,bd,hs,hB,e0,_,_,_⟩:=(hf.terms.gr HG2).at hp;obtain rfl:ad=bd:=by simpa using hB
    have n4:decide (t.var≤s.var)=false:=by rw[HT.var,hs.var];have:=HX.asc j p q hp (hj▸HQ.out);simp;omega
    have n5:IntKind.i64.wrap ((k:Int) - 1)=(j:Int):=by rw[wi _ (by omega)];omega
    have hjn:(j:Int) < (xn:Int):=by omega
    clear hj;clear hp hs hB;go_wp2_with fail;obtain⟨B1,GB⟩:=made1 wr 108 t.ar;have GT:=I GB;obtain⟨c0,c1,c2,c3⟩:=B1.c4;replace a0:=GB.keep a0;replace e0:=GB.keep e0;clear B1 GB d0 d1 d2 d3 a1 a2 a3;generalize wr.alloc (.cells t.ar 108)=W3 at*;generalize wr.heap.size=tb at*;refine wpr ?_;have kc:=I fun W' (G:Gr W3.drew W')=>G.kk c0 <| G.kk c1 <| G.kk c2 <| G.kk c3 <| ai (G.keep e0) (G.keep a0)
    refine wg 0 (tf 37 0) [0,1,2,3,4,5,6,7,8,9,10,11,12,13,14,15,16,17,18,19,20,21,22,23,24,25,26,27,28,29,30,31,32,33,34,35,36] [(28,fun v _=>v=.int .i64 sg),(34,fun v _=>v=.bool true)] ?_;iterate 28 refine .tk ?_
    refine .dk (fun W1 G1 F1=>(show Calls _ _ _ _ (fun e w'=>e=.returned (.int .i64 sg)∧Gr W1 w') from by rw[← HSG.out];exact sign_any W1 t.coef q.2 (HT.coef.gr (GT.trans G1.od)) (nt HL2.num (by decide)))) ?_;rintro _ ⟨_,-,-,rfl⟩;iterate 5 refine .tk ?_
    refine .dk (fun W1 G1 F1=>rvalid_any W1 t.coef q.2 (HT.coef.gr (GT.trans G1.od)) HE.2.2.2 (nt HL2.num (by decide)) (nj HL2.den (by decide))) ?_;rintro _ ⟨_,-,-,rfl⟩;iterate 2 refine .tk ?_
    refine .done fun W1 G1 F1=>?_
    clear F1;refine wpe ?_;have HG4:=I (HG2.trans (GT.trans G1.od));have DP4:=I ((GT.trans G1.od).bk DP);clear G1 kc c0 c1 c2 c3 e0 a0;go_wp2;go_roundw
    ·exact⟨k+1,by go_num,by omega,HG4,DP4⟩
    ·simp[intOf];omega
  ·obtain rfl:k=xn:=by omega
   have HC:=I (rvalid_any wr fc x.const (hf.const.gr HG2) HX.const (nt HK.num (by decide)) (nj HK.den (by decide)));go_wp2_with fail;refine cm0 HC fun w1 G=>?_
   have HG3:=I (HG2.trans G)

   go_wp2;go_ret;exact⟨rfl,HG3.out⟩
theorem r7valid_any (w:World) (f:Fv) (x:Fm) (vars:Nat) (hf:f.Is w x) (hx:x.Ok vars) (hl:∀t∈x.terms,t.2.Sm) (hk:x.const.Sm):
  Calls Tryz.prog 69 #[f.v,.int .i64 vars] w fun e w'=>e=.returned (.bool true)∧Gr w w':=by
 obtain⟨⟨xA,xn,xc⟩,fc⟩:=f;have hvn:x.terms.length=xn:=hf.terms.len;have hmx:xn≤9223372036854775807:=(by obtain⟨_,h1,_⟩:=hf.terms;exact nt h1.cap h1.max);change Hid _ at hf hl;have HX:=I hx;have HV:=I hvn;have HM:=I hmx;have HK:=I hk;clear hx hvn hmx hk;simp only[Rv.v,Fv.v] at*;go_enter Tryz.func69,Tryz.ntmps69;go_wp2_with fail;refine nw1h fun W HG D_p=>?_
 obtain⟨a0,a1,a2,a3⟩:=D_p.c4;go_loopw [5] (fun i wr=>∃k:Nat,i=.int .i64 k∧k≤xn∧Hid (Gr w wr)∧Hid (Bk wr w.heap.size 40 #[.slice xA xn xc,.bool fc.neg,fc.num.v,fc.den.v])) (fun i _=>xn - (intOf i).toNat)
 case atStart=>exact⟨0,rfl,nq _,HG,D_p⟩
 case round=>
  obtain⟨k,rfl,hk,HG2,DP⟩:=hrel;clear HG D_p a0 a1 a2 a3;obtain⟨a0,a1,a2,a3⟩:=DP.c4;by_cases hkn:k < xn
  ·have hkl:k < x.terms.length:=by rw[HV.out];exact hkn
   obtain⟨q,hq⟩:∃q,x.terms[k]?=some q:=⟨_,ge hkl⟩;obtain⟨t,ad,ht,hA,d0,d1,d2,d3⟩:=(hf.terms.gr HG2).at hq;simp only at hA;subst hA;have HT:=I ht;have HE:=I (HX.each q (mg hq));have HL2:=I (hl.out q (mg hq));have HQ:=I hq;have n0:decide (t.var < 0)=false:=by rw[HT.var];have:=HE.1;simp;omega
   have n1:decide ((vars:Int)≤t.var)=false:=by rw[HT.var];have:=HE.2.1;simp;omega
   have n2:(isg q.2.neg q.2.num == 0)=false:=by have:=HE.2.2.1;unfold isg;rw[if_neg this];cases q.2.neg<;>rfl
   have hm9:k < 9223372036854775807:=nk hkn HM;generalize hsg:isg q.2.neg q.2.num=sg at*;have HSG:=I hsg;clear hq ht hsg hkl;by_cases hk0:k=0
   ·have n3:decide ((0:Int) < (k:Int))=false:=by simp[hk0]
    have n6:decide (0 < k)=false:=by simp[hk0]
    clear hk0;go_wp2_with fail;obtain⟨B1,GB⟩:=made1 wr 108 t.ar;have GT:=I GB;obtain⟨c0,c1,c2,c3⟩:=B1.c4;replace a0:=GB.keep a0;clear B1 GB d0 d1 d2 d3 a1 a2 a3;generalize wr.alloc (.cells t.ar 108)=W3 at*;generalize wr.heap.size=tb at*;refine wpr ?_;have kc:=I fun W' (G:Gr W3.drew W')=>G.kk c0 <| G.kk c1 <| ai (G.keep c2) (G.keep c3)
    refine wg 0 (tf 37 0) [0,1,2,3,4,5,6,7,8,9,10,11,12,13,14,15,16,17,18,19,20,21,22,23,24,25,26,27,28,29,30,31,32,33,34,35,36] [(28,fun v _=>v=.int .i64 sg),(34,fun v _=>v=.bool true)] ?_;iterate 28 refine .tk ?_
    refine .dk (fun W1 G1 F1=>(show Calls _ _ _ _ (fun e w'=>e=.returned (.int .i64 sg)∧Gr W1 w') from by rw[← HSG.out];exact rsign_any W1 t.coef q.2 (HT.coef.gr (GT.trans G1.od)) (nt HL2.lo.num (by decide)))) ?_;rintro _ ⟨_,-,-,rfl⟩;iterate 5 refine .tk ?_
    refine .dk (fun W1 G1 F1=>r3valid_any W1 t.coef q.2 (HT.coef.gr (GT.trans G1.od)) HE.2.2.2 (nm HL2.num (by decide)) (nm HL2.den (by decide))) ?_;rintro _ ⟨_,-,-,rfl⟩;iterate 2 refine .tk ?_
    refine .done fun W1 G1 F1=>?_
    clear F1;refine wpe ?_;have HG4:=I (HG2.trans (GT.trans G1.od));have DP4:=I ((GT.trans G1.od).bk DP);clear G1 a0 kc c0 c1 c2 c3;go_wp2;go_roundw
    ·exact⟨k+1,by go_num,by omega,HG4,DP4⟩
    ·simp[intOf];omega
   ·obtain⟨j,hj⟩:∃j,k=j+1:=⟨k - 1,by omega⟩;have n3:decide ((0:Int) < (k:Int))=true:=by simp;omega
    have n6:decide (0 < k)=true:=by simp;omega
    clear hk0;obtain⟨p,hp⟩:∃p,x.terms[j]?=some p:=⟨_,ge (by rw[HV.out];omega)⟩;obtain⟨s,bd,hs,hB,e0,_,_,_⟩:=(hf.terms.gr HG2).at hp;obtain rfl:ad=bd:=by simpa using hB
    have n4:decide (t.var≤s.var)=false:=by rw[HT.var,hs.var];have:=HX.asc j p q hp (hj▸HQ.out);simp;omega
    have n5:IntKind.i64.wrap ((k:Int) - 1)=(j:Int):=by rw[wi _ (by omega)];omega
    have hjn:(j:Int) < (xn:Int):=by omega
    clear hj;clear hp hs hB;go_wp2_with fail;obtain⟨B1,GB⟩:=made1 wr 108 t.ar;have GT:=I GB;obtain⟨c0,c1,c2,c3⟩:=B1.c4;replace a0:=GB.keep a0;replace e0:=GB.keep e0;clear B1 GB d0 d1 d2 d3 a1 a2 a3;generalize wr.alloc (.cells t.ar 108)=W3 at*;generalize wr.heap.size=tb at*;refine wpr ?_;have kc:=I fun W' (G:Gr W3.drew W')=>G.kk c0 <| G.kk c1 <| G.kk c2 <| G.kk c3 <| ai (G.keep e0) (G.keep a0)
    refine wg 0 (tf 37 0) [0,1,2,3,4,5,6,7,8,9,10,11,12,13,14,15,16,17,18,19,20,21,22,23,24,25,26,27,28,29,30,31,32,33,34,35,36] [(28,fun v _=>v=.int .i64 sg),(34,fun v _=>v=.bool true)] ?_;iterate 28 refine .tk ?_
    refine .dk (fun W1 G1 F1=>(show Calls _ _ _ _ (fun e w'=>e=.returned (.int .i64 sg)∧Gr W1 w') from by rw[← HSG.out];exact rsign_any W1 t.coef q.2 (HT.coef.gr (GT.trans G1.od)) (nt HL2.lo.num (by decide)))) ?_;rintro _ ⟨_,-,-,rfl⟩;iterate 5 refine .tk ?_
    refine .dk (fun W1 G1 F1=>r3valid_any W1 t.coef q.2 (HT.coef.gr (GT.trans G1.od)) HE.2.2.2 (nm HL2.num (by decide)) (nm HL2.den (by decide))) ?_;rintro _ ⟨_,-,-,rfl⟩;iterate 2 refine .tk ?_
    refine .done fun W1 G1 F1=>?_
    clear F1;refine wpe ?_;have HG4:=I (HG2.trans (GT.trans G1.od));have DP4:=I ((GT.trans G1.od).bk DP);clear G1 kc c0 c1 c2 c3 e0 a0;go_wp2;go_roundw
    ·exact⟨k+1,by go_num,by omega,HG4,DP4⟩
    ·simp[intOf];omega
  ·obtain rfl:k=xn:=by omega
   have HC:=I (r3valid_any wr fc x.const (hf.const.gr HG2) HX.const (nm HK.num (by decide)) (nm HK.den (by decide)));go_wp2_with fail;refine cm0 HC fun w1 G=>?_
   have HG3:=I (HG2.trans G)

   go_wp2;go_ret;exact⟨rfl,HG3.out⟩
def Q.cmpQ (x y:Q):Int:=if x.sign < y.sign then -1 else if y.sign < x.sign then 1 else cmpI (x.sg&&decide (0 < x.num*y.un)) (x.num*y.un) (y.sg&&decide (0 < y.num*x.un)) (y.num*x.un)
theorem rcmp3_any (w:World) (a b:Rv) (x y:Q) (ha:a.Is w x) (hb:b.Is w y) (h1:(limbs x.num).length≤100000) (h2:(limbs y.num).length≤100000) (h3:x.un < B32) (h4:y.un < B32):
  Calls Tryz.prog 133 #[a.v,b.v] w fun e w'=>e=.returned (.int .i64 (Q.cmpQ x y))∧Gr w w':=by
 have L1:=I h1;have L2:=I h2;have D1:=I (nt (den_len h3) (by decide:1≤400000));have D2:=I (nt (den_len h4) (by decide:1≤400000));have M1:=I (nt (num_un_len h1 h4) (by decide:100001≤1000000));have M2:=I (nt (num_un_len h2 h3) (by decide:100001≤1000000));have hE:Hid (Q.cmpQ x y=if x.sign < y.sign then -1 else if y.sign < x.sign then 1 else cmpI (x.sg&&decide (0 < x.num*y.un)) (x.num*y.un) (y.sg&&decide (0 < y.num*x.un)) (y.num*x.un)):=rfl;clear h1 h2 h3 h4;simp only[Rv.v];go_enter Tryz.func133,Tryz.ntmps133;go_wp2_with fail;refine nw2h fun W HG hB1 hB2=>?_
 have HA:=I (ha.gr HG);have HB:=I (hb.gr HG);clear ha hb;generalize w.heap.size+1=q at*;generalize w.heap.size=p at*;obtain⟨a0,a1,a2⟩:=hB1.c3;obtain⟨b0,b1,b2⟩:=hB2.c3;have HG0:Hid (Gr W W.drew):=(Gr.refl W).drew;have HX:Hid (∀W2,Gr W W2→Calls Tryz.prog 193 #[a.v,b.v] W2 fun e w'=>∃r1 r2:Iv,e=.returned (.tuple #[r1.v,r2.v])∧r1.Is w' (x.sg&&decide (0 < x.num*y.un)) (x.num*y.un)∧r2.Is w' (y.sg&&decide (0 < y.num*x.un)) (y.num*x.un)∧Gr W2 w'):=fun W2 G=>cross_any W2 a b x y (HA.gr G) (HB.gr G) (nt L1 (by decide)) (nt L2 (by decide)) D1 D2
 have HS1:=I (sign_any W.drew a x (HA.gr HG0) (nt L1 (by decide)));have HS2:Hid (∀W2,Gr W W2→Calls Tryz.prog 91 #[b.v] W2 fun e w'=>e=.returned (.int .i64 y.sign)∧Gr W2 w'):=fun W2 G=>sign_any W2 b y (HB.gr G) (nt L2 (by decide))
 simp only[Rv.v] at HS1 HS2 HX;generalize x.sign=sm at*;generalize y.sign=tn at*
 first | (go_region_held3 (fun W=>W.cell? ⟨p,0,none⟩=some (.bool a.neg)∧W.cell? ⟨p,1,none⟩=some a.num.v∧W.cell? ⟨p,2,none⟩=some a.den.v∧W.cell? ⟨q,0,none⟩=some (.bool b.neg)∧W.cell? ⟨q,1,none⟩=some b.num.v∧W.cell? ⟨q,2,none⟩=some b.den.v)
   (first | go_keep | exact⟨hk1.1.1,hk1.1.2.1,hk1.1.2.2,hk1.2.1,hk1.2.2.1,hk1.2.2.2⟩ | exact⟨hk2.1.1,hk2.1.2.1,hk2.1.2.2,hk2.2.1,hk2.2.2.1,hk2.2.2.2⟩)
   (first | (go_at_call 91;refine ((HS2.out w1 HG1.out)).mono ?_;rintro e w2 ⟨rfl,G2⟩;have HG2:=I (HG1.out.trans G2);have hk2:=ai (HG2.out.bk hB1.out).c3 (HG2.out.bk hB2.out).c3;clear G2) | (go_at_call 91;refine (HS1.out).mono ?_;rintro e w1 ⟨rfl,G1⟩;have HG1:=I (HG0.out.trans G1);have hk1:=ai (HG1.out.bk hB1.out).c3 (HG1.out.bk hB2.out).c3;clear G1))) | fail
 clear HS1 HS2 a0 a1 a2 b0 b1 b2 hk1;obtain⟨⟨a0,a1,a2⟩,b0,b1,b2⟩:=hk2;have HF:=I (HG.trans HG2);have HXX:=I (HX.out w2 HG2);by_cases h1:sm < tn
 ·rw[if_pos h1] at hE;have hd:decide (sm < tn)=true:=by simp[h1]
  have hn:(sm != tn)=true:=by simp;omega
  go_wp2;go_ret;exact⟨by rw[hE.out];rfl,HF.out⟩
 ·have hd:decide (sm < tn)=false:=by simp;omega
  rw[if_neg h1] at hE;by_cases h2:tn < sm
  ·rw[if_pos h2] at hE;have hn:(sm != tn)=true:=by simp;omega
   go_wp2;go_ret;exact⟨by rw[hE.out];rfl,HF.out⟩
  ·rw[if_neg h2] at hE;obtain rfl:sm=tn:=by omega
   have hn:(sm != sm)=false:=by simp
   generalize (x.sg&&decide (0 < x.num*y.un))=s1 at*;generalize (y.sg&&decide (0 < y.num*x.un))=s2 at*;generalize x.num*y.un=m1 at*;generalize y.num*x.un=m2 at*;go_wp2_with fail;go_at_call 193
   refine HXX.mono ?_;rintro e w3 ⟨x1,x2,rfl,hx1,hx2,G3⟩;obtain⟨E1,E2,G4⟩:=made2 w3 169 169 #[.bool x1.neg,x1.mag.v] #[.bool x2.neg,x2.mag.v];have HI:=I (icmp_any _ x1 x2 _ _ _ _ (hx1.gr G4) (hx2.gr G4) M1 M2);have HG4:=I ((HF.trans G3).trans G4);have x10_:=E1.c2;have x20_:=E2.c2;clear hx1 hx2 G3 G4 E1 E2 HXX a0 a1 a2 b0 b1 b2;simp only[Iv.v] at*;generalize cmpI s1 m1 s2 m2=c at*;go_wp2_with fail;go_at_call 194
   refine cm0 HI fun w4 G5=>?_
   have HG5:=I (HG4.trans G5)

   go_wp2;go_ret;exact⟨by rw[hE.out];rfl,HG5.out⟩
def Q.neg' (q:Q):Q:=canonQ q.flip
def Q.sub (a b:Q):Q:=Q.add a b.flip
def Q.div (a b:Q):Q:=quot (a.neg != b.neg) (a.num*b.un) (a.un*b.num)
def Q.max (a b:Q):Q:=if 0≤Q.cmpQ a b then canonQ a else canonQ b
theorem qneg_any (w:World) (a:Rv) (q:Q) (ha:a.Is w q) (hl:(limbs q.num).length≤1000000) (hd:q.un < B32):
  Calls Tryz.prog 146 #[a.v] w fun e w'=>∃r:Rv,e=.returned r.v∧r.Is w' q.neg'∧Gr w w':=by
 have HL:=I hl;have HD:=I hd;clear hl hd;have X_r_p:=dnx (w.heap.size+1) (w.heap.size);simp only[Rv.v,Fv.v] at*;go_enter Tryz.func146,Tryz.ntmps146;go_upto_region 1 with fail;refine nw2h fun W HG D_p D_r=>?_
 have HA:=I ((ha).gr HG);clear ha;have p_:=D_p.c3;have N_p:=dnl (w.heap.size) (w.heap.size);have N_r:=dnl (w.heap.size) (w.heap.size+1);generalize w.heap.size+1=r at*;have fz_p:=D_p.frozen;go_upto_region 2 with fail;refine ks D_p fun w1 B5 F5=>?_
 replace HA:=I (HA.tf' F5 D_p);replace HG:=HG.fa F5 N_p;replace D_r:=F5.hb D_r X_r_p;replace D_p:=B5;clear B5 F5 p_ fz_p;have HF:Hid ((⟨!a.neg,a.num,a.den⟩:Rv).Is w1 q.flip):=⟨by rw[HA.neg];rfl,HA.num,HA.den⟩;have p_:=D_p.c3;go_wp2_with fail;refine cm1 (canon_any w1 ⟨!a.neg,a.num,a.den⟩ q.flip HF HL HD) fun i w2 HI G=>?_
 replace D_r:=G.hb D_r;replace HG:=HG.tr G;clear p_ HF;have z0_:=D_r.c3;have fz:=D_r.frozen;go_wp2;refine pex ?_;refine ks D_r fun W5 B5 F5=>?_
 have d_:=B5.c3;refine bret Tryz.results146 ?_;exact⟨i,rfl,HI.tf' F5 D_r,HG.fr_at F5 N_r⟩
theorem qsub_any (w:World) (a b:Rv) (x y:Q) (ha:a.Is w x) (hb:b.Is w y) (h1:(limbs x.num).length≤100000) (h2:(limbs y.num).length≤100000) (h3:x.un*y.un < B32):
  Calls Tryz.prog 377 #[a.v,b.v] w fun e w'=>∃r:Rv,e=.returned r.v∧r.Is w' (Q.sub x y)∧Gr w w':=by
 have H1:=I h1;have H2:=I h2;have H3:=I h3;clear h1 h2 h3;have X_p_q:=dnx (w.heap.size) (w.heap.size+1);have X_r_q:=dnx (w.heap.size+1+1) (w.heap.size+1);simp only[Rv.v,Fv.v] at*;go_enter Tryz.func377,Tryz.ntmps377;go_upto_region 1 with fail;refine nw3h fun W HG D_p D_q D_r=>?_
 have HA:=I ((ha).gr HG);have HB:=I ((hb).gr HG);clear ha hb;have p_:=D_p.c3;have q_:=D_q.c3;have N_q:=dnl (w.heap.size) (w.heap.size+1);have N_r:=dnl (w.heap.size) (w.heap.size+1+1);generalize w.heap.size+1+1=r at*;generalize w.heap.size+1=q at*;have fz_q:=D_q.frozen;go_upto_region 2 with fail;refine ks D_q fun w1 B5 F5=>?_
 replace HA:=I (HA.tf' F5 D_q);replace HB:=I (HB.tf' F5 D_q);replace HG:=HG.fa F5 N_q;replace D_p:=F5.hb D_p X_p_q;replace D_r:=F5.hb D_r X_r_q;replace D_q:=B5;clear B5 F5 p_ q_ fz_q;have HF:Hid ((⟨!b.neg,b.num,b.den⟩:Rv).Is w1 y.flip):=⟨by rw[HB.neg];rfl,HB.num,HB.den⟩;have p_:=D_p.c3;have q_:=D_q.c3;go_wp2_with fail;refine cm1 (radd_any w1 a ⟨!b.neg,b.num,b.den⟩ x y.flip HA HF H1 H2 H3) fun i w2 HI G=>?_
 replace D_r:=G.hb D_r;replace HG:=HG.tr G;clear p_ q_ HF;have z0_:=D_r.c3;have fz:=D_r.frozen;go_wp2;refine pex ?_;refine ks D_r fun W5 B5 F5=>?_
 have d_:=B5.c3;refine bret Tryz.results377 ?_;exact⟨i,rfl,HI.tf' F5 D_r,HG.fr_at F5 N_r⟩
theorem qmax_any (w:World) (a b:Rv) (x y:Q) (ha:a.Is w x) (hb:b.Is w y) (h1:(limbs x.num).length≤100000) (h2:(limbs y.num).length≤100000) (h3:x.un < B32) (h4:y.un < B32):
  Calls Tryz.prog 312 #[a.v,b.v] w fun e w'=>∃r:Rv,e=.returned r.v∧r.Is w' (Q.max x y)∧Gr w w':=by
 have H1:=I h1;have H2:=I h2;have H3:=I h3;have H4:=I h4;clear h1 h2 h3 h4;simp only[Rv.v,Fv.v] at*;go_enter Tryz.func312,Tryz.ntmps312;go_wp2_with fail;refine nw3hc fun W HG D_p D_q D_r=>?_
 have HA:=I ((ha).gr HG);have HB:=I ((hb).gr HG);clear ha hb;have p_:=D_p.c3;have q_:=D_q.c3;have N_r:=dnl (w.heap.size) (w.heap.size+1+1);generalize w.heap.size+1+1=r at*;generalize w.heap.size+1=q at*;refine cm0 (rcmp3_any W a b x y HA HB H1 H2 H3 H4) fun w1 G=>?_
 obtain⟨HA,HB,D_p,D_q,D_r,HG⟩:=G.u6 HA HB D_p D_q D_r HG;clear p_ q_;have p_:=D_p.c3;have q_:=D_q.c3;have HE:Hid (Q.max x y=if 0≤Q.cmpQ x y then canonQ x else canonQ y):=rfl;generalize Q.cmpQ x y=cm at*;by_cases hc:0≤cm
 ·have hd:=dt hc;rw[if_pos hc] at HE;go_wp2_with fail;refine cm1 (canon_any w1 a x HA (nt H1 (by decide)) H3) fun i w2 HI G=>?_
  obtain⟨HB,D_r,HG⟩:=G.u3 HB D_r HG;clear p_ q_;have z0_:=D_r.c3;have fz:=D_r.frozen;go_wp2;refine pex ?_;refine ks D_r fun W5 B5 F5=>?_
  have d_:=B5.c3;refine bret Tryz.results312 ?_;rw[HE.out];exact⟨i,rfl,HI.tf' F5 D_r,HG.fr_at F5 N_r⟩
 ·have hd:=df hc;rw[if_neg hc] at HE;go_wp2_with fail;refine cm1 (canon_any w1 b y HB (nt H2 (by decide)) H4) fun i w2 HI G=>?_
  replace D_r:=G.hb D_r;replace HG:=HG.tr G;clear p_ q_;have z0_:=D_r.c3;have fz:=D_r.frozen;go_wp2;refine pex ?_;refine ks D_r fun W5 B5 F5=>?_
  have d_:=B5.c3;refine bret Tryz.results312 ?_;rw[HE.out];exact⟨i,rfl,HI.tf' F5 D_r,HG.fr_at F5 N_r⟩
theorem num_at {W:World} {x:Sv} {l:List Nat} (h:∃z:Sv,x.v=z.v∧z.Num W l):x.Num W l:=by
 obtain⟨⟨A,n,c⟩,e,hz⟩:=h;obtain⟨A',n',c'⟩:=x;simp only[Sv.v,Value.slice.injEq] at e;obtain⟨rfl,rfl,rfl⟩:=e;exact hz
theorem qdiv_any (w:World) (a b:Rv) (x y:Q) (ha:a.Is w x) (hb:b.Is w y) (h1:(limbs x.num).length≤100000) (h2:(limbs y.num).length≤100000) (h3:x.un*y.num < B32) (h4:y.un < B32) (h0:y.num≠0):
  Calls Tryz.prog 378 #[a.v,b.v] w fun e w'=>∃r:Rv,e=.returned (.tuple #[r.v,.int .i64 0])∧r.Is w' (Q.div x y)∧Gr w w':=by
 have h5:x.un < B32:=nj (Nat.le_mul_of_pos_right _ (Nat.pos_of_ne_zero h0)) h3;have h6:(limbs (x.num*y.un)).length≤1000000:=nt (num_un_len h1 h4) (by decide);have h7:0 < x.un*y.num:=Nat.mul_pos x.un_pos (Nat.pos_of_ne_zero h0);have H1:=I h1;have H2:=I h2;have H3:=I h3;have H6:=I h6;have H7:=I h7;have L3:=I (nt (den_len h5) (by decide:1≤1000000));have L4:=I (nt (den_len h4) (by decide:1≤1000000));have U1:=I (nt (un_len1 h5) (by decide:1≤1000000));have U2:=I (nt (un_len1 h4) (by decide:1≤1000000));have N1:=I (ha.neg);have N2:=I (hb.neg);have HE:Hid (Q.div x y=quot (x.neg != y.neg) (x.num*y.un) (x.un*y.num)):=rfl;have H0:=I h0;clear h1 h2 h3 h4 h5 h6 h7 h0;simp only[Rv.v,Fv.v] at*;go_enter Tryz.func378,Tryz.ntmps378;go_wp2_with fail;refine nw3hc fun W HG D_p D_q D_r=>?_
 have HA:=I ((ha).gr HG);have HB:=I ((hb).gr HG);clear ha hb;have p_:=D_p.c3;have q_:=D_q.c3;have N_r:=dnl (w.heap.size) (w.heap.size+1+1);generalize w.heap.size+1+1=r at*;generalize w.heap.size+1=q at*;refine cm0 (sign_any W b y HB (nt H2 (by decide))) fun w1 G=>?_
 obtain⟨HA,HB,D_p,D_q,D_r,HG⟩:=G.u6 HA HB D_p D_q D_r HG;clear p_ q_;have p_:=D_p.c3;have q_:=D_q.c3;have hs:(y.sign == 0)=false:=by
  unfold Q.sign;rw[if_neg H0.out];split<;>rfl
 generalize y.sign=sy at*;go_upto_region 3 with fail;generalize w1=W0 at*;refine wpr ?_;have kc:=I fun W' (G:Gr W0.drew W')=>ai (G.kb D_p).c3 <| (G.kb D_q).c3
 refine wg 3 (tf 15 3) [0,1,2,3,4,5,6,7,8,9,10,11,12,13,14] [(8,fun v W'=>∃z:Sv,v=z.v∧z.Num W' (limbs (y.un))),(9,fun v W'=>∃z:Sv,v=z.v∧z.Num W' (limbs (x.num*y.un))),(11,fun v W'=>∃z:Sv,v=z.v∧z.Num W' (limbs (x.un))),(14,fun v W'=>∃z:Sv,v=z.v∧z.Num W' (limbs (x.un*y.num)))] ?_;iterate 8 refine .tk ?_
 refine .dk (fun W1 G1 F1=>under_any W1 b y (HB.gr G1.od) L4) ?_;rintro _ ⟨_,-,-,⟨u,rfl,-⟩⟩;refine .dc (fun W1 G1 F1=>?_) ?_
 ·obtain⟨p_,q_⟩:=kc.out W1 G1;have fu:=lk F1 0;have fu:=num_at fu;have MM:=mul_any W1 a.num u _ _ (HA.num.gr G1.od) fu (nt H1 (by decide)) U2;rw[vl,vl] at MM;refine doesAt_en ?_;refine cm2 (MM) fun z w' hz G=>?_
  exact⟨_,rfl,G,z,rfl,hz⟩
 rintro _ ⟨_,-,-,⟨m,rfl,-⟩⟩;refine .tk ?_;refine .dk (fun W1 G1 F1=>under_any W1 a x (HA.gr G1.od) L3) ?_;rintro _ ⟨_,-,-,⟨v,rfl,-⟩⟩;iterate 2 refine .tk ?_
 refine .dc (fun W1 G1 F1=>?_) ?_
 ·obtain⟨p_,q_⟩:=kc.out W1 G1;have fv:=lk F1 2;have fv:=num_at fv;have MM:=mul_any W1 v b.num _ _ fv (HB.num.gr G1.od) U1 (nt H2 (by decide));rw[vl,vl] at MM;refine doesAt_en ?_;refine cm2 (MM) fun z w' hz G=>?_
  exact⟨_,rfl,G,z,rfl,hz⟩
 rintro _ ⟨_,-,-,⟨n,rfl,-⟩⟩;refine .done fun W1 G1 F1=>?_
 have hu:=lh F1 0;have hm:=lh F1 1;have hv:=lh F1 2;have hn:=lh F1 3;clear F1;have kc1:=kc.out W1 G1;clear kc p_ q_;obtain⟨p_,q_⟩:=kc1;have fm:=num_at hm;have fn:=num_at hn;have GB:=I G1.od;refine wpAny_k 15 fun K hK=>?_
 refine doesAt_wp (K:=fun v W'=>∃i:Rv,v=i.v∧i.Is W' (quot (a.neg != b.neg) (x.num*y.un) (x.un*y.num))∧Gr W1 W') (doesAt_enter (f:=259) (args:=#[.bool (a.neg != b.neg),m.v,n.v]) (by go_simp;try (first | with_reducible rfl | rfl | simp[bne])) ((quot_any W1 (a.neg != b.neg) m n _ _ fm fn H6 H7 H3).mono ?_)) ?_
 ·rintro e w' ⟨i,rfl,hi,G⟩;exact⟨_,rfl,i,rfl,hi,G⟩
 rintro v w5 ⟨i,rfl,hi,G⟩;refine hK.out _ _ ?_;clear hK K;refine ptt ?_;have HI:=I hi;have HGG:=I ((HG.trans GB).trans G);have DR:=I (G.bk (GB.bk D_r));clear hi G;have fz5:=DR.frozen;have z0_:=DR.c3;refine wo 16 ?_;refine wo 17 ?_;refine wpe ?_;refine ks DR fun W5 B5 F5=>?_
 have H5:=I F5;obtain⟨d0,d1,d2⟩:=B5.c3;clear F5 B5;go_wp2;refine pex ?_;refine bodyPost_ret (by simp[results,Tryz.results378,go_sem,d0,d1,d2];try rfl) rfl ?_;exact⟨i,rfl,by rw[HE.out,← N1.out,← N2.out];exact HI.tf' H5 DR,HGG.fr_at H5 N_r⟩
theorem Q.Sm.len {q:Q} (h:q.Sm):(limbs q.num).length≤100000:=nt h.lo.num (by decide)
theorem Q.Sm.ul {q:Q} (h:q.Sm):q.un < B32:=nj h.lo.den (by decide)
theorem Q.Sm.two {x y:Q} (h:x.Sm) (k:y.Sm):x.un*y.un < B32:=nj (Nat.mul_le_mul h.lo.den k.lo.den) (by decide)
theorem Q.Sm.div {x y:Q} (h:x.Sm) (k:y.Sm):x.un*y.num < B32:=nj (Nat.mul_le_mul h.lo.den (Nat.le_of_lt k.num)) (by decide)
theorem canon9_any (w:World) (a:Rv) (q:Q) (ha:a.Is w q) (h:q.Sm):
  Calls Tryz.prog 191 #[a.v] w fun e w'=>∃r:Rv,e=.returned r.v∧r.Is w' (canonQ q)∧Gr w w':=canon_any w a q ha (nt h.len (by decide)) h.ul
theorem Terms.st {w w':World} {p t:Nat} {us:Array Value} {x:Sv} {l:List Tm} (h:Terms w x l) (F:Fr (fun b=>b=p) w w') (hb:Bk w p t us) (h1:t≠108:=by decide) (h2:t≠300:=by decide):Terms w' x l:=
 h.tf F (fun b cs fr e hh=>Bk.not_ty hb h1 cs fr (e▸hh)) (fun b cs fr e hh=>Bk.not_ty hb h2 cs fr (e▸hh))
def unstable (x y:Q):Bool:=decide (x.sign < 0)&&decide (0 < y.sign)
def slopeQ (x y:Q):Nat:=if unstable x y∧0 < Q.cmpQ y x.neg' then 1 else 0
def gapQ (x y:Q):Q:=Q.div (Q.mul x y).neg' (Q.sub y x)
theorem unstable_any (w:World) (a b:Rv) (x y:Q) (ha:a.Is w x) (hb:b.Is w y) (h1:x.Sm) (h2:y.Sm):
  Calls Tryz.prog 448 #[a.v,b.v] w fun e w'=>e=.returned (.bool (unstable x y))∧Gr w w':=by
 change Hid _ at h1 h2;simp only[Rv.v,Fv.v] at*;go_enter Tryz.func448,Tryz.ntmps448;go_wp2_with fail;refine nw2hc fun W HG D_p D_q=>?_
 have HA:=I ((ha).gr HG);have HB:=I ((hb).gr HG);clear ha hb;have p_:=D_p.c3;have q_:=D_q.c3;generalize w.heap.size+1=q at*;refine cm0 (sign_any W a x HA (nt h1.len (by decide))) fun w1 G=>?_
 obtain⟨HB,D_p,D_q,HG⟩:=G.u4 HB D_p D_q HG;clear p_ q_;have p_:=D_p.c3;have q_:=D_q.c3;have HE:Hid (unstable x y=(decide (x.sign < 0)&&decide (0 < y.sign))):=rfl;generalize x.sign=s at*;by_cases hc:s < 0
 ·have hd:=dt hc;rw[hd] at HE;go_wp2_with fail;refine cm0 (sign_any w1 b y HB (nt h2.len (by decide))) fun w2 G=>?_
  replace HG:=HG.tr G;clear p_ q_;go_wp2;go_ret;exact⟨by rw[HE.out,Bool.true_and];rfl,HG.out⟩
 ·have hd:=df hc;rw[hd] at HE;go_wp2;go_ret;exact⟨by rw[HE.out,Bool.false_and];rfl,HG.out⟩
theorem rxquot_any (w:World) (a b:Rv) (x y:Q) (ha:a.Is w x) (hb:b.Is w y) (h1:(limbs x.num).length≤100000) (h2:(limbs y.num).length≤100000) (h3:x.un*y.num < B32) (h4:y.un < B32) (h0:y.num≠0):
  Calls Tryz.prog 449 #[a.v,b.v] w fun e w'=>∃r:Rv,e=.returned r.v∧r.Is w' (Q.div x y)∧Gr w w':=by
 have H1:=I h1;have H2:=I h2;have H3:=I h3;have H4:=I h4;have H0:=I h0;clear h1 h2 h3 h4 h0;simp only[Rv.v,Fv.v] at*;go_enter Tryz.func449,Tryz.ntmps449;go_wp2_with fail;refine nw3hc fun W HG D_p D_q D_r=>?_
 have HA:=I ((ha).gr HG);have HB:=I ((hb).gr HG);clear ha hb;have p_:=D_p.c3;have q_:=D_q.c3;have N_r:=dnl (w.heap.size) (w.heap.size+1+1);generalize w.heap.size+1+1=r at*;generalize w.heap.size+1=q at*;refine cm1 (qdiv_any W a b x y HA HB H1 H2 H3 H4 H0) fun i w1 HI G=>?_
 replace D_r:=G.hb D_r;replace HG:=HG.tr G;clear p_ q_;obtain⟨B1,GB⟩:=made1 w1 38 i.ar;obtain⟨HI,D_r,HG⟩:=GB.u3 HI D_r HG;have i0_:=B1.c3;clear GB B1;go_upto_region 2 with fail;generalize w1.alloc (.cells i.ar 38)=w2 at*;generalize w1.heap.size=o at*;have z0_:=D_r.c3;have fz:=D_r.frozen;go_wp2;refine pex ?_;refine ks D_r fun W5 B5 F5=>?_
 have d_:=B5.c3;refine bret Tryz.results449 ?_;exact⟨i,rfl,HI.tf' F5 D_r,HG.fr_at F5 N_r⟩
theorem slope_any (w:World) (a b:Rv) (x y:Q) (ha:a.Is w x) (hb:b.Is w y) (h1:x.Sm) (h2:y.Sm) (h3:x.neg'.Sm):
  Calls Tryz.prog 496 #[a.v,b.v] w fun e w'=>e=.returned (.int .i64 (slopeQ x y))∧Gr w w':=by
 change Hid _ at h1 h2 h3;simp only[Rv.v,Fv.v] at*;go_enter Tryz.func496,Tryz.ntmps496;go_upto_region 1 with fail;refine nw2h fun W HG D_p D_q=>?_
 have HA:=I ((ha).gr HG);have HB:=I ((hb).gr HG);clear ha hb;have p_:=D_p.c3;have q_:=D_q.c3;generalize w.heap.size+1=q at*;have HE:Hid (slopeQ x y=if unstable x y∧0 < Q.cmpQ y x.neg' then 1 else 0):=rfl;by_cases hc:unstable x y=true
 ·replace hc:unstable x y=true:=hc;refine wpr ?_;have kc:=I fun W' (G:Gr W.drew W')=>ai (G.kb D_p).c3 <| (G.kb D_q).c3
  refine wg 0 (tf 10 0) [0,1,2,3,4,5,6,7,8,9] [(2,fun v _=>v=.bool (unstable x y)),(6,Rv.At (x.neg')),(7,fun v _=>v=.int .i64 (Q.cmpQ y x.neg'))] ?_;iterate 2 refine .tk ?_
  refine .dk (fun W1 G1 F1=>unstable_any W1 a b x y (HA.gr G1.od) (HB.gr G1.od) h1 h2) ?_;rintro _ ⟨_,-,-,rfl⟩;iterate 3 refine .tk ?_
  refine .dk (fun W1 G1 F1=>qneg_any W1 a x (HA.gr G1.od) (nt h1.len (by decide)) h1.ul) ?_;rintro _ ⟨_,-,-,⟨nn,rfl,-⟩⟩;refine .dk (fun W1 G1 F1=>by have fn:=lk F1 1;exact rcmp3_any W1 b nn y x.neg' (HB.gr G1.od) fn.is h2.len h3.len h2.ul h3.ul) ?_;rintro _ ⟨_,-,-,rfl⟩;iterate 2 refine .tk ?_
  refine .done fun W1 G1 F1=>?_
  have hu:=lh F1 0;have hn:=lh F1 1;have hm:=lh F1 2;clear F1;refine wpe ?_;replace HG:=I (HG.trans G1.od);clear G1 HA HB D_p D_q kc p_ q_;generalize Q.cmpQ y x.neg'=cmm at*;by_cases h9:0 < cmm
  ·have hd:=dt h9;have HS:Hid (slopeQ x y=1):=HE.trans (if_pos ⟨hc,h9⟩);clear HE hc;go_wp2;go_ret;exact⟨by rw[HS.out];rfl,HG.out⟩
  ·have hd:=df h9;have HS:Hid (slopeQ x y=0):=HE.trans (if_neg (fun h=>h9 h.2));clear HE hc;go_wp2;go_ret;exact⟨by rw[HS.out];rfl,HG.out⟩
 ·replace hc:unstable x y=false:=by simpa using hc
  refine wpr ?_;have kc:=I fun W' (G:Gr W.drew W')=>ai (G.kb D_p).c3 <| (G.kb D_q).c3
  refine wg 0 (tf 10 0) [0,1,2,3,4,5,6,7,8,9] [(2,fun v _=>v=.bool (unstable x y))] ?_;iterate 2 refine .tk ?_
  refine .dk (fun W1 G1 F1=>unstable_any W1 a b x y (HA.gr G1.od) (HB.gr G1.od) h1 h2) ?_;rintro _ ⟨_,-,-,rfl⟩;iterate 7 refine .tk ?_
  refine .done fun W1 G1 F1=>?_
  have hu:=lh F1 0;clear F1;refine wpe ?_;replace HG:=I (HG.trans G1.od);clear G1 HA HB D_p D_q kc p_ q_;have HS:Hid (slopeQ x y=0):=HE.trans (if_neg (fun h=>by have:=h.1;rw[hc] at this;cases this));clear HE hc;go_wp2;go_ret;exact⟨by rw[HS.out];rfl,HG.out⟩
theorem gap_any (w:World) (a b:Rv) (x y:Q) (ha:a.Is w x) (hb:b.Is w y) (hu:unstable x y=true) (h1:x.Sm) (h2:y.Sm) (h3:(Q.mul x y).Sm) (h4:(Q.mul x y).neg'.Sm) (h5:(Q.sub y x).Sm) (h0:(Q.sub y x).num≠0):
  Calls Tryz.prog 421 #[a.v,b.v] w fun e w'=>∃r:Rv,e=.returned r.v∧r.Is w' (gapQ x y)∧Gr w w':=by
 change Hid _ at h1 h2 h3 h5 hu;have H4:=I h4;have H0:=I h0;clear h4 h0;simp only[Rv.v,Fv.v] at*;go_enter Tryz.func421,Tryz.ntmps421;go_wp2_with fail;refine nw3hc fun W HG D_p D_q D_r=>?_
 have HA:=I ((ha).gr HG);have HB:=I ((hb).gr HG);clear ha hb;have p_:=D_p.c3;have q_:=D_q.c3;have N_r:=dnl (w.heap.size) (w.heap.size+1+1);generalize w.heap.size+1+1=r at*;generalize w.heap.size+1=q at*;refine cm0 (unstable_any W a b x y HA HB h1 h2) fun w1 G=>?_
 obtain⟨HA,HB,D_p,D_q,D_r,HG⟩:=G.u6 HA HB D_p D_q D_r HG;clear p_ q_;have p_:=D_p.c3;have q_:=D_q.c3;rw[hu.out];go_upto_region 3 with fail;refine wpr ?_;have kc:=I fun W' (G:Gr w1.drew W')=>ai (G.kb D_p).c3 <| (G.kb D_q).c3
 refine wg 1 (tf 8 1) [0,1,2,3,4,5,6,7] [(2,Rv.At (Q.mul x y)),(3,Rv.At ((Q.mul x y).neg')),(6,Rv.At (Q.sub y x)),(7,Rv.At (gapQ x y))] ?_;iterate 2 refine .tk ?_
 refine .dk (fun W1 G1 F1=>rmul_any W1 a b x y (HA.gr G1.od) (HB.gr G1.od) h1.len h2.len (h1.two h2)) ?_;rintro _ ⟨_,-,-,⟨mv,rfl,-⟩⟩;refine .dk (fun W1 G1 F1=>by have fm:=lk F1 0;exact qneg_any W1 mv _ fm.is (nt h3.len (by decide)) h3.ul) ?_;rintro _ ⟨_,-,-,⟨nv,rfl,-⟩⟩;iterate 2 refine .tk ?_
 refine .dk (fun W1 G1 F1=>qsub_any W1 b a y x (HB.gr G1.od) (HA.gr G1.od) h2.len h1.len (h2.two h1)) ?_;rintro _ ⟨_,-,-,⟨dv,rfl,-⟩⟩;refine .dk (fun W1 G1 F1=>by have fn:=lk F1 1;have fd:=lk F1 2;exact rxquot_any W1 nv dv _ _ fn.is fd.is H4.len h5.len (H4.div h5) h5.ul H0) ?_;rintro _ ⟨_,-,-,⟨qv,rfl,-⟩⟩;refine .done fun W1 G1 F1=>?_
 have hm:=lh F1 0;have hn:=lh F1 1;have hd:=lh F1 2;have hq:=lh F1 3;replace kc:=kc.out W1 G1;clear F1 p_ q_;have GB:=G1.od;replace D_r:=GB.hb D_r;replace HG:=HG.tr GB;have HQ:=I (hq.is);clear GB G1 hm hn hd hq kc;have fz5:=D_r.frozen;have r_:=D_r.c3;refine wo 8 ?_;refine wpe ?_;clear fz5;refine ks D_r fun w2 B5 F5=>?_
 replace HQ:=I (HQ.tf' F5 D_r);replace HG:=HG.fa F5 N_r;replace D_r:=B5;clear B5 F5 r_;have r_:=D_r.c3;go_wp2;refine pex ?_;refine bret Tryz.results421 ?_;exact⟨qv,rfl,HQ.out,HG.out⟩
theorem lines_any (w:World) (a b:Rv) (x y:Q) (ha:a.Is w x) (hb:b.Is w y) (hu:unstable x y=true) (h1:x.Sm) (h2:y.Sm) (h3:(Q.mul x y).Sm) (h4:(Q.mul x y).neg'.Sm) (h5:(Q.sub y x).Sm) (h0:(Q.sub y x).num≠0) (h6:x.neg'.Sm):
  Calls Tryz.prog 497 #[a.v,b.v] w fun e w'=>∃r t:Rv,e=.returned (.tuple #[.int .i64 (slopeQ x y),r.v,t.v,.int .i64 0])∧r.Is w' (Q.div y (Q.sub y x))∧t.Is w' (gapQ x y)∧Gr w w':=by
 change Hid _ at h1 h2 h3 h5 hu h6;have H4:=I h4;have H0:=I h0;clear h4 h0;have X_r_t0:=dnx (w.heap.size+1+1) (w.heap.size+1+1+1);have X_t0_r:=dnx (w.heap.size+1+1+1) (w.heap.size+1+1);simp only[Rv.v,Fv.v] at*;go_enter Tryz.func497,Tryz.ntmps497;go_wp2_with fail;refine nw4hc fun W HG D_p D_q D_r D_t0=>?_
 have HA:=I ((ha).gr HG);have HB:=I ((hb).gr HG);clear ha hb;have p_:=D_p.c3;have q_:=D_q.c3;have N_r:=dnl (w.heap.size) (w.heap.size+1+1);have N_t0:=dnl (w.heap.size) (w.heap.size+1+1+1);generalize w.heap.size+1+1+1=t0 at*;generalize w.heap.size+1+1=r at*;generalize w.heap.size+1=q at*;refine cm0 (unstable_any W a b x y HA HB h1 h2) fun w1 G=>?_
 obtain⟨HA,HB,D_p,D_q,D_r,D_t0,HG⟩:=G.u7 HA HB D_p D_q D_r D_t0 HG;clear p_ q_;have p_:=D_p.c3;have q_:=D_q.c3;rw[hu.out];go_upto_region 3 with fail;refine wpr ?_;have kc:=I fun W' (G:Gr w1.drew W')=>ai (G.kb D_p).c3 <| (G.kb D_q).c3
 refine wg 4 (tf 11 4) [0,1,2,3,4,5,6,7,8,9,10] [(2,fun v _=>v=.int .i64 (slopeQ x y)),(6,Rv.At (Q.sub y x)),(7,Rv.At (Q.div y (Q.sub y x))),(10,Rv.At (gapQ x y))] ?_;iterate 2 refine .tk ?_
 refine .dk (fun W1 G1 F1=>slope_any W1 a b x y (HA.gr G1.od) (HB.gr G1.od) h1 h2 h6) ?_;rintro _ ⟨_,-,-,rfl⟩;iterate 3 refine .tk ?_
 refine .dk (fun W1 G1 F1=>qsub_any W1 b a y x (HB.gr G1.od) (HA.gr G1.od) h2.len h1.len (h2.two h1)) ?_;rintro _ ⟨_,-,-,⟨dv,rfl,-⟩⟩;refine .dk (fun W1 G1 F1=>by have fd:=lk F1 1;exact rxquot_any W1 b dv _ _ (HB.gr G1.od) fd.is h2.len h5.len (h2.div h5) h5.ul H0) ?_;rintro _ ⟨_,-,-,⟨qv,rfl,-⟩⟩;iterate 2 refine .tk ?_
 refine .dk (fun W1 G1 F1=>gap_any W1 a b x y (HA.gr G1.od) (HB.gr G1.od) hu h1 h2 h3 H4 h5 H0) ?_;rintro _ ⟨_,-,-,⟨gv,rfl,-⟩⟩;refine .done fun W1 G1 F1=>?_
 have hs:=lh F1 0;have hd:=lh F1 1;have hq:=lh F1 2;have hg:=lh F1 3;replace kc:=kc.out W1 G1;clear F1 p_ q_;have GB:=G1.od;obtain⟨D_r,D_t0,HG⟩:=GB.u3 D_r D_t0 HG;have HQ:=I (hq.is);have HT:=I (hg.is);clear GB G1 hs hd hq hg kc;refine wo 11 ?_;have fz5:=D_r.frozen;have r_:=D_r.c3;refine wo 12 ?_;clear fz5;refine ks D_r fun w2 B5 F5=>?_
 replace HQ:=I (HQ.tf' F5 D_r);replace HT:=I (HT.tf' F5 D_r);replace HG:=HG.fa F5 N_r;replace D_t0:=F5.hb D_t0 X_t0_r;replace D_r:=B5;clear B5 F5 r_;have fz5:=D_t0.frozen;have t0_:=D_t0.c3;refine wo 13 ?_;clear fz5;refine ks D_t0 fun w3 B5 F5=>?_
 replace HQ:=I (HQ.tf' F5 D_t0);replace HT:=I (HT.tf' F5 D_t0);replace HG:=HG.fa F5 N_t0;replace D_r:=F5.hb D_r X_r_t0;replace D_t0:=B5;clear B5 F5 t0_;refine wo 14 ?_;refine wpe ?_;have r_:=D_r.c3;have t0_:=D_t0.c3;go_wp2;refine pex ?_;refine bodyPost_ret (by simp[results,Tryz.results497,go_sem,r_,t0_];try rfl) rfl ?_;exact⟨qv,gv,rfl,HQ.out,HT.out,HG.out⟩
theorem Bk.c5 {w:World} {p t:Nat} {a b c d e:Value} (h:Bk w p t #[a,b,c,d,e]):w.cell? ⟨p,0,none⟩=some a∧w.cell? ⟨p,1,none⟩=some b∧w.cell? ⟨p,2,none⟩=some c∧w.cell? ⟨p,3,none⟩=some d∧w.cell? ⟨p,4,none⟩=some e:=⟨h.cell 0,h.cell 1,h.cell 2,h.cell 3,h.cell 4⟩
theorem Bk.c9 {w:World} {p t:Nat} {a b c d e f g h i:Value} (k:Bk w p t #[a,b,c,d,e,f,g,h,i]):w.cell? ⟨p,0,none⟩=some a∧w.cell? ⟨p,1,none⟩=some b∧w.cell? ⟨p,2,none⟩=some c∧w.cell? ⟨p,3,none⟩=some d∧w.cell? ⟨p,4,none⟩=some e∧w.cell? ⟨p,5,none⟩=some f∧w.cell? ⟨p,6,none⟩=some g∧w.cell? ⟨p,7,none⟩=some h∧w.cell? ⟨p,8,none⟩=some i:=⟨k.cell 0,k.cell 1,k.cell 2,k.cell 3,k.cell 4,k.cell 5,k.cell 6,k.cell 7,k.cell 8⟩
end
section
variable {P:Program} {t e size bytes:Nat}
theorem app0_run (h:ElemS P t e size bytes) (ty:TypeId) (w:World) (base:Option Addr) (x:Sv) (ds:List Value) (hx:x.Is w size ds) (h1:∀u∈ds,u.oneCell'=true) (h63:x.n≤maxLen) (hbytes:x.n*bytes≤140737488355328):
  ∃(y:Sv) (w':World),(Builtin.append_ #[t,t] ty #[.slice base 0 0,x.v]).run P w=.ok y.v w'∧y.n=x.n∧y.Is w' size ds∧y.Ty w' e∧Gr w w':=by
 obtain⟨i,z,hi,hz,hsz,hby,hzs⟩:=h.hi;have ht:=h.ht;obtain⟨A,n,c⟩:=x;have hlen:=hx.len;simp only at hlen h63 hbytes;rcases A with _ | ad
 ·obtain⟨h9,rfl⟩:=hx.mk0 rfl;injection h9 with _ h8 h7;subst h8 h7;refine⟨⟨base,0,0⟩,w,?_,rfl,⟨(Nat.zero_mul _).symm,nr _,nq _,(fun _=>rfl),Sees.nil⟩,(fun ad _ h=>absurd h (ni _)),Gr.refl w⟩;cases base<;>simp[Builtin.append_,run_underlying ht,sizeOf,typeInfo,hi,Builtin.lenOf,Builtin.firstCells,storeCells]
 ·by_cases h0:n=0
  ·subst h0;rw[Nat.zero_mul] at hlen;obtain rfl:=List.length_eq_zero_iff.1 hlen;refine⟨⟨base,0,0⟩,w,?_,rfl,⟨(Nat.zero_mul _).symm,nr _,nq _,(fun _=>rfl),Sees.nil⟩,(fun ad _ h=>absurd h (ni _)),Gr.refl w⟩;have hf:=run_firstCells_some (P:=P) w i.size 0 ad 0 c [] (by simp) (by simp);cases base<;>simp[Builtin.append_,run_underlying ht,sizeOf,typeInfo,hi,Builtin.lenOf,hf,storeCells]
  ·have hc:=hx.cells rfl;rcases base with _ | b
   ·obtain⟨v',w',hr,ho,hg,_⟩:=run_append_own_at (P:=P) w w.heap.size t ty e i z size bytes ht hi hz hsz hby hzs h.pos Nl 0 [] ⟨by simp,.inl ⟨rfl,rfl⟩⟩ ad n c ds hlen hc h1 (by omega) (by rw[Nat.zero_add];exact hbytes) (nr _);rw[Nat.zero_add,List.nil_append] at ho;obtain⟨y,rfl,hyn,hy,hty⟩:=Sv.of_row ho h.pos;exact⟨y,w',hr,hyn,hy,hty,Gr.of ((Below.refl _ w).grown hg (nr _) (fun k e=>by cases e))⟩
   ·obtain⟨v',w',hr,ho,hg⟩:=run_append_arg_grows (P:=P) w t ty e i z size bytes ht hi hz hsz hby hzs h.pos b 0 0 [] (by simp) (by simp) ad n c ds hlen hc (by omega) (by omega) (by rw[Nat.zero_add];exact hbytes);rw[Nat.zero_add,List.nil_append] at ho;obtain⟨y,rfl,hyn,hy,hty⟩:=Sv.of_row ho h.pos;exact⟨y,w',hr,hyn,hy,hty,Gr.of ((Below.refl _ w).grown hg (nr _) (fun k e=>by cases e))⟩
theorem doesAt_app0 (h:ElemS P t e size bytes) {o:Oper} {a:Act} {w:World} {K:Value→World→Prop} (s x:Operand) (ho:o.op=.call { callee:=.builtin .append,args:=#[s,x],argTypes:=#[t,t] }) (base:Option Addr) (xv:Sv) (ds:List Value) (hs:a.eval s=.slice base 0 0) (hxe:a.eval x=xv.v) (hx:xv.Is w size ds) (h1:∀u∈ds,u.oneCell'=true) (h63:xv.n≤maxLen) (hbytes:xv.n*bytes≤140737488355328)
  (hK:∀(y:Sv) (w':World),y.n=xv.n→y.Is w' size ds→y.Ty w' e→Gr w w'→K y.v w'):doesAt P o a w K:=by
 obtain⟨y,w',hr,hn,hy,hty,hg⟩:=app0_run (P:=P) h o.type w base xv ds hx h1 h63 hbytes;refine doesAt_value (v:=y.v) (W':=w') ?_ (hK y w' hn hy hty hg);unfold execOp;simp only[ho,resolve,invoke,builtin,Sem.run_bind,Sem.run_pure,Result.andThen_ok,List.map_toArray,List.map_cons,List.map_nil,hs,hxe,hr]
end
theorem Rows.app0 {α β:Type} {cs:β→List Value} {Is:World→β→α→Prop} {P:Program} {t e k bytes:Nat} (h:ElemS P t e k bytes) {o:Oper} {a:Act} {w:World} {K:Value→World→Prop} (s x:Operand) (ho:o.op=.call { callee:=.builtin .append,args:=#[s,x],argTypes:=#[t,t] }) (base:Option Addr) (xv:Sv) (xs:List α) (hs:a.eval s=.slice base 0 0) (hxe:a.eval x=xv.v)
  (hx:Rows cs Is e k w xv xs) (hI:∀{w w':World} {b:β} {a:α},Is w b a→Gr w w'→Is w' b a) (h1:∀b,∀u∈cs b,u.oneCell'=true) (h63:xv.n≤maxLen) (hbytes:xv.n*bytes≤140737488355328) (hK:∀(y:Sv) (w':World),y.n=xv.n→Rows cs Is e k w' y xs→Gr w w'→K y.v w'):doesAt P o a w K:=by
 obtain⟨ts,t1,t2,t3,t4⟩:=hx;refine doesAt_app0 h s x ho base xv _ hs hxe t1 (fun u hu=>by obtain⟨p,_,hp⟩:=List.mem_flatMap.1 hu;exact h1 _ u hp) h63 hbytes fun y w' hn hy hty hg=>hK y w' hn ⟨ts,hy,t2,fun p hp=>hI (t3 p hp) hg,hty⟩ hg
theorem Tv.one (t:Tv):∀u∈t.cs,u.oneCell'=true:=fun u hu=>by
 simp only[Tv.cs,List.mem_cons,List.not_mem_nil,or_false] at hu;rcases hu with rfl | rfl | rfl | rfl<;>rfl
theorem Fv.one (t:Fv):∀u∈t.cs,u.oneCell'=true:=fun u hu=>by
 simp only[Fv.cs,List.mem_cons,List.not_mem_nil,or_false] at hu;rcases hu with rfl | rfl | rfl | rfl<;>rfl
theorem Sv.inj {a b:Sv} (h:a.v=b.v):a=b:=by
 obtain⟨A,n,c⟩:=a;obtain⟨A',n',c'⟩:=b;simp only[Sv.v,Value.slice.injEq] at h;obtain⟨rfl,rfl,rfl⟩:=h;rfl
def NoRow (v:Value) (_:World):Prop:=∃b:Nat,v=.slice (some ⟨b,0,none⟩) 0 0
def Terms.At (l:List Tm) (v:Value) (W:World):Prop:=∃x:Sv,v=x.v∧Terms W x l
theorem Terms.At.gr {W W':World} {v:Value} {l:List Tm} (h:Terms.At l v W) (G:Gr W W'):Terms.At l v W':=by
 obtain⟨r,e,hr⟩:=h;exact⟨r,e,hr.gr G⟩
theorem Terms.At.is {W:World} {x:Sv} {l:List Tm} (h:Terms.At l x.v W):Terms W x l:=by
 obtain⟨s,e,hs⟩:=h;rw[Sv.inj e];exact hs
section
attribute [local go_sem] Oper.semAt_some
structure Rw where
 kind:Int
 index:Int
 lo:Int
 hi:Int
 deriving DecidableEq,Inhabited
structure Mv where
 row:Rw
 coef:Rv
abbrev Mm:=Rw×Q
abbrev Mv.ar (t:Mv):Array Value:=#[.int .i64 t.row.kind,.int .i64 t.row.index,.int .i64 t.row.lo,.int .i64 t.row.hi,.bool t.coef.neg,.slice t.coef.num.A t.coef.num.n t.coef.num.c,.slice t.coef.den.A t.coef.den.n t.coef.den.c]
attribute [go_sem] Mv.ar
def Mv.cs (t:Mv):List Value:=[.int .i64 t.row.kind,.int .i64 t.row.index,.int .i64 t.row.lo,.int .i64 t.row.hi,.bool t.coef.neg,.slice t.coef.num.A t.coef.num.n t.coef.num.c,.slice t.coef.den.A t.coef.den.n t.coef.den.c]
structure Mv.Is (w:World) (t:Mv) (x:Mm):Prop where
 row:t.row=x.1
 coef:t.coef.Is w x.2
theorem Mv.Is.gr {w w':World} {t:Mv} {x:Mm} (h:t.Is w x) (G:Gr w w'):t.Is w' x:=⟨h.row,h.coef.gr G⟩
instance kpMv {x:Mv} {q} {w w'}:Kp (x.Is w q) w w' (x.Is w' q):=⟨fun G h=>h.gr G⟩
theorem Mv.len (t:Mv):t.cs.length=7:=rfl
abbrev Mults (w:World) (x:Sv) (l:List Mm):Prop:=Rows Mv.cs Mv.Is 310 7 w x l
theorem Mults.gr {w w':World} {x:Sv} {l:List Mm} (h:Mults w x l) (G:Gr w w'):Mults w' x l:=Rows.gr (fun h G=>h.gr G) h G
instance kpMs {x l} {w w'}:Kp (Mults w x l) w w' (Mults w' x l):=⟨fun G h=>Mults.gr h G⟩
theorem Mults.len {w:World} {x:Sv} {l:List Mm} (h:Mults w x l):l.length=x.n:=Rows.len Mv.len (by decide) h
theorem Mults.at {w:World} {x:Sv} {l:List Mm} (h:Mults w x l) {i:Nat} {a:Mm} (ha:l[i]?=some a):
  ∃(t:Mv) (ad:Addr),t.Is w a∧x.A=some ad∧w.cell? (ad.add (i*7))=some (.int .i64 a.1.kind)∧w.cell? ⟨(ad.add (i*7)).block,(ad.add (i*7)).off+1,none⟩=some (.int .i64 a.1.index)∧w.cell? ⟨(ad.add (i*7)).block,(ad.add (i*7)).off+2,none⟩=some (.int .i64 a.1.lo)∧w.cell? ⟨(ad.add (i*7)).block,(ad.add (i*7)).off+3,none⟩=some (.int .i64 a.1.hi)∧w.cell? ⟨(ad.add (i*7)).block,(ad.add (i*7)).off+4,none⟩=some (.bool t.coef.neg)∧w.cell? ⟨(ad.add (i*7)).block,(ad.add (i*7)).off+5,none⟩=some (.slice t.coef.num.A t.coef.num.n t.coef.num.c)∧w.cell? ⟨(ad.add (i*7)).block,(ad.add (i*7)).off+6,none⟩=some (.slice t.coef.den.A t.coef.den.n t.coef.den.c):=by
 obtain⟨t,ht,hc⟩:=Rows.at Mv.len h ha;have hr:=ht.row;obtain⟨ad,hA,_,c0⟩:=hc 0 _ rfl;obtain⟨ad1,h1,_,c1⟩:=hc 1 _ rfl;obtain⟨ad2,h2,_,c2⟩:=hc 2 _ rfl;obtain⟨ad3,h3,_,c3⟩:=hc 3 _ rfl;obtain⟨ad4,h4,_,c4⟩:=hc 4 _ rfl;obtain⟨ad5,h5,_,c5⟩:=hc 5 _ rfl;obtain⟨ad6,h6,_,c6⟩:=hc 6 _ rfl;rw[hA] at h1 h2 h3 h4 h5 h6;cases h1;cases h2;cases h3;cases h4;cases h5;cases h6
 rw[add_in _ _ (by decide)] at c1 c2 c3 c4 c5 c6;rw[← hr];exact⟨t,ad,ht,hA,c0,c1,c2,c3,c4,c5,c6⟩
theorem Mv.one (t:Mv):∀u∈t.cs,u.oneCell'=true:=fun u hu=>by
 simp only[Mv.cs,List.mem_cons,List.not_mem_nil,or_false] at hu;rcases hu with rfl | rfl | rfl | rfl | rfl | rfl | rfl<;>rfl
theorem elemM:ElemS Tryz.prog 48 310 7 88:=elem_of (z:=.agg #[.int .i64 0,.int .i64 0,.int .i64 0,.int .i64 0,.bool false,.slice none 0 0,.slice none 0 0]) (by kernel_rfl) (by kernel_rfl) rfl (by decide)
theorem cloneD0 (w:World):
  Calls Tryz.prog 140 #[Nl] w fun e w'=>e=.returned (.slice none 0 0)∧Gr w w':=by
 have heq:=fun (W:World) (A:Option Addr) (n c:Nat)=>Lib.run_eql_slice_nil (P:=Tryz.prog) W 111 46 A n c 0 0 (by kernel_rfl)
 go_enter Tryz.func140,Tryz.ntmps140;go_wp2;go_ret;exact⟨rfl,Gr.refl w⟩
end
theorem Fr.ext {X Y:Nat→Prop} {a b c:World} (h:Fr X a b) (k:Fr Y b c) (hX:∀i,i < b.heap.size→Y i→X i∨a.heap.size≤i):Fr X a c:=⟨h.bel.trans k.bel,fun i hi hx=>by
 have hib:=nk hi h.size;rw[k.keep i hib (fun e=>by rcases hX i hib e with e | e;exact hx e;omega)];exact h.keep i hi hx⟩
section
variable {α β:Type} {cs:β→List Value} {Is:World→β→α→Prop} {e k:Nat} {w w':World} {B:Nat} {x:Sv} {xs:List α}
theorem Own.push (hz:Own cs Is e k w B x xs) {b:β} {u:α} {v':Value} (ts:List (β×α)) (hl:xs=ts.map (·.2)) (hts:∀p∈ts,Is w p.1 p.2) (hb:Is w b u) (h:w'.ownsRow B e k v' (x.n+1) ((ts.flatMap fun p=>cs p.1)++cs b)) (hI:∀p a,Is w p a→Is w' p a):
  ∃y:Sv,v'=y.v∧y.n=x.n+1∧Own cs Is e k w' B y (xs++[u]):=by
 obtain⟨A,c,rfl⟩:=rw_form h;refine⟨⟨A,x.n+1,c⟩,rfl,rfl,ts++[(b,u)],?_,?_,?_⟩
 ·rw[List.flatMap_append];simpa using h
 ·rw[hl,List.map_append];rfl
 ·intro p hp;rcases List.mem_append.1 hp with hp | hp
  ·exact hI _ _ (hts p hp)
  ·rw[mj hp];exact hI _ _ hb
theorem Own.app1 {P:Program} {t bytes:Nat} (h:ElemS P t e k bytes) {o:Oper} {a:Act} {K:Act→World→Prop} {Q:Exit→Act→World→Prop} (s xo:Operand) (ho:o.op=.call { callee:=.builtin .append,args:=#[s,xo],argTypes:=#[t,t] }) (hs:a.eval s=x.v) (hz:Own cs Is e k w B x xs) (ad:Addr) (c:Nat) (b:β) (u:α)
  (hx:a.eval xo=.slice (some ad) 1 c) (hb:Is w b u) (hlen:(cs b).length=k) (hcell:∀j v,(cs b)[j]?=some v→w.cell? (ad.add j)=some v) (h1:∀v∈cs b,v.oneCell'=true) (h63:x.n+1≤maxLen) (hbytes:(x.n+1)*bytes≤140737488355328) (hB:B≤w.heap.size) (hI:∀w',Fr (fun b=>(x.v).ownBlock=some b) w w'→∀p a,Is w p a→Is w' p a)
  (hK:∀(y:Sv) (w':World),y.n=x.n+1→Own cs Is e k w' B y (xs++[u])→Fr (fun b=>(x.v).ownBlock=some b) w w'→K (a.put o.dst y.v) w'):o.wp P a w K Q:=by
 obtain⟨i,z,hi,hzz,hsz,hby,hzs⟩:=h.hi;have hz':=hz;obtain⟨ts,t1,t2,t3⟩:=hz';obtain⟨v',w',hrun,h2,h3,_,h5⟩:=run_append_own_at (P:=P) w B t o.type e i z k bytes h.ht hi hzz hsz hby hzs h.pos _ x.n _ t1 ad 1 c (cs b) (by rw[hlen,Nat.one_mul]) hcell h1 h63 hbytes hB;have F:=fr_own0 h3;obtain⟨y,rfl,hyn,hy⟩:=hz.push ts t2 t3 hb h2 (hI w' F);unfold Oper.wp execOp;simp only[ho,resolve,invoke,builtin,Sem.run_bind,Sem.run_pure,Result.andThen_ok,List.map_toArray,List.map_cons,List.map_nil,hs,hx,hrun];exact hK y w' hyn hy F
end
theorem elemF:ElemS Tryz.prog 28 40 4 80:=elem_of (z:=.agg #[.slice none 0 0,.bool false,.slice none 0 0,.slice none 0 0]) (by kernel_rfl) (by kernel_rfl) rfl (by decide)
abbrev OwnF (w:World) (B:Nat) (x:Sv) (l:List Fm):Prop:=Own Fv.cs Fv.Is 40 4 w B x l
theorem Fv.Is.own {w w':World} {f:Fv} {x:Fm} {v:Value} {B k n:Nat} {xs:List Value} (h:f.Is w x) (ho:w.ownsRow B 40 k v n xs) (F:Fr (fun b=>v.ownBlock=some b) w w'):f.Is w' x:=
 h.tf F (fun b cs fr hb hh=>by obtain⟨cur,hc⟩:=rw_bk ho b hb;exact Bk.not_ty hc (by decide) _ _ hh) (fun b cs fr hb hh=>by obtain⟨cur,hc⟩:=rw_bk ho b hb;exact Bk.not_ty hc (by decide) _ _ hh)
theorem OwnF.step {w w':World} {B:Nat} {x:Sv} {l:List Fm} (h:OwnF w B x l) (F:Fr (fun b=>(Value.slice x.A x.n x.c).ownBlock=some b) w w'):∀(p:Fv) (a:Fm),p.Is w a→p.Is w' a:=fun p a hp=>by
 obtain⟨ts,t1,_⟩:=h;exact hp.own t1 F
theorem OwnF.up {w w':World} {B:Nat} {x:Sv} {l:List Fm} (h:OwnF w B x l) (G:Gr w w'):OwnF w' B x l:=Own.gr h (fun _ _ ha=>ha.gr G) G
theorem OwnF.forms {w:World} {B:Nat} {x:Sv} {l:List Fm} (h:OwnF w B x l):Forms w x l:=h.rows (by decide)
theorem OwnF.st {w w':World} {B p t:Nat} {x:Sv} {l:List Fm} {us:Array Value} (h:OwnF w B x l) (F:Fr (fun b=>b=p) w w') (hb:Bk w p t us) (h0:t≠40:=by decide) (h1:t≠108:=by decide) (h2:t≠300:=by decide):OwnF w' B x l:=
 Own.go h (fun f a ha=>ha.tf' F hb h1 h2) fun b hb'=>F.keep b (h.lt b hb').2 fun e=>h.ne hb h0 (e▸hb')
section
attribute [local go_sem] Oper.semAt_some
theorem Bk.c1 {w:World} {p t:Nat} {a:Value} (h:Bk w p t #[a]):w.cell? ⟨p,0,none⟩=some a:=h.cell 0
theorem Mults.tf {w w':World} {x:Sv} {l:List Mm} {X:Nat→Prop} (h:Mults w x l) (F:Fr X w w') (hX:∀b cs fr,X b→w.heap[b]?≠some (.cells cs 310 fr)) (hU:∀b cs fr,X b→w.heap[b]?≠some (.cells cs 300 fr)):Mults w' x l:=
 Rows.tf h F hX fun _ _ h=>⟨h.row,h.coef.tf F hU⟩
theorem Mults.st {w w':World} {p t:Nat} {us:Array Value} {x:Sv} {l:List Mm} (h:Mults w x l) (F:Fr (fun x=>x=p) w w') (hb:Bk w p t us) (h0:t≠310:=by decide) (h1:t≠300:=by decide):Mults w' x l:=
 h.tf F (fun b cs fr e hh=>Bk.not_ty hb h0 cs fr (e▸hh)) (fun b cs fr e hh=>Bk.not_ty hb h1 cs fr (e▸hh))
end
end Go.Proofs.YtmhphnljfcncpaaGreatDoor
