/- Walks of the search and of what it calls, part 8. -/
import Derived.Test.YtbhbainhmfjpdaaGreatDoorMg
set_option linter.unusedVariables false
set_option linter.unusedSimpArgs false
set_option maxRecDepth 100000
set_option maxHeartbeats 8000000
namespace Go.Proofs.YtbhbainhmfjpdaaGreatDoor
open Go.RowKit
section
attribute [local go_sem] Oper.semAt_some
def Q.cmpQ (x y:Q):Int:=if x.sign < y.sign then -1 else if y.sign < x.sign then 1 else cmpI (x.sg&&decide (0 < x.num*y.un)) (x.num*y.un) (y.sg&&decide (0 < y.num*x.un)) (y.num*x.un)
theorem rcmp3_any (w:World) (a b:Rv) (x y:Q) (ha:a.Is w x) (hb:b.Is w y) (h1:(limbs x.num).length≤100000) (h2:(limbs y.num).length≤100000) (h3:Sl x.un) (h4:Sl y.un):
  Calls Tryz.prog 127 #[a.v,b.v] w fun e w'=>e=.returned (.int .i64 (Q.cmpQ x y))∧Gr w w':=by
 have L1:=I h1;have L2:=I h2;have D1:=I (nt (den_len h3) (by decide:100000≤400000));have D2:=I (nt (den_len h4) (by decide:100000≤400000));have M1:=I (nt (num_un_len h1 h4) (by decide:200000≤1000000));have M2:=I (nt (num_un_len h2 h3) (by decide:200000≤1000000));have hE:Hid (Q.cmpQ x y=if x.sign < y.sign then -1 else if y.sign < x.sign then 1 else cmpI (x.sg&&decide (0 < x.num*y.un)) (x.num*y.un) (y.sg&&decide (0 < y.num*x.un)) (y.num*x.un)):=rfl;clear h1 h2 h3 h4;simp only[Rv.v];go_enter Tryz.func127,Tryz.ntmps127;go_wp2_with fail;refine nw2h fun W HG hB1 hB2=>?_
 have HA:=I (ha.gr HG);have HB:=I (hb.gr HG);clear ha hb;generalize w.heap.size+1=q at*;generalize w.heap.size=p at*;obtain⟨a0,a1,a2⟩:=hB1.c3;obtain⟨b0,b1,b2⟩:=hB2.c3;have HG0:Hid (Gr W W.drew):=(Gr.refl W).drew;have HX:Hid (∀W2,Gr W W2→Calls Tryz.prog 179 #[a.v,b.v] W2 fun e w'=>∃r1 r2:Iv,e=.returned (.tuple #[r1.v,r2.v])∧r1.Is w' (x.sg&&decide (0 < x.num*y.un)) (x.num*y.un)∧r2.Is w' (y.sg&&decide (0 < y.num*x.un)) (y.num*x.un)∧Gr W2 w'):=fun W2 G=>cross_any W2 a b x y (HA.gr G) (HB.gr G) (nt L1 dx) (nt L2 dx) D1 D2
 have HS1:=I (sign_any W.drew a x (HA.gr HG0) (nt L1 dx));have HS2:Hid (∀W2,Gr W W2→Calls Tryz.prog 130 #[b.v] W2 fun e w'=>e=.returned (.int .i64 y.sign)∧Gr W2 w'):=fun W2 G=>sign_any W2 b y (HB.gr G) (nt L2 dx)
 simp only[Rv.v] at HS1 HS2 HX;generalize x.sign=sm at*;generalize y.sign=tn at*
 first | (go_region_held3 (fun W=>W.cell? ⟨p,0,none⟩=some (.bool a.neg)∧W.cell? ⟨p,1,none⟩=some a.num.v∧W.cell? ⟨p,2,none⟩=some a.den.v∧W.cell? ⟨q,0,none⟩=some (.bool b.neg)∧W.cell? ⟨q,1,none⟩=some b.num.v∧W.cell? ⟨q,2,none⟩=some b.den.v)
   (first | go_keep | exact⟨hk1.1.1,hk1.1.2.1,hk1.1.2.2,hk1.2.1,hk1.2.2.1,hk1.2.2.2⟩ | exact⟨hk2.1.1,hk2.1.2.1,hk2.1.2.2,hk2.2.1,hk2.2.2.1,hk2.2.2.2⟩)
   (first | (go_at_call 130;refine ((HS2.out w1 HG1.out)).mono ?_;rintro e w2 ⟨rfl,G2⟩;have HG2:=I (HG1.out.trans G2);have hk2:=ai (HG2.out.bk hB1.out).c3 (HG2.out.bk hB2.out).c3;clear G2) | (go_at_call 130;refine (HS1.out).mono ?_;rintro e w1 ⟨rfl,G1⟩;have HG1:=I (HG0.out.trans G1);have hk1:=ai (HG1.out.bk hB1.out).c3 (HG1.out.bk hB2.out).c3;clear G1))) | fail
 clear HS1 HS2 a0 a1 a2 b0 b1 b2 hk1;obtain⟨⟨a0,a1,a2⟩,b0,b1,b2⟩:=hk2;have HF:=I (HG.trans HG2);have HXX:=I (HX.out w2 HG2);by_cases h1:sm < tn
 ·rw[if_pos h1] at hE;have hd:decide (sm < tn)=true:=by simp[h1]
  have hn:(sm != tn)=true:=by simp;omega
  go_wp2;go_ret;exact⟨by rw[hE.out];rfl,HF.out⟩
 ·have hd:decide (sm < tn)=false:=by simp;omega
  rw[if_neg h1] at hE;by_cases h2:tn < sm
  ·rw[if_pos h2] at hE;have hn:(sm != tn)=true:=by simp;omega
   go_wp2;go_ret;exact⟨by rw[hE.out];rfl,HF.out⟩
  ·rw[if_neg h2] at hE;obtain rfl:sm=tn:=by omega
   have hn:(sm != sm)=false:=by simp
   generalize (x.sg&&decide (0 < x.num*y.un))=s1 at*;generalize (y.sg&&decide (0 < y.num*x.un))=s2 at*;generalize x.num*y.un=m1 at*;generalize y.num*x.un=m2 at*;go_wp2_with fail;go_at_call 179
   refine HXX.mono ?_;rintro e w3 ⟨x1,x2,rfl,hx1,hx2,G3⟩;obtain⟨E1,E2,G4⟩:=made2 w3 118 118 #[.bool x1.neg,x1.mag.v] #[.bool x2.neg,x2.mag.v];have HI:=I (icmp_any _ x1 x2 _ _ _ _ (hx1.gr G4) (hx2.gr G4) M1 M2);have HG4:=I ((HF.trans G3).trans G4);have x10_:=E1.c2;have x20_:=E2.c2;clear hx1 hx2 G3 G4 E1 E2 HXX a0 a1 a2 b0 b1 b2;simp only[Iv.v] at*;generalize cmpI s1 m1 s2 m2=c at*;go_wp2_with fail;go_at_call 180
   refine cm0 HI fun w4 G5=>?_
   have HG5:=I (HG4.trans G5)

   go_wp2;go_ret;exact⟨by rw[hE.out];rfl,HG5.out⟩
theorem Bk.c10 {w:World} {p t:Nat} {a b c d e f g h i j:Value} (hh:Bk w p t #[a,b,c,d,e,f,g,h,i,j]):w.cell? ⟨p,0,none⟩=some a∧w.cell? ⟨p,1,none⟩=some b∧w.cell? ⟨p,2,none⟩=some c∧w.cell? ⟨p,3,none⟩=some d∧w.cell? ⟨p,4,none⟩=some e∧w.cell? ⟨p,5,none⟩=some f∧w.cell? ⟨p,6,none⟩=some g∧w.cell? ⟨p,7,none⟩=some h∧w.cell? ⟨p,8,none⟩=some i∧w.cell? ⟨p,9,none⟩=some j:=⟨hh.cell 0,hh.cell 1,hh.cell 2,hh.cell 3,hh.cell 4,hh.cell 5,hh.cell 6,hh.cell 7,hh.cell 8,hh.cell 9⟩
theorem Bk.c12 {w:World} {p t:Nat} {a b c d e f g h i j k l:Value} (hh:Bk w p t #[a,b,c,d,e,f,g,h,i,j,k,l]):w.cell? ⟨p,0,none⟩=some a∧w.cell? ⟨p,1,none⟩=some b∧w.cell? ⟨p,2,none⟩=some c∧w.cell? ⟨p,3,none⟩=some d∧w.cell? ⟨p,4,none⟩=some e∧w.cell? ⟨p,5,none⟩=some f∧w.cell? ⟨p,6,none⟩=some g∧w.cell? ⟨p,7,none⟩=some h∧w.cell? ⟨p,8,none⟩=some i∧w.cell? ⟨p,9,none⟩=some j∧w.cell? ⟨p,10,none⟩=some k∧w.cell? ⟨p,11,none⟩=some l:=⟨hh.cell 0,hh.cell 1,hh.cell 2,hh.cell 3,hh.cell 4,hh.cell 5,hh.cell 6,hh.cell 7,hh.cell 8,hh.cell 9,hh.cell 10,hh.cell 11⟩
theorem Rv.len (r:Rv):r.cs.length=3:=rfl
theorem Rv.one (r:Rv):∀u∈r.cs,u.oneCell'=true:=fun u hu=>by
 simp only[Rv.cs,List.mem_cons,List.not_mem_nil,or_false] at hu;rcases hu with rfl | rfl | rfl<;>rfl
abbrev Rats (w:World) (x:Sv) (l:List Q):Prop:=Rows Rv.cs (fun w r q=>r.Is w q) 35 3 w x l
theorem Rats.gr {w w':World} {x:Sv} {l:List Q} (h:Rats w x l) (G:Gr w w'):Rats w' x l:=Rows.gr (fun h G=>Rv.Is.gr h G) h G
instance kpRs {x l} {w w'}:Kp (Rats w x l) w w' (Rats w' x l):=⟨fun G h=>Rats.gr h G⟩
structure Qm where
 g:Gm
 lo:List Q
 hi:List Q
 goal:Fm
structure Qv where
 g:Gv
 lo:Sv
 hi:Sv
 rows:Sv
 goal:Fv
abbrev Qv.v (q:Qv):Value:=.agg #[.int .i64 q.g.inputs,.slice q.g.units.A q.g.units.n q.g.units.c,.slice q.g.outs.A q.g.outs.n q.g.outs.c,.slice q.lo.A q.lo.n q.lo.c,.slice q.hi.A q.hi.n q.hi.c,.slice q.rows.A q.rows.n q.rows.c,.slice q.goal.terms.A q.goal.terms.n q.goal.terms.c,.bool q.goal.const.neg,.slice q.goal.const.num.A q.goal.const.num.n q.goal.const.num.c,.slice q.goal.const.den.A q.goal.const.den.n q.goal.const.den.c]
abbrev Qv.qs (q:Qv):Array Value:=#[.int .i64 q.g.inputs,.slice q.g.units.A q.g.units.n q.g.units.c,.slice q.g.outs.A q.g.outs.n q.g.outs.c,.slice q.lo.A q.lo.n q.lo.c,.slice q.hi.A q.hi.n q.hi.c,.slice none 0 0,.slice q.goal.terms.A q.goal.terms.n q.goal.terms.c,.bool q.goal.const.neg,.slice q.goal.const.num.A q.goal.const.num.n q.goal.const.num.c,.slice q.goal.const.den.A q.goal.const.den.n q.goal.const.den.c]
abbrev Qv.qo (q:Qv):Array Value:=#[.int .i64 q.g.inputs,.slice q.g.units.A q.g.units.n q.g.units.c,.slice q.g.outs.A q.g.outs.n q.g.outs.c,.slice q.lo.A q.lo.n q.lo.c,.slice q.hi.A q.hi.n q.hi.c,.slice none 0 0,.slice q.goal.terms.A q.goal.terms.n q.goal.terms.c,.bool q.goal.const.neg,.slice q.goal.const.num.A q.goal.const.num.n q.goal.const.num.c,.slice q.goal.const.den.A q.goal.const.den.n q.goal.const.den.c,.slice none 0 0,.slice none 0 0]
abbrev Qv.qp (q:Qv) (v:Nat):Array Value:=#[.int .i64 q.g.inputs,.slice q.g.units.A q.g.units.n q.g.units.c,.slice q.g.outs.A q.g.outs.n q.g.outs.c,.slice q.lo.A q.lo.n q.lo.c,.slice q.hi.A q.hi.n q.hi.c,.slice none 0 0,.slice q.goal.terms.A q.goal.terms.n q.goal.terms.c,.bool q.goal.const.neg,.slice q.goal.const.num.A q.goal.const.num.n q.goal.const.num.c,.slice q.goal.const.den.A q.goal.const.den.n q.goal.const.den.c,.slice none 0 0,.slice none 0 0,.pointer (some ⟨v,0,none⟩)]
abbrev Qv.qz (q:Qv) (z:Sv):Array Value:=#[.int .i64 q.g.inputs,.slice q.g.units.A q.g.units.n q.g.units.c,.slice q.g.outs.A q.g.outs.n q.g.outs.c,.slice q.lo.A q.lo.n q.lo.c,.slice q.hi.A q.hi.n q.hi.c,.slice none 0 0,.slice q.goal.terms.A q.goal.terms.n q.goal.terms.c,.bool q.goal.const.neg,.slice q.goal.const.num.A q.goal.const.num.n q.goal.const.num.c,.slice q.goal.const.den.A q.goal.const.den.n q.goal.const.den.c,.slice none 0 0,.slice z.A z.n z.c]
abbrev Qv.qb (q:Qv) (z:Sv):Array Value:=#[.int .i64 q.g.inputs,.slice q.g.units.A q.g.units.n q.g.units.c,.slice q.g.outs.A q.g.outs.n q.g.outs.c,.slice q.lo.A q.lo.n q.lo.c,.slice q.hi.A q.hi.n q.hi.c,.slice none 0 0,.slice q.goal.terms.A q.goal.terms.n q.goal.terms.c,.bool q.goal.const.neg,.slice q.goal.const.num.A q.goal.const.num.n q.goal.const.num.c,.slice q.goal.const.den.A q.goal.const.den.n q.goal.const.den.c,.slice none 0 0,.slice z.A z.n z.c,.slice none 0 0]
attribute [go_sem] Qv.qs Qv.qo Qv.qp Qv.qz Qv.qb
structure Qv.Is (w:World) (q:Qv) (x:Qm):Prop where
 g:q.g.Is w x.g
 lo:Rats w q.lo x.lo
 hi:Rats w q.hi x.hi
 rows:q.rows=Sv.none
 goal:q.goal.Is w x.goal
theorem Qv.Is.gr {w w':World} {q:Qv} {x:Qm} (h:q.Is w x) (G:Gr w w'):q.Is w' x:=⟨h.g.gr G,h.lo.gr G,h.hi.gr G,h.rows,h.goal.gr G⟩
instance kpQv {x:Qv} {q} {w w'}:Kp (x.Is w q) w w' (x.Is w' q):=⟨fun G h=>h.gr G⟩
theorem sl4 {n:Nat} (h:n≤4):Sl n:=nt (limbs_lt1 (nj h dx)) dx
theorem elemR:ElemS Tryz.prog 28 35 3 56:=elem_of (z:=.agg #[.bool false,.slice none 0 0,.slice none 0 0]) (by kernel_rfl) (by kernel_rfl) rfl dx
abbrev OwnR (w:World) (B:Nat) (x:Sv) (l:List Q):Prop:=Own Rv.cs (fun w r q=>r.Is w q) 35 3 w B x l
theorem OwnR.step {w w':World} {B:Nat} {x:Sv} {l:List Q} (h:OwnR w B x l) (F:Fr (fun b=>(Value.slice x.A x.n x.c).ownBlock=some b) w w'):∀(p:Rv) (a:Q),p.Is w a→p.Is w' a:=fun p a hp=>by
 obtain⟨ts,t1,_⟩:=h;exact hp.own t1 dx F
theorem OwnR.up {w w':World} {B:Nat} {x:Sv} {l:List Q} (h:OwnR w B x l) (G:Gr w w'):OwnR w' B x l:=Own.gr h (fun _ _ ha=>ha.gr G) G
theorem OwnR.rats {w:World} {B:Nat} {x:Sv} {l:List Q} (h:OwnR w B x l):Rats w x l:=h.rows dx
theorem OwnR.st {w w':World} {B p t:Nat} {x:Sv} {l:List Q} {us:Array Value} (h:OwnR w B x l) (F:Fr (fun b=>b=p) w w') (hb:Bk w p t us) (h0:t≠35:=by decide) (h2:t≠200:=by decide):OwnR w' B x l:=
 Own.go h (fun f a ha=>ha.tf' F hb h2) fun b hb'=>F.keep b (h.lt b hb').2 fun e=>h.ne hb h0 (e▸hb')
theorem OwnR.other {w w':World} {B B':Nat} {x y:Sv} {l m:List Q} (h:OwnR w B x l) (ho:OwnR w B' y m) (F:Fr (fun b=>(Value.slice y.A y.n y.c).ownBlock=some b) w w') (hd:∀b,(Value.slice x.A x.n x.c).ownBlock=some b→(Value.slice y.A y.n y.c).ownBlock≠some b):OwnR w' B x l:=
 Own.go h (ho.step F) fun b hb'=>F.keep b (h.lt b hb').2 (hd b hb')
theorem OwnR.fp {w w':World} {p B:Nat} {r:List Nat} {x:Sv} {l:List Q} (h:OwnR w B x l) (F:Fp p w w') (hd:Fd w p r):OwnR w' B x l:=by
 obtain⟨cs,hc⟩:=hd.bk;exact h.st F hc
theorem Fd.ownR {w w':World} {p B:Nat} {r:List Nat} {x:Sv} {l:List Q} (h:Fd w p r) (ho:OwnR w B x l) (F:Fr (fun b=>(Value.slice x.A x.n x.c).ownBlock=some b) w w'):Fd w' p r:=by
 obtain⟨cs,hc⟩:=h.bk;refine h.fr F (fun e=>ho.ne hc dx e) fun b cs fr e hh=>?_
 obtain⟨ts,t1,_⟩:=ho;obtain⟨cur,hc'⟩:=rw_bk t1 b e;exact Bk.not_ty hc' dx _ _ hh
theorem Rats.stR {w w':World} {p t:Nat} {us:Array Value} {x:Sv} {l:List Q} (h:Rats w x l) (F:Fr (fun b=>b=p) w w') (hb:Bk w p t us) (h0:t≠35:=by decide) (h2:t≠200:=by decide):Rats w' x l:=
 Rows.tf h F (fun b cs fr e hh=>Bk.not_ty hb h0 cs fr (e▸hh)) fun f a hf=>hf.tf' F hb h2
theorem Rats.fp {w w':World} {p:Nat} {r:List Nat} {x:Sv} {l:List Q} (h:Rats w x l) (F:Fp p w w') (hd:Fd w p r):Rats w' x l:=by
 obtain⟨cs,hc⟩:=hd.bk;exact h.stR F hc
theorem Rats.ownF {w w':World} {B:Nat} {x y:Sv} {l:List Q} {m:List Fm} (h:Rats w x l) (ho:OwnF w B y m) (F:Fr (fun b=>(Value.slice y.A y.n y.c).ownBlock=some b) w w'):Rats w' x l:=by
 obtain⟨ts,t1,_⟩:=ho;refine Rows.tf h F (fun b cs fr e hh=>?_) fun f a hf=>hf.own t1 dx F
 obtain⟨cur,hc'⟩:=rw_bk t1 b e;exact Bk.not_ty hc' dx _ _ hh
theorem Own.app2 {α β:Type} {cs:β→List Value} {Is:World→β→α→Prop} {e k:Nat} {w:World} {B:Nat} {x:Sv} {xs:List α} {P:Program} {t bytes:Nat} (h:ElemS P t e k bytes) {o:Oper} {a:Act} {K:Act→World→Prop} {Q:Exit→Act→World→Prop} (s xo:Operand) (ho:o.op=.call { callee:=.builtin .append,args:=#[s,xo],argTypes:=#[t,t] }) (hs:a.eval s=x.v) (hz:Own cs Is e k w B x xs) (ad:Addr) (c:Nat) (b:β) (u:α)
  (hx:a.eval xo=.slice (some ad) 1 c) (hb:Is w b u) (hlen:(cs b).length=k) (hcell:∀j v,(cs b)[j]?=some v→w.cell? (ad.add j)=some v) (h1:∀v∈cs b,v.oneCell'=true) (h63:x.n+1≤maxLen) (hbytes:(x.n+1)*bytes≤140737488355328) (hB:B≤w.heap.size) (hI:∀w',Fr (fun b=>(x.v).ownBlock=some b) w w'→∀p a,Is w p a→Is w' p a)
  (hK:∀(y:Sv) (w':World),y.n=x.n+1→Own cs Is e k w' B y (xs++[u])→Fr (fun b=>(x.v).ownBlock=some b) w w'→(y.v.ownBlock=x.v.ownBlock∨(y.v).ownBlock=some w.heap.size)→K (a.put o.dst y.v) w'):o.wp P a w K Q:=by
 obtain⟨i,z,hi,hzz,hsz,hby,hzs⟩:=h.hi;have hz':=hz;obtain⟨ts,t1,t2,t3⟩:=hz';obtain⟨v',w',hrun,h2,h3,_,h5⟩:=run_append_own_at (P:=P) w B t o.type e i z k bytes h.ht hi hzz hsz hby hzs h.pos _ x.n _ t1 ad 1 c (cs b) (by rw[hlen,Nat.one_mul]) hcell h1 h63 hbytes hB;have F:=fr_own0 h3;obtain⟨y,rfl,hyn,hy⟩:=hz.push ts t2 t3 hb h2 (hI w' F);unfold Oper.wp execOp;simp only[ho,resolve,invoke,builtin,Sem.run_bind,Sem.run_pure,Result.andThen_ok,List.map_toArray,List.map_cons,List.map_nil,hs,hx,hrun];exact hK y w' hyn hy F h5
structure Rgv where
 lo:Sv
 hi:Sv
 rows:Sv
abbrev Rgv.v (g:Rgv):Value:=.agg #[.slice g.lo.A g.lo.n g.lo.c,.slice g.hi.A g.hi.n g.hi.c,.slice g.rows.A g.rows.n g.rows.c]
structure Rgv.Is (w:World) (g:Rgv) (x:Rgm):Prop where
 lo:Rats w g.lo x.lo
 hi:Rats w g.hi x.hi
 rows:Forms w g.rows x.rows
theorem Rgv.Is.gr {w w':World} {g:Rgv} {x:Rgm} (h:g.Is w x) (G:Gr w w'):g.Is w' x:=⟨h.lo.gr G,h.hi.gr G,h.rows.gr G⟩
instance kpRg {x:Rgv} {q} {w w'}:Kp (x.Is w q) w w' (x.Is w' q):=⟨fun G h=>h.gr G⟩
theorem Rgv.Is.st {w w':World} {p t:Nat} {us:Array Value} {g:Rgv} {x:Rgm} (h:g.Is w x) (F:Fr (fun b=>b=p) w w') (hb:Bk w p t us) (h0:t≠35:=by decide) (h1:t≠37:=by decide) (h2:t≠138:=by decide) (h3:t≠200:=by decide):g.Is w' x:=
 ⟨h.lo.stR F hb h0 h3,h.hi.stR F hb h0 h3,h.rows.st F hb h1 h2 h3⟩
theorem Forms.fp {w w':World} {p:Nat} {r:List Nat} {x:Sv} {l:List Fm} (h:Forms w x l) (F:Fp p w w') (hd:Fd w p r):Forms w' x l:=by
 obtain⟨cs,hc⟩:=hd.bk;exact h.st F hc
theorem Rgv.Is.fp {w w':World} {p:Nat} {r:List Nat} {g:Rgv} {x:Rgm} (h:g.Is w x) (F:Fp p w w') (hd:Fd w p r):g.Is w' x:=⟨h.lo.fp F hd,h.hi.fp F hd,h.rows.fp F hd⟩
theorem Gv.Is.fp {w w':World} {p:Nat} {r:List Nat} {g:Gv} {x:Gm} (h:g.Is w x) (F:Fp p w w') (hd:Fd w p r):g.Is w' x:=⟨h.inputs,h.units.fp F hd,h.outs.fp F hd⟩
theorem Gv.Is.st {w w':World} {p t:Nat} {us:Array Value} {g:Gv} {x:Gm} (h:g.Is w x) (F:Fr (fun b=>b=p) w w') (hb:Bk w p t us) (h1:t≠37:=by decide) (h2:t≠138:=by decide) (h3:t≠200:=by decide):g.Is w' x:=⟨h.inputs,h.units.st F hb h1 h2 h3,h.outs.st F hb h1 h2 h3⟩
theorem abs_ok {q:Q} (h:q.Ok):q.abs.Ok:=⟨h.one,h.cop,fun h0=>⟨rfl,(h.pos h0).2⟩⟩
theorem region_any (w:World) (p n:Nat) (r:List Nat) (hf:Fd w p r) (hn:n≤100):
  Calls Tryz.prog 117 #[.pointer (some ⟨p,0,none⟩),.int .i64 n] w fun e w'=>∃g:Rgv,e=.returned g.v∧g.Is w' (regionQ n r).1∧Fd w' p (regionQ n r).2∧Fp p w w':=by
 have HFD:=I hf;clear hf;have hgr:Hid (¬w.heap.size+1=w.heap.size):=(fun e=>by omega);go_enter Tryz.func117,Tryz.ntmps117;go_wp2_with fail;refine nw2h fun W HG D_r D_g=>?_
 have N_g:=dnl (w.heap.size) (w.heap.size+1);generalize w.heap.size+1=g at*;have HPW:Hid (Fp p w W):=I HG.fp;go_loopw [6] (fun i wr=>∃(j:Nat) (zl zh:Sv) (L H:List Q) (rr:List Nat),i=.int .i64 j∧j≤n∧Hid (OwnR wr W.heap.size zl L)∧Hid (OwnR wr W.heap.size zh H)∧Hid (∀b,zl.v.ownBlock=some b→(zh.v).ownBlock≠some b)∧Hid (L++(boxQ (n - j) rr).1.1=(boxQ n r).1.1)∧Hid (H++(boxQ (n - j) rr).1.2=(boxQ n r).1.2)∧Hid ((boxQ (n - j) rr).2=(boxQ n r).2)∧Hid (L.length=j)∧Hid (H.length=j)∧Hid (Fd wr p rr)∧Hid (Fr (fun b=>b=p∨b=g) W wr)∧Hid (Bk wr g 30 #[zl.v,zh.v,Nl])∧Hid (Bk wr w.heap.size 30 #[Nl,Nl,Nl])) (fun i _=>n - (intOf i).toNat)
 case atStart=>exact⟨0,Sv.none,Sv.none,[],[],r,rfl,nq _,Own.nil _ _,Own.nil _ _,(fun b h=>by cases h),rfl,rfl,rfl,rfl,rfl,I (HFD.gr HG),Fr.refl _ _,D_g,D_r⟩
 case round=>
  obtain⟨j,zl,zh,L,H,rr,rfl,hj,HA,HC,HDI,HE1,HE2,HE3,HAL,HBL,HD9,HP9,HG9,HR9⟩:=hrel;clear D_g D_r;by_cases hju:j < n
  ·have HJ:Hid (n - j=n - j - 1+1):=(show n - j=n - j - 1+1 from by omega);have hj9:j < 100:=by omega
   go_wp2_with fail;refine (number_any wr p rr HD9).mono ?_;rintro e w1 ⟨q1,rfl,hq1,hd1,hp1⟩;have A_:=I (HA.fp hp1 HD9);have C_:=I (HC.fp hp1 HD9);have P_:=I (HP9.ext hp1 (fun i _ e=>.inl (.inl e)));have G_:=I (HG9.fp hp1 HD9 dx);have R_:=I (HR9.fp hp1 HD9 dx);have D_:=I hd1;have X_:=I hq1;clear HA HC HP9 HG9 HR9 HD9 hd1 hp1 hq1;go_wp2_with fail;refine (number_any w1 p _ D_).mono ?_;rintro e w2 ⟨q2,rfl,hq2,hd1,hp1⟩;obtain⟨B1,B2,GB⟩:=made2 w2 35 35 q1.ar q2.ar;have A9:=I ((A_.fp hp1 D_).up GB);have C9:=I ((C_.fp hp1 D_).up GB);have P9:=I ((P_.ext hp1 (fun i _ e=>.inl (.inl e))).ext GB.fr (fun _ _ h=>h.elim));have G9:=I (GB.bk (G_.fp hp1 D_ dx));have R9:=I (GB.bk (R_.fp hp1 D_ dx));have X9:=I ((X_.fp hp1 D_).gr GB);have D9:=I (hd1.gr GB);have Y9:=I (hq2.gr GB);have T9:=I B1;have U9:=I B2;have HLL:Hid (∀b,zl.v.ownBlock=some b→b < w2.heap.size∧b < w2.heap.size+1):=fun b h=>by
    have:=((A_.fp hp1 D_).lt b h).2;exact⟨this,Nat.lt_succ_of_lt this⟩
   have HLL2:Hid (∀b,zh.v.ownBlock=some b→b < w2.heap.size∧b < w2.heap.size+1):=fun b h=>by
    have:=((C_.fp hp1 D_).lt b h).2;exact⟨this,Nat.lt_succ_of_lt this⟩
   have HTH:Hid (W.heap.size≤w2.heap.size+1):=Nat.le_succ_of_le ((P_.ext hp1 (fun i _ e=>.inl (.inl e))).size);have HNE:Hid (¬w2.heap.size=w2.heap.size+1):=(fun e=>by omega);have HTG:Hid (w2.heap.size≠g):=fun e=>Bk.ne B1 G9 dx e
   have HUG:Hid (w2.heap.size+1≠g):=fun e=>Bk.ne B2 G9 dx e
   have HQ1:=I (numQ_tiny rr);have HQ3:=I (numQ_tiny (numQ rr).2);have HQ2:Hid ((numQ (numQ rr).2).1.abs.Ok):=abs_ok (numQ_tiny (numQ rr).2).ok;have t0_:=B1.c3;have u0_:=B2.c3;have fz:=B2.frozen;clear A_ C_ P_ G_ R_ X_ D_ hp1 hd1 hq2 B1 B2 GB;go_upto_region 6 with fail;generalize (w2.alloc (.cells q1.ar 35)).alloc (.cells q2.ar 35)=W5 at*;generalize w2.heap.size+1=th at*;generalize w2.heap.size=tl at*;have F0:=(Fr.set W5 ⟨th,0,none⟩ (.bool false) rfl:Fr (fun b=>b=th) W5 _);have B0:=U9.put 0 (.bool false);simp only[Array.setIfInBounds,List.size_toArray,List.length_cons,List.length_nil] at B0;have hA8:OwnR _ _ zl L:=Own.go A9 (fun q a h=>h.tf' F0 U9) fun b hb=>F0.keep b (A9.lt b hb).2 (fun e=>ni _ (e▸(HLL.out b hb).2))
   have hC8:OwnR _ _ zh H:=Own.go C9 (fun q a h=>h.tf' F0 U9) fun b hb=>F0.keep b (C9.lt b hb).2 (fun e=>ni _ (e▸(HLL2.out b hb).2))
   have A8:=I hA8;have C8:=I hC8;have P8:=I (P9.ext F0 (fun i _ e=>.inr (by rw[e];exact HTH.out)));have G8:=I (F0.bk G9 (fun e=>HUG.out e.symm));have R8:=I (F0.bk R9 (fun e=>Bk.ne R9 U9 dx e));have T8:=I (F0.bk T9 (fun e=>HNE.out e));have D8:=I (D9.st F0 U9);have X8:=I (X9.tf' F0 U9);have Y8:Hid (Rv.Is _ ⟨false,q2.num,q2.den⟩ (numQ (numQ rr).2).1.abs):=⟨rfl,(Y9.tf' F0 U9).num,(Y9.tf' F0 U9).den⟩;have U8:=I B0;clear hA8 hC8 F0 B0 A9 C9 P9 G9 R9 X9 D9 Y9 T9 U9;go_upto_region 7 with fail;generalize W5.setCell ⟨th,0,none⟩ (.bool false)=W6 at*;have GD:=(Gr.refl W6).drew;have A0:=I (A8.up GD);have C0:=I (C8.up GD);have D0:=I (D8.gr GD);have P0:=I (P8.ext GD.fr (fun _ _ h=>h.elim));have G0:=I (GD.bk G8);have R0:=I (GD.bk R8);have T0:=I (GD.bk T8);have U0:=I (GD.bk U8);have X0:=I (X8.gr GD);have Y0:=I (Y8.gr GD);clear A8 C8 D8 P8 G8 R8 T8 U8 X8 Y8 GD t0_ u0_ fz;have hS0:(fun W=>W.cell? ⟨tl,0,none⟩=some (.bool q1.neg)∧W.cell? ⟨tl,1,none⟩=some q1.num.v∧W.cell? ⟨tl,2,none⟩=some q1.den.v∧W.cell? ⟨th,0,none⟩=some (.bool false)∧W.cell? ⟨th,1,none⟩=some q2.num.v∧W.cell? ⟨th,2,none⟩=some q2.den.v) W6.drew:=⟨T0.c3.1,T0.c3.2.1,T0.c3.2.2,U0.c3.1,U0.c3.2.1,U0.c3.2.2⟩;have hS1:(fun W=>W.cell? ⟨g,0,none⟩=some zl.v∧W.cell? ⟨g,1,none⟩=some zh.v∧W.cell? ⟨g,2,none⟩=some Nl) W6.drew:=G0.c3;refine wp_region_T [1,6] (fun W=>W.cell? ⟨tl,0,none⟩=some (.bool q1.neg)∧W.cell? ⟨tl,1,none⟩=some q1.num.v∧W.cell? ⟨tl,2,none⟩=some q1.den.v∧W.cell? ⟨th,0,none⟩=some (.bool false)∧W.cell? ⟨th,1,none⟩=some q2.num.v∧W.cell? ⟨th,2,none⟩=some q2.den.v) (fun W=>W.cell? ⟨g,0,none⟩=some zl.v∧W.cell? ⟨g,1,none⟩=some zh.v∧W.cell? ⟨g,2,none⟩=some Nl) (by kernel_rfl) ?_;show anyT [1,6] _ _ _ _ _ 16 _ _ _;generalize W6.drew=v0 at*;refine anyT.tk 0 hS0 ?_;refine anyT.tt 1 ⟨hS0,hS1⟩ ?_;refine anyT.tk 2 hS0 ?_;refine anyT.tk 5 hS0 ?_;refine anyT.tt 6 ⟨hS0,hS1⟩ ?_;refine anyT.tk 7 hS0 ?_;refine anyT.tk 8 hS0 ?_;obtain⟨B1,GB⟩:=made1 v0 35 q1.ar;have A1:=I (A0.up GB);have C1:=I (C0.up GB);have D1:=I (D0.gr GB);have P1:=I (P0.ext GB.fr (fun _ _ h=>h.elim));have G1:=I (GB.bk G0);have R1:=I (GB.bk R0);have T1:=I (GB.bk T0);have U1:=I (GB.bk U0);have X1:=I (X0.gr GB);have Y1:=I (Y0.gr GB);have BC:=I (bk_cells B1);clear A0 C0 D0 P0 G0 R0 T0 U0 X0 Y0 GB B1 hS0 hS1;refine anyT.k 3 fun K hK=>?_
   go_simp;refine hK.out _ _ ⟨⟨⟨T1.c3.1,T1.c3.2.1,T1.c3.2.2,U1.c3.1,U1.c3.2.1,U1.c3.2.2⟩,fun _=>Or.inl (G1.c3)⟩,?_⟩;clear hK K;refine ptt ?_;generalize hw1:v0.alloc (.cells q1.ar 35)=v1 at*;clear hw1;generalize v0.heap.size=nb at*;have LB:=I P1.size;have LZ:Hid (zl.n=j):=by rw[← HAL.out];exact (A1.len Rv.len dx).symm
   refine anyT.k 4 fun K hK=>?_
   refine Own.app2 elemR _ _ (by rfl) (by rfl) A1.out ⟨nb,0,none⟩ 1 q1 _ (by rfl) X1.out rfl BC.out (Rv.one q1) (by unfold maxLen;have:=LZ.out;omega) (by have:=LZ.out;omega) LB.out (fun w' F=>A1.step F) (fun y v2 hyn hy hF hob=>?_);have A2:Hid (OwnR v2 W.heap.size y (L++[(numQ rr).1])):=I hy;have C2:=I (C1.other A1 hF (fun b h e=>HDI.out b e h));have HDI2:Hid (∀b,y.v.ownBlock=some b→(zh.v).ownBlock≠some b):=fun b h e=>by rcases hob with o | o;exact HDI.out b (o▸h) e;rw[h] at o;injection o with o;exact ni _ (o▸(C1.lt b e).2)
   have D2:=I (D1.ownR A1 hF);have P2:=I (P1.ext hF (fun i _ e=>.inr (A1.lt i e).1));have G2:=I (hF.bk G1 (fun e=>A1.ne G1 dx e));have R2:=I (hF.bk R1 (fun e=>A1.ne R1 dx e));have T2:=I (hF.bk T1 (fun e=>ni _ (HLL.out tl e).1));have U2:=I (hF.bk U1 (fun e=>ni _ (HLL.out th e).2));have X2:=I (A1.step hF _ _ X1);have Y2:=I (A1.step hF _ _ Y1);clear A1 C1 D1 P1 G1 R1 T1 U1 X1 Y1 hy hF hyn hob BC LB LZ HLL HDI;refine hK.out _ _ ⟨⟨⟨T2.c3.1,T2.c3.2.1,T2.c3.2.2,U2.c3.1,U2.c3.2.1,U2.c3.2.2⟩,fun _=>Or.inl (G2.c3)⟩,?_⟩;clear hK K;refine ptt ?_;refine anyT.tk 12 ⟨T2.c3.1,T2.c3.2.1,T2.c3.2.2,U2.c3.1,U2.c3.2.1,U2.c3.2.2⟩ ?_;refine anyT.k 9 fun K hK=>?_
   refine doesAt_wp (K:=fun v W=>∃s:Rv,v=s.v∧s.Is W (Q.add (numQ rr).1 (numQ (numQ rr).2).1.abs)∧Gr v2 W) (doesAt_enter (f:=20) (args:=#[q1.v,(⟨false,q2.num,q2.den⟩:Rv).v]) (by go_simp;try (first | with_reducible rfl | rfl)) ((r3add_any _ q1 ⟨false,q2.num,q2.den⟩ _ _ X2 Y2 HQ1.ok HQ2 (sl4 HQ1.num) (sl4 HQ3.num) (sl4 HQ1.den) (sl4 HQ3.den)).mono ?_)) ?_
   ·rintro e w' ⟨s,rfl,hs,G⟩;exact⟨_,rfl,s,rfl,hs,G⟩
   rintro v v3 ⟨s,rfl,hs,G⟩;have S3:=I hs;have A3:=I (A2.up G);have C3:=I (C2.up G);have D3:=I (D2.gr G);have P3:=I (P2.ext G.fr (fun _ _ h=>h.elim));have G3:=I (G.bk G2);have R3:=I (G.bk R2);have T3:=I (G.bk T2);have U3:=I (G.bk U2);have X3:=I (X2.gr G);have Y3:=I (Y2.gr G);clear A2 C2 D2 P2 G2 R2 T2 U2 X2 Y2 hs G;refine hK.out _ _ ⟨⟨⟨T3.c3.1,T3.c3.2.1,T3.c3.2.2,U3.c3.1,U3.c3.2.1,U3.c3.2.2⟩,fun _=>Or.inl (G3.c3)⟩,?_⟩;clear hK K;refine ptt ?_;obtain⟨B1,GB⟩:=made1 v3 35 s.ar;have A4:=I (A3.up GB);have C4:=I (C3.up GB);have D4:=I (D3.gr GB);have P4:=I (P3.ext GB.fr (fun _ _ h=>h.elim));have G4:=I (GB.bk G3);have R4:=I (GB.bk R3);have T4:=I (GB.bk T3);have U4:=I (GB.bk U3);have X4:=I (X3.gr GB);have Y4:=I (Y3.gr GB);have S4:=I (S3.gr GB);have BC:=I (bk_cells B1);have HLH:Hid (∀b,zh.v.ownBlock=some b→b < tl∧b < th):=HLL2;clear A3 C3 D3 P3 G3 R3 T3 U3 X3 Y3 S3 GB B1 HLL2;refine anyT.k 10 fun K hK=>?_
   go_simp;refine hK.out _ _ ⟨⟨⟨T4.c3.1,T4.c3.2.1,T4.c3.2.2,U4.c3.1,U4.c3.2.1,U4.c3.2.2⟩,fun _=>Or.inl (G4.c3)⟩,?_⟩;clear hK K;refine ptt ?_;generalize hw1:v3.alloc (.cells s.ar 35)=v4 at*;clear hw1;generalize v3.heap.size=nb2 at*;have LB:=I P4.size;have LZ:Hid (zh.n=j):=by rw[← HBL.out];exact (C4.len Rv.len dx).symm
   refine anyT.k 11 fun K hK=>?_
   refine Own.app2 elemR _ _ (by rfl) (by rfl) C4.out ⟨nb2,0,none⟩ 1 s _ (by rfl) S4.out rfl BC.out (Rv.one s) (by unfold maxLen;have:=LZ.out;omega) (by have:=LZ.out;omega) LB.out (fun w' F=>C4.step F) (fun x v5 hyn hy hF hob=>?_);have C5:Hid (OwnR v5 W.heap.size x (H++[Q.add (numQ rr).1 (numQ (numQ rr).2).1.abs])):=I hy;have A5:=I (A4.other C4 hF HDI2);have HDI3:Hid (∀b,y.v.ownBlock=some b→(x.v).ownBlock≠some b):=fun b h e=>by rcases hob with o | o;exact HDI2.out b h (o▸e);rw[e] at o;injection o with o;exact ni _ (o▸(A4.lt b h).2)
   have D5:=I (D4.ownR C4 hF);have P5:=I (P4.ext hF (fun i _ e=>.inr (C4.lt i e).1));have G5:=I (hF.bk G4 (fun e=>C4.ne G4 dx e));have R5:=I (hF.bk R4 (fun e=>C4.ne R4 dx e));have T5:=I (hF.bk T4 (fun e=>ni _ (HLH.out tl e).1));have U5:=I (hF.bk U4 (fun e=>ni _ (HLH.out th e).2));clear A4 C4 D4 P4 G4 R4 T4 U4 X4 Y4 hy hF hyn hob BC LB LZ HLH S4 HDI2;refine hK.out _ _ ⟨⟨⟨T5.c3.1,T5.c3.2.1,T5.c3.2.2,U5.c3.1,U5.c3.2.1,U5.c3.2.2⟩,fun _=>Or.inl (G5.c3)⟩,?_⟩;clear hK K;refine ptt ?_;have F6:=(Fr.set v5 ⟨g,0,none⟩ y.v rfl:Fr (fun b=>b=g) v5 _);have B6:=G5.put 0 y.v;simp only[Array.setIfInBounds,List.size_toArray,List.length_cons,List.length_nil] at B6;refine anyT.k 13 fun K hK=>?_
   have fz3:=G5.frozen;have g0:=G5.c3.1;go_simp;refine hK.out _ _ ⟨⟨⟨(F6.bk T5 (fun e=>HTG.out e)).c3.1,(F6.bk T5 (fun e=>HTG.out e)).c3.2.1,(F6.bk T5 (fun e=>HTG.out e)).c3.2.2,(F6.bk U5 (fun e=>HUG.out e)).c3.1,(F6.bk U5 (fun e=>HUG.out e)).c3.2.1,(F6.bk U5 (fun e=>HUG.out e)).c3.2.2⟩,fun _=>Or.inr (by kernel_rfl)⟩,?_⟩;clear hK K;refine ptt ?_;have A6:=I (A5.st F6 G5);have C6:=I (C5.st F6 G5);have D6:=I (D5.st F6 G5);have P6:=I (P5.ext F6 (fun i _ e=>.inl (.inr e)));have R6:=I (F6.bk R5 (fun e=>hgr.out e.symm));have T6:=I (F6.bk T5 (fun e=>HTG.out e));have U6:=I (F6.bk U5 (fun e=>HUG.out e));have G6:Hid (Bk (v5.setCell ⟨g,0,none⟩ y.v) g 30 #[y.v,zh.v,Nl]):=I B6;clear F6 B6 fz3 g0 A5 C5 D5 P5 R5 T5 U5 G5;generalize v5.setCell ⟨g,0,none⟩ y.v=v6 at*;refine anyT.tk 14 ⟨T6.c3.1,T6.c3.2.1,T6.c3.2.2,U6.c3.1,U6.c3.2.1,U6.c3.2.2⟩ ?_;have F7:=(Fr.set v6 ⟨g,1,none⟩ x.v rfl:Fr (fun b=>b=g) v6 _);have B7:=G6.put 1 x.v;simp only[Array.setIfInBounds,List.size_toArray,List.length_cons,List.length_nil] at B7;refine anyT.k 15 fun K hK=>?_
   have fz3:=G6.frozen;have g0:=G6.c3.2.1;go_simp;refine hK.out _ _ ⟨⟨⟨(F7.bk T6 (fun e=>HTG.out e)).c3.1,(F7.bk T6 (fun e=>HTG.out e)).c3.2.1,(F7.bk T6 (fun e=>HTG.out e)).c3.2.2,(F7.bk U6 (fun e=>HUG.out e)).c3.1,(F7.bk U6 (fun e=>HUG.out e)).c3.2.1,(F7.bk U6 (fun e=>HUG.out e)).c3.2.2⟩,fun _=>Or.inr (by kernel_rfl)⟩,?_⟩;clear hK K;refine ptt ?_;refine anyT.done (by kernel_rfl) ?_;have A7:=I (A6.st F7 G6);have C7:=I (C6.st F7 G6);have D7:=I (D6.st F7 G6);have P7:=I (P6.ext F7 (fun i _ e=>.inl (.inr e)));have R7:=I (F7.bk R6 (fun e=>hgr.out e.symm));have G7:Hid (Bk (v6.setCell ⟨g,1,none⟩ x.v) g 30 #[y.v,x.v,Nl]):=I B7;clear F7 B7 fz3 g0 A6 C6 D6 P6 R6 T6 U6 G6;generalize v6.setCell ⟨g,1,none⟩ x.v=v7 at*;go_wp2;go_roundw
   ·refine⟨j+1,y,x,L++[(numQ rr).1],H++[Q.add (numQ rr).1 (numQ (numQ rr).2).1.abs],(numQ (numQ rr).2).2,by go_num,by omega,A7,C7,HDI3,?_,?_,?_,I (by have:=HAL.out;rw[List.length_append,this];rfl),I (by have:=HBL.out;rw[List.length_append,this];rfl),D7,P7,G7,R7⟩
    ·show _++(boxQ (n - (j+1)) _).1.1=_;rw[← HE1.out,HJ.out,boxQ_succ,show n - (j+1)=n - j - 1 from by omega,List.append_assoc];exact rfl
    ·show _++(boxQ (n - (j+1)) _).1.2=_;rw[← HE2.out,HJ.out,boxQ_succ,show n - (j+1)=n - j - 1 from by omega,List.append_assoc];exact rfl
    ·show (boxQ (n - (j+1)) _).2=_;rw[← HE3.out,HJ.out,boxQ_succ,show n - (j+1)=n - j - 1 from by omega]
   ·simp[intOf];omega
  ·obtain rfl:n=j:=by omega
   have HL1:Hid (L=(boxQ n r).1.1):=by rw[← HE1.out,Nat.sub_self];exact (List.append_nil _).symm
   have HH1:Hid (H=(boxQ n r).1.2):=by rw[← HE2.out,Nat.sub_self];exact (List.append_nil _).symm
   have HR1:Hid (rr=(boxQ n r).2):=by rw[← HE3.out,Nat.sub_self];exact rfl
   have HLR:=I HA.rats;have HHR:=I HC.rats;clear HE1 HE2 HE3 HDI HAL HBL HA HC;go_wp2_with fail;refine (next_any wr p 3 rr HD9 dx dx).mono ?_;rintro e w4 ⟨rfl,hd1,hp1⟩;have hm9:=nx_lt (n:=3) dx rr;generalize hx:(nx 3 rr).1=m at*;have HX:=I hx;generalize hy5:(nx 3 rr).2=r5 at*;have HY5:=I hy5;have L9:=I (HLR.fp hp1 HD9);have M9:=I (HHR.fp hp1 HD9);have P9:=I (HP9.ext hp1 (fun i _ e=>.inl (.inl e)));have G9:=I (HG9.fp hp1 HD9 dx);have R9:=I (HR9.fp hp1 HD9 dx);have D9:=I hd1;clear hx hy5 hd1 hp1 HLR HHR HP9 HG9 HR9 HD9;go_wp2_with fail;go_loopw [9] (fun i wr=>∃(k:Nat) (z:Sv) (acc:List Fm) (rr:List Nat),i=.int .i64 k∧k≤m∧Hid (OwnF wr W.heap.size z acc)∧Hid (acc++(outsQ k n rr).1=(outsQ m n r5).1)∧Hid ((outsQ k n rr).2=(outsQ m n r5).2)∧Hid (acc.length+k=m)∧Hid (Rats wr zl L)∧Hid (Rats wr zh H)∧Hid (Fd wr p rr)∧Hid (Fr (fun b=>b=p∨b=g) W wr)∧Hid (Bk wr g 30 #[zl.v,zh.v,z.v])∧Hid (Bk wr w.heap.size 30 #[Nl,Nl,Nl])) (fun i _=>(intOf i).toNat)
   case atStart=>exact⟨m,Sv.none,[],r5,rfl,nr _,Own.nil _ _,rfl,rfl,I (by simp),L9,M9,D9,P9,G9,R9⟩
   case round=>
    obtain⟨k,z,acc,rr2,rfl,hk,HA,HE1,HE2,HAL,HL,HM,HD9,HP9,HG9,HR9⟩:=hrel;clear L9 M9 P9 G9 R9 D9;by_cases hk0:0 < k
    ·have HJ:Hid (k=k - 1+1):=(show k=k - 1+1 from by omega);have hx1:decide ((0:Int) < (k:Int))=true:=by simp;omega
     have hw1:IntKind.i64.wrap ((k:Int) - 1)=((k - 1:Nat):Int):=by rw[wi _ om];omega
     have D0:=I (HD9.gr (Gr.refl wr).drew);have A0:=I (HA.up (Gr.refl wr).drew);have L0:=I (HL.gr (Gr.refl wr).drew);have M0:=I (HM.gr (Gr.refl wr).drew);have P0:=I (HP9.ext (Gr.refl wr).drew.fr (fun _ _ h=>h.elim));have G0:=I ((Gr.refl wr).drew.bk HG9);have R0:=I ((Gr.refl wr).drew.bk HR9);clear HA HD9 HP9 HG9 HR9 HL HM;go_wp2_with fail;go_upto_region 11 with fail;have hS0:(fun W=>W.cell? ⟨g,0,none⟩=some zl.v∧W.cell? ⟨g,1,none⟩=some zh.v∧W.cell? ⟨g,2,none⟩=some z.v) wr.drew:=G0.c3;refine wp_region_E (fun W=>W.cell? ⟨g,0,none⟩=some zl.v∧W.cell? ⟨g,1,none⟩=some zh.v∧W.cell? ⟨g,2,none⟩=some z.v) (by kernel_rfl) ?_;show anyE _ _ _ _ 9 _ _ _;generalize wr.drew=v0 at*;refine anyE.tk 0 hS0 ?_;refine anyE.tk 1 hS0 ?_;refine anyE.tk 2 hS0 ?_;refine anyE.tk 3 hS0 ?_;refine anyE.k 4 fun K hK=>?_
     refine doesAt_wp (K:=fun v W=>∃f:Fv,v=f.v∧f.Is W (formQ n rr2).1∧Fd W p (formQ n rr2).2∧Fp p v0 W) (doesAt_enter (f:=33) (args:=#[.pointer (some ⟨p,0,none⟩),.int .i64 (n:Int)]) (by go_simp;try (first | with_reducible rfl | rfl)) ((form_any _ p n _ D0 om).mono ?_)) ?_
     ·rintro e w' ⟨f,rfl,hf,hd,hp⟩;exact⟨_,rfl,f,rfl,hf,hd,hp⟩
     rintro v w5 ⟨f,rfl,hf,hd,hp⟩;have F1:=I hf;have D1:=I hd;have A1:=I (A0.fp hp D0);have L1:=I (L0.fp hp D0);have M1:=I (M0.fp hp D0);have P1:=I (P0.ext hp (fun i _ e=>.inl (.inl e)));have G1:=I (G0.fp hp D0 dx);have R1:=I (R0.fp hp D0 dx);clear A0 L0 M0 D0 P0 G0 R0 hf hd hp hS0;refine hK.out _ _ ⟨Or.inl (G1.c3),?_⟩;clear hK K;refine ptt ?_;obtain⟨B1,GB⟩:=made1 w5 37 f.ar;have F2:=I (F1.gr GB);have A2:=I (A1.up GB);have L2:=I (L1.gr GB);have M2:=I (M1.gr GB);have D2:=I (D1.gr GB);have P2:=I (P1.ext GB.fr (fun _ _ h=>h.elim));have G2:=I (GB.bk G1);have R2:=I (GB.bk R1);have BC:=I (bk_cells B1);clear A1 L1 M1 D1 P1 G1 R1 GB B1 F1;refine anyE.k 5 fun K hK=>?_
     go_simp;refine hK.out _ _ ⟨Or.inl (G2.c3),?_⟩;clear hK K;refine ptt ?_;generalize hw6:w5.alloc (.cells f.ar 37)=w6 at*;clear hw6;generalize w5.heap.size=nb at*;have LB:=I P2.size;have LZ:Hid (z.n≤m):=by have:=HAL.out;have h9:acc.length=z.n:=A2.len Fv.len dx;exact (by omega:z.n≤m)
     refine anyE.k 6 fun K hK=>?_
     refine Own.app1 elemF _ _ (by rfl) (by rfl) A2.out ⟨nb,0,none⟩ 1 f _ (by rfl) F2.out rfl BC.out (Fv.one f) (by unfold maxLen;have:=LZ.out;omega) (by have:=LZ.out;omega) LB.out (fun w' F=>A2.step F) (fun y w7 hyn hy hF=>?_);have A3:Hid (OwnF w7 W.heap.size y (acc++[(formQ n rr2).1])):=I hy;have L3:=I (L2.ownF A2 hF);have M3:=I (M2.ownF A2 hF);have D3:=I (D2.own A2 hF);have P3:=I (P2.ext hF (fun i _ e=>.inr (A2.lt i e).1));have G3:=I (hF.bk G2 (fun e=>A2.ne G2 dx e));have R3:=I (hF.bk R2 (fun e=>A2.ne R2 dx e));clear A2 L2 M2 D2 P2 G2 R2 hy hF hyn F2 BC LB LZ;refine hK.out _ _ ⟨Or.inl (G3.c3),?_⟩;clear hK K;refine ptt ?_;have hS3:=G3.c3;refine anyE.tk 7 hS3 ?_;clear hS3;refine anyE.k 8 fun K hK=>?_
     have fz3:=G3.frozen;have g2:=G3.c3.2.2;go_simp;refine hK.out _ _ ⟨Or.inr (by kernel_rfl),?_⟩;clear hK K;refine ptt ?_;refine anyE.done (by kernel_rfl) ?_;have F4:=(Fr.set w7 ⟨g,2,none⟩ y.v rfl:Fr (fun b=>b=g) w7 _);have B4:=G3.put 2 y.v;have D4:=I (D3.st F4 G3);have A4:=I (OwnF.st A3 F4 G3);have L4:=I (L3.stR F4 G3);have M4:=I (M3.stR F4 G3);have P4:=I (P3.ext F4 (fun i _ e=>.inl (.inr e)));have R4:=I (F4.bk R3 (fun e=>hgr.out e.symm));have G4:=I B4;simp only[Array.setIfInBounds,List.size_toArray,List.length_cons,List.length_nil] at G4;clear F4 B4 g2 fz3;generalize w7.setCell ⟨g,2,none⟩ y.v=w8 at*;go_wp2;go_roundw
     ·refine⟨k - 1,y,acc++[(formQ n rr2).1],(formQ n rr2).2,by go_num,by omega,A4,?_,?_,I (by have:=HAL.out;rw[List.length_append];simp only[List.length_cons,List.length_nil];omega),L4,M4,D4,P4,G4,R4⟩
      ·show _++(outsQ (k - 1) n _).1=_;rw[← HE1.out,HJ.out,outsQ_succ,Nat.add_sub_cancel,List.append_assoc];exact rfl
      ·show (outsQ (k - 1) n _).2=_;rw[← HE2.out,HJ.out,outsQ_succ,Nat.add_sub_cancel]
     ·simp[intOf];omega
    ·obtain rfl:k=0:=by omega
     have HO1:Hid (acc=(outsQ m n r5).1):=by rw[← HE1.out];exact (List.append_nil _).symm
     have HO2:Hid (rr2=(outsQ m n r5).2):=by rw[← HE2.out];exact rfl
     have HOF:=I HA.forms;clear HA HE1 HE2 HAL;obtain⟨g0,g1,g2⟩:=HG9.c3;have z0_:=HR9.c3;have fz:=HR9.frozen;go_wp2;refine pex ?_;refine ks HR9 fun W5 B5 F5=>?_
     have d_:=B5.c3;refine bret Tryz.results117 ?_;have HQ:regionQ n r=(⟨L,H,acc⟩,rr2):=by
      unfold regionQ;rw[← HR1.out,HX.out,HY5.out,← HL1.out,← HH1.out,← HO1.out,← HO2.out]
     rw[HQ];exact⟨⟨zl,zh,z⟩,rfl,⟨HL.stR F5 HR9,HM.stR F5 HR9,HOF.st F5 HR9⟩,HD9.st F5 HR9,(HPW.ext HP9 (fun i hi e=>e.elim (fun e=>.inl e) (fun e=>.inr (by rw[e];exact N_g.out)))).ext F5 (fun i _ e=>.inr (by rw[e];exact nr _))⟩
theorem Bk.put10 {w:World} {p t:Nat} {a b c d e f g h i j:Value} (hh:Bk w p t #[a,b,c,d,e,f,g,h,i,j]) (x0 x1 x2 x3 x4 x5 x6 x7 x8 x9:Value):Bk ((((((((((w.setCell ⟨p,0,none⟩ x0).setCell ⟨p,1,none⟩ x1).setCell ⟨p,2,none⟩ x2).setCell ⟨p,3,none⟩ x3).setCell ⟨p,4,none⟩ x4).setCell ⟨p,5,none⟩ x5).setCell ⟨p,6,none⟩ x6).setCell ⟨p,7,none⟩ x7).setCell ⟨p,8,none⟩ x8).setCell ⟨p,9,none⟩ x9) p t #[x0,x1,x2,x3,x4,x5,x6,x7,x8,x9]∧Fr (fun b=>b=p) w ((((((((((w.setCell ⟨p,0,none⟩ x0).setCell ⟨p,1,none⟩ x1).setCell ⟨p,2,none⟩ x2).setCell ⟨p,3,none⟩ x3).setCell ⟨p,4,none⟩ x4).setCell ⟨p,5,none⟩ x5).setCell ⟨p,6,none⟩ x6).setCell ⟨p,7,none⟩ x7).setCell ⟨p,8,none⟩ x8).setCell ⟨p,9,none⟩ x9):=by
 refine⟨?_,((((((((((Fr.set w ⟨p,0,none⟩ x0 rfl:Fr (fun b=>b=p) w _)).trans (Fr.set _ ⟨p,1,none⟩ x1 rfl)).trans (Fr.set _ ⟨p,2,none⟩ x2 rfl)).trans (Fr.set _ ⟨p,3,none⟩ x3 rfl)).trans (Fr.set _ ⟨p,4,none⟩ x4 rfl)).trans (Fr.set _ ⟨p,5,none⟩ x5 rfl)).trans (Fr.set _ ⟨p,6,none⟩ x6 rfl)).trans (Fr.set _ ⟨p,7,none⟩ x7 rfl)).trans (Fr.set _ ⟨p,8,none⟩ x8 rfl)).trans (Fr.set _ ⟨p,9,none⟩ x9 rfl)⟩;have:=((((((((((Bk.put hh 0 x0).put 1 x1).put 2 x2).put 3 x3).put 4 x4).put 5 x5).put 6 x6).put 7 x7).put 8 x8).put 9 x9);simpa using this
structure Qv.Iq (w:World) (q:Qv) (x:Qr):Prop where
 g:q.g.Is w x.g
 rg:Rgv.Is w ⟨q.lo,q.hi,q.rows⟩ x.rg
 goal:q.goal.Is w x.goal
theorem Qv.Iq.st {w w':World} {p t:Nat} {us:Array Value} {q:Qv} {x:Qr} (h:q.Iq w x) (F:Fr (fun b=>b=p) w w') (hb:Bk w p t us) (h0:t≠35:=by decide) (h1:t≠37:=by decide) (h2:t≠138:=by decide) (h3:t≠200:=by decide):q.Iq w' x:=
 ⟨h.g.st F hb h1 h2 h3,h.rg.st F hb h0 h1 h2 h3,h.goal.tf' F hb h2 h3⟩
theorem query_any (w:World) (p:Nat) (r:List Nat) (hf:Fd w p r):
  Calls Tryz.prog 63 #[.pointer (some ⟨p,0,none⟩)] w fun e w'=>∃q:Qv,e=.returned q.v∧q.Iq w' (queryQ r).1∧Fd w' p (queryQ r).2∧Fp p w w':=by
 have hok:=graphQ_ok r;have hn9:=hok.i9;have hu9:=hok.u9;clear hok;obtain⟨B1,G⟩:=made1 w 39 (#[.int .i64 0,Nl,Nl,Nl,Nl,Nl,Nl,.bool false,Nl,Nl]);have HG:=I G;have D_r:=I B1;clear G B1;have HFD:=I hf;clear hf;go_enter Tryz.func63,Tryz.ntmps63;go_wp2_with fail;generalize hW:w.alloc (.cells #[.int .i64 0,Nl,Nl,Nl,Nl,Nl,Nl,.bool false,Nl,Nl] 39)=W at*;clear hW;refine (graph_any W p r (HFD.gr HG)).mono ?_;rintro e w1 ⟨⟨gi,zu,zo⟩,rfl,hg,hd,hp⟩;have hgi:gi=((graphQ r).1.inputs:Int):=hg.inputs;subst hgi;have hzu:(graphQ r).1.units.length=zu.n:=hg.units.len;generalize hn0:(graphQ r).1.inputs=n at*;have HN0:=I hn0;have HZU:=I hzu;have hw:IntKind.i64.wrap ((n:Int)+(zu.n:Int))=((n+zu.n:Nat):Int):=by rw[wi _ om];omega
 have hv9:n+zu.n≤100:=by omega
 obtain⟨B1,GB⟩:=made1 w1 27 #[.int .i64 (n:Int),zu.v,zo.v];have GM1:=I (hg.gr GB);have D1:=I (hd.gr GB);have P1:=I ((HG.fp.trans hp).stp GB.fr (fun _ _ h=>h.elim));have R1:=I (GB.bk (D_r.fp hp (HFD.gr HG) dx));have T1:=I B1;have a0_:=B1.c3;clear hg hd hp GB B1 D_r HFD HG hn0 hzu;simp only[Gv.v];go_upto_region 2 with fail;generalize w1.alloc (.cells #[.int .i64 (n:Int),zu.v,zo.v] 27)=W2 at*;generalize w1.heap.size=tg at*;generalize hrr:(graphQ r).2=r1 at*;have HR1:=I hrr;clear hrr;go_wp2_with fail;refine (region_any W2 p n r1 D1 om).mono ?_;rintro e w3 ⟨⟨zl,zh,zr⟩,rfl,hg,hd,hp⟩;obtain⟨B1,GB⟩:=made1 w3 30 #[zl.v,zh.v,zr.v];have RM0:=I ((hg.gr GB).gr (Gr.refl _).drew);have GM0:=I (((GM1.fp hp D1).gr GB).gr (Gr.refl _).drew);have D0:=I ((hd.gr GB).gr (Gr.refl _).drew);have P0:=I (((P1.trans hp).stp GB.fr (fun _ _ h=>h.elim)).stp (Gr.refl _).drew.fr (fun _ _ h=>h.elim));have R0:=I ((Gr.refl _).drew.bk (GB.bk (R1.fp hp D1 dx)));have T0:=I ((Gr.refl _).drew.bk (GB.bk (T1.fp hp D1 dx)));have U0:=I ((Gr.refl _).drew.bk B1);clear hg hd hp GB B1 a0_ GM1 D1 P1 R1 T1;simp only[Rgv.v];go_upto_region 3 with fail;generalize w3.alloc (.cells #[zl.v,zh.v,zr.v] 30)=W4 at*;generalize w3.heap.size=tr at*;generalize hrr:(regionQ n r1).2=rr at*;have HR2:=I hrr;clear hrr;have hS0:(fun W=>W.cell? ⟨tg,0,none⟩=some (.int .i64 (n:Int))∧W.cell? ⟨tg,1,none⟩=some zu.v∧W.cell? ⟨tg,2,none⟩=some zo.v∧W.cell? ⟨tr,0,none⟩=some zl.v∧W.cell? ⟨tr,1,none⟩=some zh.v∧W.cell? ⟨tr,2,none⟩=some zr.v) W4.drew:=⟨T0.c3.1,T0.c3.2.1,T0.c3.2.2,U0.c3.1,U0.c3.2.1,U0.c3.2.2⟩;refine wp_region_E (fun W=>W.cell? ⟨tg,0,none⟩=some (.int .i64 (n:Int))∧W.cell? ⟨tg,1,none⟩=some zu.v∧W.cell? ⟨tg,2,none⟩=some zo.v∧W.cell? ⟨tr,0,none⟩=some zl.v∧W.cell? ⟨tr,1,none⟩=some zh.v∧W.cell? ⟨tr,2,none⟩=some zr.v) (by kernel_rfl) ?_;show anyE _ _ _ _ 12 _ _ _;generalize W4.drew=v0 at*;refine anyE.tk 0 hS0 ?_;refine anyE.tk 1 hS0 ?_;refine anyE.tk 2 hS0 ?_;refine anyE.tk 3 hS0 ?_;refine anyE.tk 4 hS0 ?_;refine anyE.tk 5 hS0 ?_;refine anyE.tk 6 hS0 ?_;refine anyE.tk 7 hS0 ?_;refine anyE.tk 8 hS0 ?_;refine anyE.k 9 fun K hK=>?_
 refine doesAt_wp (K:=fun v W=>∃f:Fv,v=f.v∧f.Is W (formQ (n+zu.n) rr).1∧Fd W p (formQ (n+zu.n) rr).2∧Fp p v0 W) (doesAt_enter (f:=33) (args:=#[.pointer (some ⟨p,0,none⟩),.int .i64 ((n+zu.n:Nat):Int)]) (by go_simp;try (first | with_reducible rfl | rfl)) ((form_any _ p (n+zu.n) _ D0 om).mono ?_)) ?_
 ·rintro e w' ⟨f,rfl,hf,hd,hp⟩;exact⟨_,rfl,f,rfl,hf,hd,hp⟩
 rintro v v1 ⟨f,rfl,hf,hd,hp⟩;have F1:=I hf;have D1:=I hd;have GM1:=I (GM0.fp hp D0);have RM1:=I (RM0.fp hp D0);have P1:=I (P0.trans hp);have R1:=I (R0.fp hp D0 dx);have T1:=I (T0.fp hp D0 dx);have U1:=I (U0.fp hp D0 dx);clear hf hd hp D0 GM0 RM0 P0 R0 T0 U0 hS0;refine hK.out _ _ ⟨Or.inl (⟨T1.c3.1,T1.c3.2.1,T1.c3.2.2,U1.c3.1,U1.c3.2.1,U1.c3.2.2⟩),?_⟩;clear hK K;refine ptt ?_;have hS1:(fun W=>W.cell? ⟨tg,0,none⟩=some (.int .i64 (n:Int))∧W.cell? ⟨tg,1,none⟩=some zu.v∧W.cell? ⟨tg,2,none⟩=some zo.v∧W.cell? ⟨tr,0,none⟩=some zl.v∧W.cell? ⟨tr,1,none⟩=some zh.v∧W.cell? ⟨tr,2,none⟩=some zr.v) v1:=⟨T1.c3.1,T1.c3.2.1,T1.c3.2.2,U1.c3.1,U1.c3.2.1,U1.c3.2.2⟩;refine anyE.tk 10 hS1 ?_;clear hS1;refine anyE.k 11 fun K hK=>?_
 have fz5:=R1.frozen;have z50_:=R1.c10;go_simp;refine hK.out _ _ ⟨Or.inr (by kernel_rfl),?_⟩;clear hK K;refine ptt ?_;refine anyE.done (by kernel_rfl) ?_;clear fz5 z50_;refine ks R1 fun W5 B5 F5=>?_
 have H5:=I F5;have D5:=B5;obtain⟨d0,d1,d2,d3,d4,d5,d6,d7,d8,d9⟩:=B5.c10;clear F5 B5;go_wp2;refine pex ?_;refine bodyPost_ret (by simp[results,Tryz.results63,go_sem,d0,d1,d2,d3,d4,d5,d6,d7,d8,d9];try rfl) rfl ?_;have HQ:queryQ r=(⟨(graphQ r).1,(regionQ n r1).1,(formQ (n+zu.n) rr).1⟩,(formQ (n+zu.n) rr).2):=by
  unfold queryQ;rw[HN0.out,HZU.out,HR1.out,HR2.out]
 rw[HQ];exact⟨⟨⟨n,zu,zo⟩,zl,zh,zr,f⟩,rfl,⟨GM1.st H5 R1,RM1.st H5 R1,F1.tf' H5 R1⟩,D1.st H5 R1,P1.stp H5 (fun b _ e=>Or.inr (by rw[e];exact nr _))⟩
theorem instance_any (w:World) (x:Sv) (L:List Nat) (hx:x.Is w 1 (L.map bv)) (hl:∀y∈L,y < 256) (hn:x.n≤1000):
  Calls Tryz.prog 24 #[x.v] w fun e w'=>∃q:Qv,e=.returned q.v∧q.Iq w' (queryQ L).1∧Gr w w':=by
 change Hid _ at hx hl;go_enter Tryz.func24,Tryz.ntmps24;go_wp2_with fail;refine nw1hc fun W HG D_r=>?_
 have N_r:=dnl (w.heap.size) (w.heap.size);refine (new_any W x L (hx.gr HG) hl hn).mono ?_;rintro e w1 ⟨p,rfl,hp,hd,G1⟩;have HD:=I hd;have DR:=I (G1.bk D_r);have HG1:=I (HG.trans G1);have HPO:=I (nt HG.size hp);clear hp hd G1;go_wp2_with fail;refine (query_any w1 p L HD).mono ?_;rintro e w2 ⟨q,rfl,hg,hd,hp⟩;have DR2:=I (DR.fp hp HD dx);have HGG:=I (HG1.step hp (fun b _ e=>by rw[e];exact HPO.out));have HV:=I hg;clear hg hd hp;have z0_:=DR2.c10;have fz:=DR2.frozen;go_wp2;refine pex ?_;refine ks DR2 fun W5 B5 F5=>?_
 have d_:=B5.c10;refine bret Tryz.results24 ?_;exact⟨q,rfl,HV.st F5 DR2,HGG.fr_at F5 N_r⟩
end
theorem Y {α:Sort _} {a:α}:a=a:=rfl
inductive PV where
 | raw (v:Value)
 | nat (n:Nat)
 | rows (e k:Nat) (ts:List Nat) (xs:List (List PV))
 | agg (cs:List PV)
 | tup (cs:List PV)
 | ptr (e:Nat) (cs:List PV)
 | fn (f:Nat) (cs:List PV)
mutual
def PV.ty:PV→List Nat
 | .raw _=>[]
 | .nat _=>[200]
 | .rows e _ ts _=>e::ts
 | .agg cs=>PV.tyL cs
 | .tup cs=>PV.tyL cs
 | .ptr e cs=>e::PV.tyL cs
 | .fn _ cs=>PV.tyL cs
def PV.tyL:List PV→List Nat
 | []=>[]
 | c::cs=>PV.ty c++PV.tyL cs
end
def PV.cell:PV→Bool
 | .raw v=>v.oneCell'
 | .nat _ | .rows .. | .ptr .. | .fn ..=>true
 | _=>false
def RowOk (k:Nat) (ts:List Nat) (xs:List (List PV)):Prop:=∀r∈xs,r.length=k∧∀c∈r,c.cell=true∧∀t∈c.ty,t∈ts
def Sv.Av (X:Nat→Prop) (x:Sv):Prop:=∀ad,x.A=some ad→0 < x.n→¬X ad.block
mutual
def PV.Rep (w:World) (X:Nat→Prop):PV→Value→Prop
 | .raw u,v=>v=u
 | .nat n,v=>∃x:Sv,v=x.v∧x.Num w (limbs n)∧x.Av X
 | .rows e k ts xs,v=>∃(x:Sv) (us:List (List Value)),v=x.v∧x.n=xs.length∧x.Is w k us.flatten∧x.Ty w e∧x.Av X∧PV.RepLL w X xs us∧RowOk k ts xs
 | .agg cs,v=>∃us:List Value,v=.agg us.toArray∧PV.RepL w X cs us
 | .tup cs,v=>∃us:List Value,v=.tuple us.toArray∧PV.RepL w X cs us
 | .ptr e cs,v=>∃(ad:Addr) (us:List Value),v=.pointer (some ad)∧PV.RepL w X cs us∧(cs≠[]→(¬X ad.block)∧∃zs fr,w.heap[ad.block]?=some (.cells zs e fr))∧∀j u,us[j]?=some u→w.cell? (ad.add j)=some u
 | .fn f cs,v=>∃us:List Value,v=.func (.func f) #[] us.toArray∧PV.RepL w X cs us
def PV.RepL (w:World) (X:Nat→Prop):List PV→List Value→Prop
 | [],us=>us=[]
 | c::cs,us=>∃u us',us=u::us'∧PV.Rep w X c u∧PV.RepL w X cs us'
def PV.RepLL (w:World) (X:Nat→Prop):List (List PV)→List (List Value)→Prop
 | [],us=>us=[]
 | c::cs,us=>∃u us',us=u::us'∧PV.RepL w X c u∧PV.RepLL w X cs us'
end
open PV
section
variable {w w':World} {X X':Nat→Prop} {k:Nat}
theorem PV.RepL.len:∀{cs:List PV} {us:List Value},RepL w X cs us→us.length=cs.length
 | [],us,h=>by rw[RepL] at h;rw[h];rfl
 | c::cs,us,h=>by
  rw[RepL] at h;obtain⟨u,us',rfl,_,h⟩:=h;rw[List.length_cons,List.length_cons,PV.RepL.len h]
theorem PV.RepL.nil:RepL w X [] []:=by rw[RepL]
theorem PV.RepL.cons {c:PV} {cs:List PV} {u:Value} {us:List Value} (h:c.Rep w X u) (k:RepL w X cs us):RepL w X (c::cs) (u::us):=by
 rw[RepL];exact⟨u,us,rfl,h,k⟩
theorem PV.RepL.at:∀{cs:List PV} {us:List Value} {j:Nat} {c:PV},RepL w X cs us→cs[j]?=some c→∃u,us[j]?=some u∧c.Rep w X u
 | [],us,j,c,h,e=>by simp at e
 | d::cs,us,0,c,h,e=>by
  rw[RepL] at h;obtain⟨u,us',rfl,h1,_⟩:=h;simp at e;subst e;exact⟨u,rfl,h1⟩
 | d::cs,us,j+1,c,h,e=>by
  rw[RepL] at h;obtain⟨u,us',rfl,_,h2⟩:=h;simp at e;obtain⟨u,h3,h4⟩:=PV.RepL.at h2 e;exact⟨u,by simpa using h3,h4⟩
theorem PV.RepL.take:∀{cs:List PV} {us:List Value} (n:Nat),RepL w X cs us→RepL w X (cs.take n) (us.take n)
 | [],us,n,h=>by rw[RepL] at h;subst h;simp[RepL]
 | c::cs,us,0,h=>by simp[RepL]
 | c::cs,us,n+1,h=>by
  rw[RepL] at h;obtain⟨u,us',rfl,h1,h2⟩:=h;rw[List.take_succ_cons,List.take_succ_cons];exact PV.RepL.cons h1 (PV.RepL.take n h2)
theorem PV.RepL.drop:∀{cs:List PV} {us:List Value} (n:Nat),RepL w X cs us→RepL w X (cs.drop n) (us.drop n)
 | cs,us,0,h=>h
 | [],us,n+1,h=>by rw[RepL] at h;subst h;simp[RepL]
 | c::cs,us,n+1,h=>by
  rw[RepL] at h;obtain⟨u,us',rfl,h1,h2⟩:=h;rw[List.drop_succ_cons,List.drop_succ_cons];exact PV.RepL.drop n h2
theorem PV.RepL.append:∀{cs ds:List PV} {us vs:List Value},RepL w X cs us→RepL w X ds vs→RepL w X (cs++ds) (us++vs)
 | [],ds,us,vs,h,k=>by rw[RepL] at h;subst h;exact k
 | c::cs,ds,us,vs,h,k=>by
  rw[RepL] at h;obtain⟨u,us',rfl,h1,h2⟩:=h;exact PV.RepL.cons h1 (PV.RepL.append h2 k)
theorem PV.RepL.set:∀{cs:List PV} {us:List Value} {j:Nat} {c:PV} {u:Value},RepL w X cs us→c.Rep w X u→RepL w X (cs.set j c) (us.set j u)
 | [],us,j,c,u,h,k=>by rw[RepL] at h;subst h;simp[RepL]
 | d::cs,us,0,c,u,h,k=>by
  rw[RepL] at h;obtain⟨u',us',rfl,h1,h2⟩:=h;exact PV.RepL.cons k h2
 | d::cs,us,j+1,c,u,h,k=>by
  rw[RepL] at h;obtain⟨u',us',rfl,h1,h2⟩:=h;exact PV.RepL.cons h1 (PV.RepL.set h2 k)
theorem PV.RepLL.len:∀{xs:List (List PV)} {us:List (List Value)},RepLL w X xs us→us.length=xs.length
 | [],us,h=>by rw[RepLL] at h;rw[h];rfl
 | c::cs,us,h=>by
  rw[RepLL] at h;obtain⟨u,us',rfl,_,h⟩:=h;rw[List.length_cons,List.length_cons,PV.RepLL.len h]
theorem PV.RepLL.nil:RepLL w X [] []:=by rw[RepLL]
theorem PV.RepLL.cons {c:List PV} {cs:List (List PV)} {u:List Value} {us:List (List Value)} (h:RepL w X c u) (k:RepLL w X cs us):RepLL w X (c::cs) (u::us):=by
 rw[RepLL];exact⟨u,us,rfl,h,k⟩
theorem PV.RepLL.append:∀{cs ds:List (List PV)} {us vs:List (List Value)},RepLL w X cs us→RepLL w X ds vs→RepLL w X (cs++ds) (us++vs)
 | [],ds,us,vs,h,k=>by rw[RepLL] at h;subst h;exact k
 | c::cs,ds,us,vs,h,k=>by
  rw[RepLL] at h;obtain⟨u,us',rfl,h1,h2⟩:=h;exact PV.RepLL.cons h1 (PV.RepLL.append h2 k)
theorem PV.RepLL.take:∀{cs:List (List PV)} {us:List (List Value)} (n:Nat),RepLL w X cs us→RepLL w X (cs.take n) (us.take n)
 | [],us,n,h=>by rw[RepLL] at h;subst h;simp[RepLL]
 | c::cs,us,0,h=>by simp[RepLL]
 | c::cs,us,n+1,h=>by
  rw[RepLL] at h;obtain⟨u,us',rfl,h1,h2⟩:=h;rw[List.take_succ_cons,List.take_succ_cons];exact PV.RepLL.cons h1 (PV.RepLL.take n h2)
theorem PV.RepLL.drop:∀{cs:List (List PV)} {us:List (List Value)} (n:Nat),RepLL w X cs us→RepLL w X (cs.drop n) (us.drop n)
 | cs,us,0,h=>h
 | [],us,n+1,h=>by rw[RepLL] at h;subst h;simp[RepLL]
 | c::cs,us,n+1,h=>by
  rw[RepLL] at h;obtain⟨u,us',rfl,h1,h2⟩:=h;rw[List.drop_succ_cons,List.drop_succ_cons];exact PV.RepLL.drop n h2
theorem PV.RepLL.at:∀{xs:List (List PV)} {us:List (List Value)} {i:Nat} {r:List PV},RepLL w X xs us→xs[i]?=some r→∃u,us[i]?=some u∧RepL w X r u
 | [],us,i,r,h,e=>by simp at e
 | d::xs,us,0,r,h,e=>by
  rw[RepLL] at h;obtain⟨u,us',rfl,h1,_⟩:=h;simp at e;subst e;exact⟨u,rfl,h1⟩
 | d::xs,us,i+1,r,h,e=>by
  rw[RepLL] at h;obtain⟨u,us',rfl,_,h2⟩:=h;simp at e;obtain⟨u,h3,h4⟩:=PV.RepLL.at h2 e;exact⟨u,by simpa using h3,h4⟩
theorem PV.RepLL.rows:∀{xs:List (List PV)} {us:List (List Value)} {k:Nat},RepLL w X xs us→(∀r∈xs,r.length=k)→∀u∈us,u.length=k
 | [],us,k,h,hk,u,hu=>by rw[RepLL] at h;subst h;cases hu
 | d::xs,us,k,h,hk,u,hu=>by
  rw[RepLL] at h;obtain⟨v,us',rfl,h1,h2⟩:=h;rcases List.mem_cons.1 hu with e | e
  ·rw[e,PV.RepL.len h1];exact hk d (mf ..)
  ·exact PV.RepLL.rows h2 (fun r hr=>hk r (List.mem_cons_of_mem _ hr)) u e
theorem flatten_len {α:Type} :∀{us:List (List α)},(∀u∈us,u.length=k)→us.flatten.length=us.length*k
 | [],_=>by simp
 | u::us,h=>by
  rw[List.flatten_cons,List.length_append,h u (mf ..),flatten_len fun v hv=>h v (List.mem_cons_of_mem _ hv),List.length_cons,Nat.add_mul];omega
theorem flatten_at {α:Type} :∀{us:List (List α)} {i j:Nat} {u:List α},(∀u∈us,u.length=k)→us[i]?=some u→j < k→us.flatten[i*k+j]?=u[j]?
 | [],i,j,u,_,h,_=>by simp at h
 | v::us,0,j,u,hk,h,hj=>by
  simp at h;subst h;rw[List.flatten_cons,Nat.zero_mul,Nat.zero_add,List.getElem?_append_left (by rw[hk v (mf ..)];exact hj)]
 | v::us,i+1,j,u,hk,h,hj=>by
  simp at h;have hv:=hk v (mf ..);rw[List.flatten_cons,List.getElem?_append_right (by rw[hv,Nat.add_mul];omega),hv,show (i+1)*k+j - k=i*k+j from by rw[Nat.add_mul];omega];exact flatten_at (fun u hu=>hk u (List.mem_cons_of_mem _ hu)) h hj
def Still (w w':World) (X X':Nat→Prop) (ts:List Nat):Prop:=
 w.heap.size≤w'.heap.size∧∀b cs t fr,¬X b→w.heap[b]?=some (.cells cs t fr)→t∈ts→w'.heap[b]?=w.heap[b]?∧¬X' b
theorem Still.sub {ts us:List Nat} (h:Still w w' X X' us) (hs:∀t∈ts,t∈us):Still w w' X X' ts:=⟨h.1,fun b cs t fr hx hh ht=>h.2 b cs t fr hx hh (hs t ht)⟩
theorem Sv.Is.still {x:Sv} {e:Nat} {ds:List Value} (h:x.Is w k ds) (t:x.Ty w e) (a:x.Av X) (S:Still w w' X X' [e]):x.Is w' k ds∧x.Ty w' e∧x.Av X':=by
 have hk:∀ad,x.A=some ad→0 < x.n→w'.heap[ad.block]?=w.heap[ad.block]?∧¬X' ad.block:=fun ad ha hn=>by
  obtain⟨cs,fr,hh⟩:=t ad ha hn;exact S.2 _ cs e fr (a ad ha hn) hh (List.mem_singleton.2 rfl)
 refine⟨⟨h.len,h.cap,h.max,h.nil,fun i u hu=>?_⟩,t.keep fun ad ha hn=>(hk ad ha hn).1,fun ad ha hn=>(hk ad ha hn).2⟩;obtain⟨ad,e,hl,hc⟩:=h.see i u hu;have hn:0 < x.n:=by
  have h1:=(gs hu).1;have h2:=h.len;rcases Nat.eq_zero_or_pos x.n with h3 | h3
  ·rw[h3,Nat.zero_mul] at h2;omega
  ·exact h3
 exact⟨ad,e,nk hl S.1,(World.cell?_of_block (by rw[add_blk];exact (hk ad e hn).1)).trans hc⟩
end
mutual
theorem PV.Rep.still {w w':World} {X X':Nat→Prop}:∀{p:PV} {v:Value},Rep w X p v→Still w w' X X' p.ty→Rep w' X' p v
 | .raw u,v,h,_=>by rw[Rep] at h ⊢;exact h
 | .nat n,v,h,S=>by
  rw[Rep] at h ⊢;obtain⟨x,rfl,h1,h2⟩:=h;rw[PV.ty] at S;obtain⟨h3,h4,h5⟩:=h1.is.still h1.ty h2 S;exact⟨x,rfl,⟨h3,h1.lim,h4⟩,h5⟩
 | .rows e k ts xs,v,h,S=>by
  rw[Rep] at h ⊢;obtain⟨x,us,rfl,hn,h1,h2,h3,h4,h5⟩:=h;rw[PV.ty] at S;obtain⟨h6,h7,h8⟩:=h1.still h2 h3 (S.sub fun t ht=>by rw[mj ht];exact mf ..);exact⟨x,us,rfl,hn,h6,h7,h8,PV.RepLL.still h4 (S.sub fun t ht=>List.mem_cons_of_mem _ ht) fun r hr c hc=>(h5 r hr).2 c hc |>.2,h5⟩
 | .agg cs,v,h,S=>by
  rw[Rep] at h ⊢;obtain⟨us,rfl,h1⟩:=h;exact⟨us,rfl,PV.RepL.still h1 (by rwa [PV.ty] at S)⟩
 | .tup cs,v,h,S=>by
  rw[Rep] at h ⊢;obtain⟨us,rfl,h1⟩:=h;exact⟨us,rfl,PV.RepL.still h1 (by rwa [PV.ty] at S)⟩
 | .ptr e cs,v,h,S=>by
  rw[Rep] at h ⊢;rw[PV.ty] at S;obtain⟨ad,us,rfl,h1,h2,h3⟩:=h;have hk:cs≠[]→w'.heap[ad.block]?=w.heap[ad.block]?∧¬X' ad.block:=fun hc=>by
   obtain⟨hx,zs,fr,hh⟩:=h2 hc;exact S.2 _ zs e fr hx hh (mf ..)
  refine⟨ad,us,rfl,PV.RepL.still h1 (S.sub fun t ht=>List.mem_cons_of_mem _ ht),fun hc=>?_,fun j u hu=>?_⟩
  ·obtain⟨hx,zs,fr,hh⟩:=h2 hc;exact⟨(hk hc).2,zs,fr,(hk hc).1.trans hh⟩
  ·have hc:cs≠[]:=fun e0=>by
    subst e0;rw[PV.RepL] at h1;subst h1;simp at hu
   exact (World.cell?_of_block (by rw[add_blk];exact (hk hc).1)).trans (h3 j u hu)
 | .fn f cs,v,h,S=>by
  rw[Rep] at h ⊢;obtain⟨us,rfl,h1⟩:=h;exact⟨us,rfl,PV.RepL.still h1 (by rwa [PV.ty] at S)⟩
theorem PV.RepL.still {w w':World} {X X':Nat→Prop}:∀{cs:List PV} {us:List Value},RepL w X cs us→Still w w' X X' (tyL cs)→RepL w' X' cs us
 | [],us,h,_=>by rw[RepL] at h ⊢;exact h
 | c::cs,us,h,S=>by
  rw[RepL] at h ⊢;obtain⟨u,us',rfl,h1,h2⟩:=h;rw[tyL] at S;exact⟨u,us',rfl,PV.Rep.still h1 (S.sub fun t ht=>List.mem_append_left _ ht),PV.RepL.still h2 (S.sub fun t ht=>List.mem_append_right _ ht)⟩
theorem PV.RepLL.still {w w':World} {X X':Nat→Prop} {ts:List Nat}:∀{xs:List (List PV)} {us:List (List Value)},RepLL w X xs us→Still w w' X X' ts→(∀r∈xs,∀c∈r,∀t∈c.ty,t∈ts)→RepLL w' X' xs us
 | [],us,h,_,_=>by rw[RepLL] at h ⊢;exact h
 | c::cs,us,h,S,hs=>by
  rw[RepLL] at h ⊢;obtain⟨u,us',rfl,h1,h2⟩:=h;exact⟨u,us',rfl,PV.RepL.still h1 (S.sub fun t ht=>by
   have:∀l:List PV,(∀c∈l,∀t∈c.ty,t∈ts)→∀t∈tyL l,t∈ts:=fun l=>by
    induction l with
    | nil=>intro _ t ht;rw[tyL] at ht;cases ht
    | cons d l ih=>
     intro hl t ht;rw[tyL] at ht;rcases List.mem_append.1 ht with e | e
     ·exact hl d (mf ..) t e
     ·exact ih (fun c hc=>hl c (List.mem_cons_of_mem _ hc)) t e
   exact this c (hs c (mf ..)) t ht),PV.RepLL.still h2 S fun r hr=>hs r (List.mem_cons_of_mem _ hr)⟩
end
inductive SV where
 | pv (p:PV)
 | any
 | emp
 | nil (e k:Nat) (ts:List Nat)
 | tok (id:Nat)
 | box (id off:Nat)
 | elt (id off:Nat)
 | ref (e:Nat) (cs:List PV)
 | agg (cs:List SV)
 | tup (cs:List SV)
 | fn (f:Nat) (cs:List SV)
inductive Res where
 | box (ty:Nat) (cells:List SV)
 | tok (e k:Nat) (ts:List Nat) (xs:List (List PV))
structure St where
 slot:Nat→Option SV
 res:Nat→Option Res
 tys:List Nat
mutual
def SV.ids:SV→List Nat
 | .tok i=>[i]
 | .box i _=>[i]
 | .elt i _=>[i]
 | .agg cs=>SV.idsL cs
 | .tup cs=>SV.idsL cs
 | .fn _ cs=>SV.idsL cs
 | _=>[]
def SV.idsL:List SV→List Nat
 | []=>[]
 | c::cs=>SV.ids c++SV.idsL cs
end
mutual
def SV.ty:SV→List Nat
 | .pv p=>p.ty
 | .ref e cs=>e::PV.tyL cs
 | .agg cs=>SV.tyL' cs
 | .tup cs=>SV.tyL' cs
 | .fn _ cs=>SV.tyL' cs
 | _=>[]
def SV.tyL':List SV→List Nat
 | []=>[]
 | c::cs=>SV.ty c++SV.tyL' cs
end
mutual
def SV.Rep (w:World) (X:Nat→Prop) (B:Nat→Nat) (T:Nat→Sv):SV→Value→Prop
 | .pv p,v=>p.Rep w X v
 | .any,_=>True
 | .emp,v=>v=.slice none 0 0
 | .nil _ _ _,v=>v=.slice none 0 0
 | .tok i,v=>v=(T i).v
 | .box i off,v=>v=.pointer (some ⟨B i,off,none⟩)
 | .elt i off,v=>∃g,(T i).A=some ⟨g,0,none⟩∧v=.pointer (some ⟨g,off,none⟩)
 | .ref e cs,v=>∃(ad:Addr) (us:List Value),v=.pointer (some ad)∧PV.RepL w X cs us∧(cs≠[]→(¬X ad.block)∧∃zs fr,w.heap[ad.block]?=some (.cells zs e fr))∧∀j u,us[j]?=some u→w.cell? (ad.add j)=some u
 | .agg cs,v=>∃us:List Value,v=.agg us.toArray∧SV.RepL w X B T cs us
 | .tup cs,v=>∃us:List Value,v=.tuple us.toArray∧SV.RepL w X B T cs us
 | .fn f cs,v=>∃us:List Value,v=.func (.func f) #[] us.toArray∧SV.RepL w X B T cs us
def SV.RepL (w:World) (X:Nat→Prop) (B:Nat→Nat) (T:Nat→Sv):List SV→List Value→Prop
 | [],us=>us=[]
 | c::cs,us=>∃u us',us=u::us'∧SV.Rep w X B T c u∧SV.RepL w X B T cs us'
end
section
variable {w w':World} {X X':Nat→Prop} {B B':Nat→Nat} {T T':Nat→Sv}
theorem SV.RepL.len:∀{cs:List SV} {us:List Value},SV.RepL w X B T cs us→us.length=cs.length
 | [],us,h=>by rw[SV.RepL] at h;rw[h];rfl
 | c::cs,us,h=>by
  rw[SV.RepL] at h;obtain⟨u,us',rfl,_,h⟩:=h;rw[List.length_cons,List.length_cons,SV.RepL.len h]
theorem SV.RepL.cons {c:SV} {cs:List SV} {u:Value} {us:List Value} (h:c.Rep w X B T u) (k:SV.RepL w X B T cs us):SV.RepL w X B T (c::cs) (u::us):=by
 rw[SV.RepL];exact⟨u,us,rfl,h,k⟩
theorem SV.RepL.at:∀{cs:List SV} {us:List Value} {j:Nat} {c:SV},SV.RepL w X B T cs us→cs[j]?=some c→∃u,us[j]?=some u∧c.Rep w X B T u
 | [],us,j,c,h,e=>by simp at e
 | d::cs,us,0,c,h,e=>by
  rw[SV.RepL] at h;obtain⟨u,us',rfl,h1,_⟩:=h;simp at e;subst e;exact⟨u,rfl,h1⟩
 | d::cs,us,j+1,c,h,e=>by
  rw[SV.RepL] at h;obtain⟨u,us',rfl,_,h2⟩:=h;simp at e;obtain⟨u,h3,h4⟩:=SV.RepL.at h2 e;exact⟨u,by simpa using h3,h4⟩
theorem SV.RepL.take:∀{cs:List SV} {us:List Value} (n:Nat),SV.RepL w X B T cs us→SV.RepL w X B T (cs.take n) (us.take n)
 | [],us,n,h=>by rw[SV.RepL] at h;subst h;simp[SV.RepL]
 | c::cs,us,0,h=>by simp[SV.RepL]
 | c::cs,us,n+1,h=>by
  rw[SV.RepL] at h;obtain⟨u,us',rfl,h1,h2⟩:=h;rw[List.take_succ_cons,List.take_succ_cons];exact SV.RepL.cons h1 (SV.RepL.take n h2)
theorem SV.RepL.drop:∀{cs:List SV} {us:List Value} (n:Nat),SV.RepL w X B T cs us→SV.RepL w X B T (cs.drop n) (us.drop n)
 | cs,us,0,h=>h
 | [],us,n+1,h=>by rw[SV.RepL] at h;subst h;simp[SV.RepL]
 | c::cs,us,n+1,h=>by
  rw[SV.RepL] at h;obtain⟨u,us',rfl,h1,h2⟩:=h;rw[List.drop_succ_cons,List.drop_succ_cons];exact SV.RepL.drop n h2
theorem SV.RepL.append:∀{cs ds:List SV} {us vs:List Value},SV.RepL w X B T cs us→SV.RepL w X B T ds vs→SV.RepL w X B T (cs++ds) (us++vs)
 | [],ds,us,vs,h,k=>by rw[SV.RepL] at h;subst h;exact k
 | c::cs,ds,us,vs,h,k=>by
  rw[SV.RepL] at h;obtain⟨u,us',rfl,h1,h2⟩:=h;exact SV.RepL.cons h1 (SV.RepL.append h2 k)
theorem SV.RepL.set:∀{cs:List SV} {us:List Value} {j:Nat} {c:SV} {u:Value},SV.RepL w X B T cs us→c.Rep w X B T u→SV.RepL w X B T (cs.set j c) (us.set j u)
 | [],us,j,c,u,h,k=>by rw[SV.RepL] at h;subst h;simp[SV.RepL]
 | d::cs,us,0,c,u,h,k=>by
  rw[SV.RepL] at h;obtain⟨u',us',rfl,h1,h2⟩:=h;exact SV.RepL.cons k h2
 | d::cs,us,j+1,c,u,h,k=>by
  rw[SV.RepL] at h;obtain⟨u',us',rfl,h1,h2⟩:=h;exact SV.RepL.cons h1 (SV.RepL.set h2 k)
theorem SV.RepL.pv:∀{cs:List PV} {us:List Value},PV.RepL w X cs us→SV.RepL w X B T (cs.map .pv) us
 | [],us,h=>by rw[PV.RepL] at h;subst h;simp[SV.RepL]
 | c::cs,us,h=>by
  rw[PV.RepL] at h;obtain⟨u,us',rfl,h1,h2⟩:=h;exact SV.RepL.cons (by rw[SV.Rep];exact h1) (SV.RepL.pv h2)
end
mutual
theorem SV.Rep.still {w w':World} {X X':Nat→Prop} {B B':Nat→Nat} {T T':Nat→Sv}:∀{s:SV} {v:Value},SV.Rep w X B T s v→Still w w' X X' s.ty→(∀i∈s.ids,B' i=B i∧T' i=T i)→SV.Rep w' X' B' T' s v
 | .pv p,v,h,S,_=>by rw[SV.Rep] at h ⊢;exact PV.Rep.still h (by rwa [SV.ty] at S)
 | .any,v,h,_,_=>by rw[SV.Rep];trivial
 | .emp,v,h,_,_=>by rw[SV.Rep] at h ⊢;exact h
 | .nil _ _ _,v,h,_,_=>by rw[SV.Rep] at h ⊢;exact h
 | .tok i,v,h,_,k=>by
  rw[SV.Rep] at h ⊢;rw[(k i (by rw[SV.ids];exact List.mem_singleton.2 rfl)).2];exact h
 | .box i off,v,h,_,k=>by
  rw[SV.Rep] at h ⊢;rw[(k i (by rw[SV.ids];exact List.mem_singleton.2 rfl)).1];exact h
 | .elt i off,v,h,_,k=>by
  rw[SV.Rep] at h ⊢;rw[(k i (by rw[SV.ids];exact List.mem_singleton.2 rfl)).2];exact h
 | .ref e cs,v,h,S,_=>by
  rw[SV.Rep] at h ⊢;rw[SV.ty] at S;obtain⟨ad,us,rfl,h1,h2,h3⟩:=h;have hk:cs≠[]→w'.heap[ad.block]?=w.heap[ad.block]?∧¬X' ad.block:=fun hc=>by
   obtain⟨hx,zs,fr,hh⟩:=h2 hc;exact S.2 _ zs e fr hx hh (mf ..)
  refine⟨ad,us,rfl,PV.RepL.still h1 (S.sub fun t ht=>List.mem_cons_of_mem _ ht),fun hc=>?_,fun j u hu=>?_⟩
  ·obtain⟨hx,zs,fr,hh⟩:=h2 hc;exact⟨(hk hc).2,zs,fr,(hk hc).1.trans hh⟩
  ·have hc:cs≠[]:=fun e0=>by
    subst e0;rw[PV.RepL] at h1;subst h1;simp at hu
   exact (World.cell?_of_block (by rw[add_blk];exact (hk hc).1)).trans (h3 j u hu)
 | .agg cs,v,h,S,k=>by
  rw[SV.Rep] at h ⊢;obtain⟨us,rfl,h1⟩:=h;exact⟨us,rfl,SV.RepL.still h1 (by rwa [SV.ty] at S) (by rwa [SV.ids] at k)⟩
 | .tup cs,v,h,S,k=>by
  rw[SV.Rep] at h ⊢;obtain⟨us,rfl,h1⟩:=h;exact⟨us,rfl,SV.RepL.still h1 (by rwa [SV.ty] at S) (by rwa [SV.ids] at k)⟩
 | .fn f cs,v,h,S,k=>by
  rw[SV.Rep] at h ⊢;obtain⟨us,rfl,h1⟩:=h;exact⟨us,rfl,SV.RepL.still h1 (by rwa [SV.ty] at S) (by rwa [SV.ids] at k)⟩
theorem SV.RepL.still {w w':World} {X X':Nat→Prop} {B B':Nat→Nat} {T T':Nat→Sv}:∀{cs:List SV} {us:List Value},SV.RepL w X B T cs us→Still w w' X X' (SV.tyL' cs)→(∀i∈SV.idsL cs,B' i=B i∧T' i=T i)→SV.RepL w' X' B' T' cs us
 | [],us,h,_,_=>by rw[SV.RepL] at h ⊢;exact h
 | c::cs,us,h,S,k=>by
  rw[SV.RepL] at h ⊢;obtain⟨u,us',rfl,h1,h2⟩:=h;rw[SV.tyL'] at S;rw[SV.idsL] at k;exact⟨u,us',rfl,SV.Rep.still h1 (S.sub fun t ht=>List.mem_append_left _ ht) (fun i hi=>k i (List.mem_append_left _ hi)),SV.RepL.still h2 (S.sub fun t ht=>List.mem_append_right _ ht) (fun i hi=>k i (List.mem_append_right _ hi))⟩
end
def Res.blk (r:Res) (b:Nat) (x:Sv):Option Nat:=match r with
 | .box _ _=>some b
 | .tok ..=>x.v.ownBlock
def Res.typ:Res→Nat
 | .box t _=>t
 | .tok e _ _ _=>e
def Res.ids:Res→List Nat
 | .box _ cs=>SV.idsL cs
 | .tok ..=>[]
structure Cx where
 P:Program
 w0:World
 X0:Nat→Prop
 N:Nat
 T:List Nat
 old:∀b,X0 b→b < w0.heap.size
 hm:P.follows .mixedOrders=true
 hT:∀b cs t fr,X0 b→w0.heap[b]?=some (.cells cs t fr)→t ∉ T
 M:Nat→Prop
 hM:∀b,X0 b→¬M b
 F:Nat→Prop
 hF:∀i,i < N→¬F i
 B0:Nat→Nat
def Cx.lo (C:Cx) (b:Nat):Prop:=C.w0.heap.size≤b∨C.M b
structure GrC (C:Cx) (B:Nat→Nat) (w:World):Prop where
 fr:Fr C.M C.w0 w
 fix:∀i,C.F i→B i=C.B0 i
theorem GrC.size {C:Cx} {B:Nat→Nat} {w:World} (h:GrC C B w):C.w0.heap.size≤w.heap.size:=h.fr.size
theorem GrC.trans {C:Cx} {B:Nat→Nat} {w w':World} (h:GrC C B w) (G:Gr w w'):GrC C B w':=⟨h.fr.trans (G.fr.wide fun _ _ h=>h.elim),h.fix⟩
theorem GrC.step {C:Cx} {B:Nat→Nat} {S:Nat→Prop} {w w':World} (h:GrC C B w) (F:Fr S w w') (k:∀b,b < w.heap.size→S b→C.lo b):GrC C B w':=
 ⟨⟨h.fr.bel.trans F.bel,fun b hb hm=>(F.keep b (nk hb h.fr.size) fun hs=>(k b (nk hb h.fr.size) hs).elim (fun g=>absurd hb (Nat.not_lt.2 g)) hm).trans (h.fr.keep b hb hm)⟩,h.fix⟩
theorem GrC.old {C:Cx} {B:Nat→Nat} {w:World} (h:GrC C B w) {b:Nat} (hb:C.X0 b):w.heap[b]?=C.w0.heap[b]?:=h.fr.keep b (C.old b hb) (C.hM b hb)
def Res.In (lo:Nat→Prop) (w:World) (X:Nat→Prop) (B:Nat→Nat) (T:Nat→Sv) (i:Nat):Res→Prop
 | .box ty cells=>lo (B i)∧∃us,Bk w (B i) ty us.toArray∧SV.RepL w X B T cells us
 | .tok e k ts xs=>∃us:List (List Value),w.ownsRow 0 e k (T i).v (T i).n us.flatten∧PV.RepLL w X xs us∧RowOk k ts xs∧(T i).n=xs.length∧0 < k∧∀b,(T i).v.ownBlock=some b→lo b
def Own0 (C:Cx) (st:St) (B:Nat→Nat) (T:Nat→Sv) (b:Nat):Prop:=C.X0 b∨∃i r,st.res i=some r∧r.blk (B i) (T i)=some b
structure InvB (C:Cx) (st:St) (a:Act) (w:World) (B:Nat→Nat) (T:Nat→Sv):Prop where
 size:a.tmps.size=C.N
 dfr:a.defers=[]
 gr:GrC C B w
 slot:∀t s,st.slot t=some s→SV.Rep w (Own0 C st B T) B T s (a.tmps.getD t undef)
 live:∀t s,st.slot t=some s→∀i∈s.ids,(st.res i).isSome=true
 inn:∀i r,st.res i=some r→r.In C.lo w (Own0 C st B T) B T i
 alive:∀i r,st.res i=some r→∀j∈r.ids,(st.res j).isSome=true
 apart:∀i r j q b,st.res i=some r→st.res j=some q→r.blk (B i) (T i)=some b→q.blk (B j) (T j)=some b→i=j
def Inv (C:Cx) (st:St) (a:Act) (w:World):Prop:=∃B T,InvB C st a w B T
theorem rowGr {w w':World} {B e k n:Nat} {v:Value} {xs:List Value} (h:w.ownsRow B e k v n xs) (G:Gr w w'):w'.ownsRow B e k v n xs:=rw_keep h fun b hb=>G.below.block b (rw_lt h b hb).2
theorem nbeq_ne {a b:Nat} (h:a≠b):Nat.beq a b=false:=by
 cases e:Nat.beq a b
 ·rfl
 ·exact absurd (Nat.eq_of_beq_eq_true e) h
structure Eff where
 s:SV
 rs:Option (Nat×Res)
 rb:List Nat
 kt:Bool
theorem fr_own0' {w w':World} {o:Option Nat} (hg:w.grownBy w' o):Fr (fun b=>o=some b) w w':=
 ⟨(Below.refl 0 w).grown hg (nq _) (fun _ _=>nq _),fun b hb hne=>hg.block b hb (fun e=>hne e.symm)⟩
def SV.kill (i:Nat) (s:SV):SV:=bif s.ids.contains i then .any else s
def Res.kill (i:Nat):Res→Res
 | .box t cs=>.box t (cs.map (SV.kill i))
 | r=>r
def optKill (i:Nat):Option SV→Option SV
 | some s=>some (s.kill i)
 | none=>none
def resKill (i:Nat):Option Res→Option Res
 | some s=>some (s.kill i)
 | none=>none
def Eff.old (e:Eff) (st:St) (t:Nat):Option SV:=match e.rs with
 | some (i,_)=>bif e.kt then optKill i (st.slot t) else st.slot t
 | none=>st.slot t
def Eff.app (e:Eff) (dst:Option Nat) (st:St):St where
 slot t:=match dst with
  | some d=>bif Nat.beq t d then some e.s else e.old st t
  | none=>e.old st t
 res j:=match e.rs with
  | some (i,r)=>bif Nat.beq j i then some r else bif e.kt then resKill i (st.res j) else st.res j
  | none=>st.res j
 tys:=st.tys
section
variable {C:Cx} {st:St} {a:Act} {w w':World} {B:Nat→Nat} {T:Nat→Sv} {X:Nat→Prop} {i id:Nat} {v:Value} {dst:Option Nat} {s:SV} {rb:List Nat}
theorem Still.gr (G:Gr w w') (X:Nat→Prop) (ts:List Nat):Still w w' X X ts:=⟨G.size,fun b cs t fr hx hh ht=>⟨G.below.block b (by
 rcases Nat.lt_or_ge b w.heap.size with h | h
 ·exact h
 ·rw[Array.getElem?_eq_none h] at hh;cases hh),hx⟩⟩
theorem Res.In.gr {lo:Nat→Prop} {r:Res} (h:r.In lo w X B T i) (G:Gr w w'):r.In lo w' X B T i:=by
 cases r with
 | box ty cells=>
  obtain⟨h1,us,h2,h3⟩:=h;exact⟨h1,us,G.bk h2,h3.still (Still.gr G _ _) fun _ _=>⟨rfl,rfl⟩⟩
 | tok e k ts xs=>
  obtain⟨us,h1,h2,h3,h4⟩:=h;exact⟨us,rowGr h1 G,PV.RepLL.still (ts:=ts) h2 (Still.gr G _ _) fun r hr c hc=>((h3 r hr).2 c hc).2,h3,h4⟩
theorem InvB.grow (h:InvB C st a w B T) (G:Gr w w'):InvB C st a w' B T:=
 ⟨h.size,h.dfr,h.gr.trans G,fun t s e=>(h.slot t s e).still (Still.gr G _ _) fun _ _=>⟨rfl,rfl⟩,h.live,fun i r e=>(h.inn i r e).gr G,h.alive,h.apart⟩
theorem getD_put_same {a:Act} {d:Nat} (h:d < a.tmps.size):(a.put (some d) v).tmps.getD d undef=v:=by
 simp[Act.put,Array.getD_eq_getD_getElem?,h]
theorem getD_put_ne {a:Act} {d t:Nat} (h:t≠d):(a.put (some d) v).tmps.getD t undef=a.tmps.getD t undef:=by
 simp[Act.put,Array.getD_eq_getD_getElem?,Array.getElem?_setIfInBounds_ne (Ne.symm h)]
theorem put_size {a:Act} {d:Option Nat} :(a.put d v).tmps.size=a.tmps.size:=by cases d<;>simp[Act.put]
theorem put_dfr {a:Act} {d:Option Nat} :(a.put d v).defers=a.defers:=by cases d<;>rfl
theorem inv_val (h:InvB C st a w B T) (G:Gr w w') {kt:Bool} (hs:s.Rep w' (Own0 C st B T) B T v) (hl:∀i∈s.ids,(st.res i).isSome=true) (hd:∀d,dst=some d→d < C.N):Inv C (Eff.app ⟨s,none,rb,kt⟩ dst st) (a.put dst v) w':=by
 have h':=h.grow G;refine⟨B,T,put_size.trans h.size,put_dfr.trans h.dfr,h'.gr,fun t s' e=>?_,fun t s' e=>?_,h'.inn,h'.alive,h'.apart⟩
 ·cases dst with
  | none=>exact h'.slot t s' e
  | some d=>
   simp only[Eff.app] at e;cases hb:Nat.beq t d with
   | true=>
    rw[hb] at e;obtain rfl:=Nat.eq_of_beq_eq_true hb;injection e with e;subst e;rw[getD_put_same (by rw[h.size];exact hd _ rfl)];exact hs
   | false=>
    rw[hb] at e;rw[getD_put_ne (Nat.ne_of_beq_eq_false hb)];exact h'.slot t s' e
 ·cases dst with
  | none=>exact h.live t s' e
  | some d=>
   simp only[Eff.app] at e;cases hb:Nat.beq t d with
   | true=>
    rw[hb] at e;injection e with e;subst e;exact hl
   | false=>rw[hb] at e;exact h.live t s' e
theorem inv_new (h:InvB C st a w B T) {ty:Nat} {cells:List SV} {us:List Value} {rb:List Nat} (hf:st.res id=none) (hF:¬C.F id) (hs:SV.RepL w (Own0 C st B T) B T cells us) (hl:∀i∈SV.idsL cells,(st.res i).isSome=true) (hd:∀d,dst=some d→d < C.N):
  Inv C (Eff.app ⟨.box id 0,some (id,.box ty cells),rb,false⟩ dst st) (a.put dst (.pointer (some ⟨w.heap.size,0,none⟩))) (w.alloc (.cells us.toArray ty)):=by
 have G:Gr w (w.alloc (.cells us.toArray ty)):=(Gr.refl w).alloc _;have h':=h.grow G;have hne:∀i,(st.res i).isSome=true→i≠id:=fun i hi e=>by subst e;rw[hf] at hi;cases hi
 let B':Nat→Nat:=fun i=>if i=id then w.heap.size else B i
 have hB':∀i,(st.res i).isSome=true→B' i=B i:=fun i hi=>if_neg (hne i hi)
 have hBi:B' id=w.heap.size:=if_pos rfl;have hres:∀j,(Eff.app ⟨.box id 0,some (id,.box ty cells),rb,false⟩ dst st).res j=if j=id then some (.box ty cells) else st.res j:=fun j=>by
  simp only[Eff.app];by_cases e:j=id
  ·rw[if_pos e,e,Nat.beq_refl];rfl
  ·rw[if_neg e,nbeq_ne e];rfl
 have hX:∀b,Own0 C (Eff.app ⟨.box id 0,some (id,.box ty cells),rb,false⟩ dst st) B' T b→Own0 C st B T b∨b=w.heap.size:=fun b hb=>by
  rcases hb with hb | ⟨i,r,hr,hb⟩
  ·exact .inl (.inl hb)
  ·rw[hres] at hr;by_cases e:i=id
   ·rw[if_pos e] at hr;injection hr with hr;subst hr;simp only[Res.blk,oq] at hb;rw[e,hBi] at hb;exact .inr hb.symm
   ·rw[if_neg e] at hr;refine .inl (.inr ⟨i,r,hr,?_⟩);rw[← hB' i (by rw[hr];rfl)];exact hb
 have S:∀ts,Still w (w.alloc (.cells us.toArray ty)) (Own0 C st B T) (Own0 C (Eff.app ⟨.box id 0,some (id,.box ty cells),rb,false⟩ dst st) B' T) ts:=fun ts=>by
  refine⟨G.size,fun b cs t fr hx hh ht=>?_⟩;have hlt:b < w.heap.size:=by
   rcases Nat.lt_or_ge b w.heap.size with h | h
   ·exact h
   ·rw[Array.getElem?_eq_none h] at hh;cases hh
  refine⟨G.below.block b hlt,fun hb=>?_⟩;rcases hX b hb with hb | hb
  ·exact hx hb
  ·omega
 have keep:∀{s:SV} {v:Value},SV.Rep w (Own0 C st B T) B T s v→(∀i∈s.ids,(st.res i).isSome=true)→SV.Rep (w.alloc (.cells us.toArray ty)) (Own0 C (Eff.app ⟨.box id 0,some (id,.box ty cells),rb,false⟩ dst st) B' T) B' T s v:=fun hh hi=>hh.still (S _) fun i hm=>⟨hB' i (hi i hm),rfl⟩
 have keepL:∀{s:List SV} {v:List Value},SV.RepL w (Own0 C st B T) B T s v→(∀i∈SV.idsL s,(st.res i).isSome=true)→SV.RepL (w.alloc (.cells us.toArray ty)) (Own0 C (Eff.app ⟨.box id 0,some (id,.box ty cells),rb,false⟩ dst st) B' T) B' T s v:=fun hh hi=>hh.still (S _) fun i hm=>⟨hB' i (hi i hm),rfl⟩
 have alive':∀j,(st.res j).isSome=true→((Eff.app ⟨.box id 0,some (id,.box ty cells),rb,false⟩ dst st).res j).isSome=true:=fun j hj=>by
  rw[hres];split
  ·rfl
  ·exact hj
 refine⟨B',T,put_size.trans h.size,put_dfr.trans h.dfr,⟨h'.gr.fr,fun i hi=>(if_neg fun (e:i=id)=>hF (e▸hi)).trans (h'.gr.fix i hi)⟩,fun t s' e=>?_,fun t s' e=>?_,fun i r e=>?_,fun i r e=>?_,fun i r j q b hi hj h1 h2=>?_⟩
 ·have hold:∀t s',st.slot t=some s'→SV.Rep (w.alloc (.cells us.toArray ty)) (Own0 C (Eff.app ⟨.box id 0,some (id,.box ty cells),rb,false⟩ dst st) B' T) B' T s' (a.tmps.getD t undef):=fun t s' e=>keep (h.slot t s' e) (h.live t s' e)
  cases dst with
  | none=>exact hold t s' e
  | some d=>
   simp only[Eff.app] at e;cases hb:Nat.beq t d with
   | true=>
    rw[hb] at e;obtain rfl:=Nat.eq_of_beq_eq_true hb;injection e with e;subst e;rw[getD_put_same (by rw[h.size];exact hd _ rfl),SV.Rep,hBi]
   | false=>
    rw[hb] at e;rw[getD_put_ne (Nat.ne_of_beq_eq_false hb)];exact hold t s' e
 ·intro i hi;cases dst with
  | none=>exact alive' i (h.live t s' e i hi)
  | some d=>
   simp only[Eff.app] at e;cases hb:Nat.beq t d with
   | true=>
    rw[hb] at e;injection e with e;subst e;rw[SV.ids,List.mem_singleton] at hi;rw[hres,if_pos hi];rfl
   | false=>rw[hb] at e;exact alive' i (h.live t s' e i hi)
 ·rw[hres] at e;by_cases hi:i=id
  ·rw[if_pos hi] at e;injection e with e;subst e;refine⟨.inl (by rw[hi,hBi];exact h.gr.size),us,?_,keepL hs hl⟩;rw[hi,hBi];exact Bk.made w ty us.toArray
  ·rw[if_neg hi] at e;have hin:=h.inn i r e;cases r with
   | box ty' cells'=>
    obtain⟨h1,vs,h2,h3⟩:=hin;refine⟨by rw[hB' i (by rw[e];rfl)];exact h1,vs,by rw[hB' i (by rw[e];rfl)];exact G.bk h2,keepL h3 (h.alive i _ e)⟩
   | tok e' k ts xs=>
    obtain⟨vs,h1,h2,h3,h4⟩:=hin;exact⟨vs,rowGr h1 G,PV.RepLL.still (ts:=ts) h2 (S _) fun r hr c hc=>((h3 r hr).2 c hc).2,h3,h4⟩
 ·intro j hj;rw[hres] at e;by_cases hi:i=id
  ·rw[if_pos hi] at e;injection e with e;subst e;exact alive' j (hl j hj)
  ·rw[if_neg hi] at e;exact alive' j (h.alive i r e j hj)
 ·have old:∀i r b,st.res i=some r→r.blk (B i) (T i)=some b→b < w.heap.size:=fun i r b e hb=>by
   have hin:=h.inn i r e;cases r with
   | box ty' cells'=>
    obtain⟨h1,vs,h2,h3⟩:=hin;simp only[Res.blk,oq] at hb;rw[← hb];exact h2.lt
   | tok e' k ts xs=>
    obtain⟨vs,h1,_⟩:=hin;exact (rw_lt h1 b hb).2
  rw[hres] at hi hj;by_cases ei:i=id
  ·by_cases ej:j=id
   ·rw[ei,ej]
   ·exfalso
    rw[if_pos ei] at hi;rw[if_neg ej] at hj;injection hi with hi;subst hi;simp only[Res.blk,oq] at h1;rw[ei,hBi] at h1;rw[hB' j (by rw[hj];rfl)] at h2;have:=old j q b hj h2;omega
  ·by_cases ej:j=id
   ·exfalso
    rw[if_neg ei] at hi;rw[if_pos ej] at hj;injection hj with hj;subst hj;simp only[Res.blk,oq] at h2;rw[ej,hBi] at h2;rw[hB' i (by rw[hi];rfl)] at h1;have:=old i r b hi h1;omega
   ·rw[if_neg ei] at hi;rw[if_neg ej] at hj;rw[hB' i (by rw[hi];rfl)] at h1;rw[hB' j (by rw[hj];rfl)] at h2;exact h.apart i r j q b hi hj h1 h2
theorem inv_store (h:InvB C st a w B T) {ty:Nat} {cells cells':List SV} {us':List Value} {rb:List Nat} {s:SV} (hr:st.res id=some (.box ty cells)) (hb:Bk w' (B id) ty us'.toArray) (F:Fr (fun b=>b=B id) w w') (hs:SV.RepL w (Own0 C st B T) B T cells' us') (hl:∀i∈SV.idsL cells',(st.res i).isSome=true):
  Inv C (Eff.app ⟨s,some (id,.box ty cells'),rb,false⟩ none st) a w':=by
 have hge:C.lo (B id):=(h.inn id _ hr).1;have hres:∀j,(Eff.app ⟨s,some (id,.box ty cells'),rb,false⟩ none st).res j=if j=id then some (.box ty cells') else st.res j:=fun j=>by
  simp only[Eff.app];by_cases e:j=id
  ·rw[if_pos e,e,Nat.beq_refl];rfl
  ·rw[if_neg e,nbeq_ne e];rfl
 have hX:∀b,Own0 C (Eff.app ⟨s,some (id,.box ty cells'),rb,false⟩ none st) B T b→Own0 C st B T b:=fun b hb=>by
  rcases hb with hb | ⟨i,r,hi,hb⟩
  ·exact .inl hb
  ·rw[hres] at hi;by_cases e:i=id
   ·rw[if_pos e] at hi;injection hi with hi;subst hi;exact .inr ⟨id,.box ty cells,hr,by rw[← e];exact hb⟩
   ·rw[if_neg e] at hi;exact .inr ⟨i,r,hi,hb⟩
 have S:∀ts,Still w w' (Own0 C st B T) (Own0 C (Eff.app ⟨s,some (id,.box ty cells'),rb,false⟩ none st) B T) ts:=fun ts=>by
  refine⟨F.size,fun b cs t fr hx hh ht=>?_⟩;have hlt:b < w.heap.size:=by
   rcases Nat.lt_or_ge b w.heap.size with h | h
   ·exact h
   ·rw[Array.getElem?_eq_none h] at hh;cases hh
  exact⟨F.keep b hlt fun e=>hx (.inr ⟨id,_,hr,by rw[e];rfl⟩),fun hb=>hx (hX b hb)⟩
 have alive':∀j,(st.res j).isSome=true→((Eff.app ⟨s,some (id,.box ty cells'),rb,false⟩ none st).res j).isSome=true:=fun j hj=>by
  rw[hres];split
  ·rfl
  ·exact hj
 have oth:∀i r b,st.res i=some r→i≠id→r.blk (B i) (T i)=some b→b≠B id:=fun i r b e hne hb he=>hne (h.apart i r id _ b e hr hb (by rw[he];rfl))
 refine⟨B,T,h.size,h.dfr,h.gr.step F fun b _ e=>by rw[e];exact hge,fun t s' e=>(h.slot t s' e).still (S _) fun _ _=>⟨rfl,rfl⟩,fun t s' e i hi=>alive' i (h.live t s' e i hi),fun i r e=>?_,fun i r e j hj=>?_,fun i r j q b hi hj h1 h2=>?_⟩
 ·rw[hres] at e;by_cases hi:i=id
  ·rw[if_pos hi] at e;injection e with e;subst e;rw[hi];exact⟨hge,us',hb,hs.still (S _) fun _ _=>⟨rfl,rfl⟩⟩
  ·rw[if_neg hi] at e;have hin:=h.inn i r e;cases r with
   | box ty' cells'=>
    obtain⟨h1,vs,h2,h3⟩:=hin;exact⟨h1,vs,F.bk h2 (oth i _ _ e hi rfl),h3.still (S _) fun _ _=>⟨rfl,rfl⟩⟩
   | tok e' k ts xs=>
    obtain⟨vs,h1,h2,h3,h4⟩:=hin;exact⟨vs,rw_keep h1 fun b hb=>F.keep b (rw_lt h1 b hb).2 (oth i _ b e hi hb),PV.RepLL.still (ts:=ts) h2 (S _) fun r hr c hc=>((h3 r hr).2 c hc).2,h3,h4⟩
 ·rw[hres] at e;by_cases hi:i=id
  ·rw[if_pos hi] at e;injection e with e;subst e;exact alive' j (hl j hj)
  ·rw[if_neg hi] at e;exact alive' j (h.alive i r e j hj)
 ·have tr:∀i r,(Eff.app ⟨s,some (id,.box ty cells'),rb,false⟩ none st).res i=some r→∃r',st.res i=some r'∧r'.blk (B i) (T i)=r.blk (B i) (T i):=fun i r e=>by
   rw[hres] at e;by_cases hi:i=id
   ·rw[if_pos hi] at e;injection e with e;subst e;exact⟨.box ty cells,by rw[hi];exact hr,rfl⟩
   ·rw[if_neg hi] at e;exact⟨r,e,rfl⟩
  obtain⟨r',e1,e2⟩:=tr i r hi;obtain⟨q',e3,e4⟩:=tr j q hj;exact h.apart i r' j q' b e1 e3 (e2.trans h1) (e4.trans h2)
theorem kill_rep (h:s.Rep w X B T v):(s.kill i).Rep w X B T v:=by
 unfold SV.kill;cases s.ids.contains i
 ·exact h
 ·rw[show (bif true then SV.any else s)=SV.any from rfl,SV.Rep];trivial
theorem kill_ids :∀j∈(s.kill i).ids,j∈s.ids∧j≠i:=fun j hj=>by
 unfold SV.kill at hj;cases hc:s.ids.contains i with
 | true=>rw[hc] at hj;cases (show j∈([]:List Nat) from hj)
 | false=>
  rw[hc] at hj;refine⟨hj,fun e=>?_⟩;subst e;rw[List.contains_iff_mem.2 (show j∈s.ids from hj)] at hc;cases hc
theorem killL_rep :∀{cs:List SV} {us:List Value},SV.RepL w X B T cs us→SV.RepL w X B T (cs.map (SV.kill i)) us
 | [],us,h=>h
 | c::cs,us,h=>by
  rw[SV.RepL] at h;obtain⟨u,us',rfl,h1,h2⟩:=h;exact SV.RepL.cons (kill_rep h1) (killL_rep h2)
theorem killL_ids :∀{cs:List SV},∀j∈SV.idsL (cs.map (SV.kill i)),j∈SV.idsL cs∧j≠i
 | [],j,h=>by rw[List.map_nil,SV.idsL] at h;cases h
 | c::cs,j,h=>by
  rw[List.map_cons,SV.idsL] at h;rw[SV.idsL];rcases List.mem_append.1 h with h | h
  ·have:=kill_ids j h;exact⟨List.mem_append_left _ this.1,this.2⟩
  ·have:=killL_ids j h;exact⟨List.mem_append_right _ this.1,this.2⟩
theorem inv_tokG (h:InvB C st a w B T) {dst:Option Nat} {e k:Nat} {ts:List Nat} {xs:List (List PV)} {us:List (List Value)} {y:Sv} {rb:List Nat} {own:Option Nat} (hold:∀r,st.res id=some r→(∃e k ts xs,r=.tok e k ts xs)∧own=(T id).v.ownBlock) (hnew:st.res id=none→own=none)
  (F:Fr (fun b=>own=some b) w w') (hy:w'.ownsRow 0 e k y.v y.n us.flatten) (hyb:y.v.ownBlock=own∨(∃b,y.v.ownBlock=some b∧w.heap.size≤b)∨y.v.ownBlock=none) (hs:PV.RepLL w' (fun b=>Own0 C st B T b∨y.v.ownBlock=some b) xs us) (hok:RowOk k ts xs) (hn:y.n=xs.length) (hk:0 < k) (hd:∀d,dst=some d→d < C.N):
  Inv C (Eff.app ⟨.tok id,some (id,.tok e k ts xs),rb,true⟩ dst st) (a.put dst y.v) w':=by
 let T':Nat→Sv:=fun i=>if i=id then y else T i
 have hT':∀i,i≠id→T' i=T i:=fun i hi=>if_neg hi
 have hTi:T' id=y:=if_pos rfl;have hres:∀j,(Eff.app ⟨.tok id,some (id,.tok e k ts xs),rb,true⟩ dst st).res j=if j=id then some (.tok e k ts xs) else resKill id (st.res j):=fun j=>by
  simp only[Eff.app];by_cases e:j=id
  ·rw[if_pos e,e,Nat.beq_refl];rfl
  ·rw[if_neg e,nbeq_ne e];rfl
 have kil:∀{j r},resKill id (st.res j)=some r→∃r',st.res j=some r'∧r=r'.kill id:=fun {j r} e=>by
  cases hh:st.res j with
  | none=>rw[hh] at e;cases e
  | some r'=>rw[hh] at e;injection e with e;exact⟨r',rfl,e.symm⟩
 have blkk:∀(r:Res) b x,(r.kill id).blk b x=r.blk b x:=fun r b x=>by cases r<;>rfl
 have ownX:∀b,own=some b→Own0 C st B T b:=fun b hb=>by
  cases hh:st.res id with
  | none=>rw[hnew hh] at hb;cases hb
  | some r=>
   obtain⟨⟨e',k',ts',xs',rfl⟩,ho⟩:=hold r hh;exact .inr ⟨id,_,hh,by rw[ho] at hb;exact hb⟩
 have ownlt:∀b,own=some b→C.lo b:=fun b hb=>by
  cases hh:st.res id with
  | none=>rw[hnew hh] at hb;cases hb
  | some r=>
   obtain⟨⟨e',k',ts',xs',rfl⟩,ho⟩:=hold r hh;obtain⟨vs,_,_,_,_,_,h1⟩:=h.inn id _ hh;rw[ho] at hb;exact h1 b hb
 have hX:∀b,Own0 C (Eff.app ⟨.tok id,some (id,.tok e k ts xs),rb,true⟩ dst st) B T' b→Own0 C st B T b∨(y.v.ownBlock=some b∧w.heap.size≤b):=fun b hb=>by
  rcases hb with hb | ⟨i,r,hi,hb⟩
  ·exact .inl (.inl hb)
  ·rw[hres] at hi;by_cases e:i=id
   ·rw[if_pos e] at hi;injection hi with hi;subst hi;rw[e,hTi] at hb;have hb':y.v.ownBlock=some b:=hb;rcases hyb with h1 | h1 | h1
    ·rw[h1] at hb';exact .inl (ownX b hb')
    ·obtain⟨b1,h1,h2⟩:=h1;rw[h1] at hb';injection hb' with hb';subst hb';exact .inr ⟨h1,h2⟩
    ·rw[h1] at hb';cases hb'
   ·rw[if_neg e] at hi;obtain⟨r',hr',rfl⟩:=kil hi;rw[blkk,hT' i e] at hb;exact .inl (.inr ⟨i,r',hr',hb⟩)
 have S:∀ts',Still w w' (Own0 C st B T) (Own0 C (Eff.app ⟨.tok id,some (id,.tok e k ts xs),rb,true⟩ dst st) B T') ts':=fun ts'=>by
  refine⟨F.size,fun b cs t fr hx hh ht=>?_⟩;have hlt:b < w.heap.size:=by
   rcases Nat.lt_or_ge b w.heap.size with h | h
   ·exact h
   ·rw[Array.getElem?_eq_none h] at hh;cases hh
  refine⟨F.keep b hlt fun e=>hx (ownX b e),fun hb=>?_⟩;rcases hX b hb with hb | hb
  ·exact hx hb
  ·have:=hb.2;omega
 have alive':∀j,(st.res j).isSome=true→((Eff.app ⟨.tok id,some (id,.tok e k ts xs),rb,true⟩ dst st).res j).isSome=true:=fun j hj=>by
  rw[hres];split
  ·rfl
  ·cases hh:st.res j with
   | none=>rw[hh] at hj;cases hj
   | some r=>rfl
 have oth:∀i r b,st.res i=some r→i≠id→r.blk (B i) (T i)=some b→own≠some b:=fun i r b e hne hb he=>by
  cases hh:st.res id with
  | none=>rw[hnew hh] at he;cases he
  | some q=>
   obtain⟨⟨e',k',ts',xs',rfl⟩,ho⟩:=hold q hh;exact hne (h.apart i r id _ b e hh hb (by rw[ho] at he;exact he))
 have old:∀i r b,st.res i=some r→r.blk (B i) (T i)=some b→b < w.heap.size:=fun i r b e hb=>by
  have hin:=h.inn i r e;cases r with
  | box ty' cells'=>
   obtain⟨h1,vs,h2,h3⟩:=hin;simp only[Res.blk,oq] at hb;rw[← hb];exact h2.lt
  | tok e' k ts xs=>
   obtain⟨vs,h1,_⟩:=hin;exact (rw_lt h1 b hb).2
 have slots:∀t s',optKill id (st.slot t)=some s'→SV.Rep w' (Own0 C (Eff.app ⟨.tok id,some (id,.tok e k ts xs),rb,true⟩ dst st) B T') B T' s' (a.tmps.getD t undef)∧∀i∈s'.ids,(st.res i).isSome=true:=fun t s' e=>by
  cases hh:st.slot t with
  | none=>rw[hh] at e;cases e
  | some s0=>
   rw[hh] at e;injection e with e;subst e;exact⟨(kill_rep (h.slot t s0 hh)).still (S _) fun i hi=>⟨rfl,hT' i (kill_ids i hi).2⟩,fun i hi=>h.live t s0 hh i (kill_ids i hi).1⟩
 refine⟨B,T',put_size.trans h.size,put_dfr.trans h.dfr,h.gr.step F fun b _ e=>ownlt b e,fun t s' e=>?_,fun t s' e=>?_,fun i r e=>?_,fun i r e j hj=>?_,fun i r j q b hi hj h1 h2=>?_⟩
 ·cases dst with
  | none=>exact (slots t s' e).1
  | some d=>
   simp only[Eff.app] at e;cases hb:Nat.beq t d with
   | true=>
    rw[hb] at e;obtain rfl:=Nat.eq_of_beq_eq_true hb;injection e with e;subst e;rw[getD_put_same (by rw[h.size];exact hd _ rfl),SV.Rep,hTi]
   | false=>
    rw[hb] at e;rw[getD_put_ne (Nat.ne_of_beq_eq_false hb)];exact (slots t s' e).1
 ·intro i hi;cases dst with
  | none=>exact alive' i ((slots t s' e).2 i hi)
  | some d=>
   simp only[Eff.app] at e;cases hb:Nat.beq t d with
   | true=>
    rw[hb] at e;injection e with e;subst e;rw[SV.ids,List.mem_singleton] at hi;rw[hres,if_pos hi];rfl
   | false=>rw[hb] at e;exact alive' i ((slots t s' e).2 i hi)
 ·rw[hres] at e;by_cases hi:i=id
  ·rw[if_pos hi] at e;injection e with e;subst e;refine⟨us,?_,PV.RepLL.still (ts:=ts) hs ⟨nr _,fun b cs t fr hx hh ht=>⟨rfl,fun hb=>hx ((hX b hb).imp (fun h=>h) And.left)⟩⟩ fun r hr c hc=>((hok r hr).2 c hc).2,hok,?_,hk,fun b hb=>?_⟩
   ·rw[hi,hTi];exact hy
   ·rw[hi,hTi];exact hn
   ·rw[hi,hTi] at hb;rcases hyb with h1 | h1 | h1
    ·rw[h1] at hb;exact ownlt b hb
    ·obtain⟨b1,h1,h2⟩:=h1;rw[h1] at hb;injection hb with hb;subst hb;exact .inl (nt h.gr.size h2)
    ·rw[h1] at hb;cases hb
  ·rw[if_neg hi] at e;obtain⟨r',hr',rfl⟩:=kil e;have hin:=h.inn i r' hr';cases r' with
   | box ty' cells'=>
    obtain⟨h1,vs,h2,h3⟩:=hin;exact⟨h1,vs,F.bk h2 (oth i _ _ hr' hi rfl),(killL_rep h3).still (S _) fun j hj=>⟨rfl,hT' j (killL_ids j hj).2⟩⟩
   | tok e' k' ts' xs'=>
    obtain⟨vs,h1,h2,h3,h4⟩:=hin;refine⟨vs,?_,PV.RepLL.still (ts:=ts') h2 (S _) fun r hr c hc=>((h3 r hr).2 c hc).2,h3,?_⟩
    ·rw[hT' i hi];exact rw_keep h1 fun b hb=>F.keep b (rw_lt h1 b hb).2 (oth i _ b hr' hi hb)
    ·rw[hT' i hi];exact h4
 ·rw[hres] at e;by_cases hi:i=id
  ·rw[if_pos hi] at e;injection e with e;subst e;rw[Res.ids] at hj;cases hj
  ·rw[if_neg hi] at e;obtain⟨r',hr',rfl⟩:=kil e;refine alive' j (h.alive i r' hr' j ?_);cases r' with
   | box ty' cells'=>exact (killL_ids j hj).1
   | tok _ _ _ _=>exact hj
 ·rw[hres] at hi hj;have one:∀i r,(if i=id then some (Res.tok e k ts xs) else resKill id (st.res i))=some r→r.blk (B i) (T' i)=some b→i≠id→∃r',st.res i=some r'∧r'.blk (B i) (T i)=some b:=fun i r e hb hne=>by
   rw[if_neg hne] at e;obtain⟨r',hr',rfl⟩:=kil e;rw[blkk,hT' i hne] at hb;exact⟨r',hr',hb⟩
  have two:∀i r,(if i=id then some (Res.tok e k ts xs) else resKill id (st.res i))=some r→r.blk (B i) (T' i)=some b→i=id→own=some b∨w.heap.size≤b:=fun i r e hb he=>by
   rw[if_pos he] at e;injection e with e;subst e;rw[he,hTi] at hb;have hb':y.v.ownBlock=some b:=hb;rcases hyb with h1 | h1 | h1
   ·rw[h1] at hb';exact .inl hb'
   ·obtain⟨b1,h1,h9⟩:=h1;rw[h1] at hb';injection hb' with hb';subst hb';exact .inr h9
   ·rw[h1] at hb';cases hb'
  by_cases ei:i=id
  ·by_cases ej:j=id
   ·rw[ei,ej]
   ·exfalso
    obtain⟨q',hq,hqb⟩:=one j q hj h2 ej;rcases two i r hi h1 ei with h3 | h3
    ·exact oth j q' b hq ej hqb h3
    ·have:=old j q' b hq hqb;omega
  ·by_cases ej:j=id
   ·exfalso
    obtain⟨q',hq,hqb⟩:=one i r hi h1 ei;rcases two j q hj h2 ej with h3 | h3
    ·exact oth i q' b hq ei hqb h3
    ·have:=old i q' b hq hqb;omega
   ·obtain⟨r',hr',hrb⟩:=one i r hi h1 ei;obtain⟨q',hq,hqb⟩:=one j q hj h2 ej;exact h.apart i r' j q' b hr' hq hrb hqb
theorem inv_tok (h:InvB C st a w B T) {dst:Option Nat} {e k:Nat} {ts:List Nat} {xs:List (List PV)} {us:List (List Value)} {y:Sv} {rb:List Nat} {own:Option Nat} (hold:∀r,st.res id=some r→(∃e k ts xs,r=.tok e k ts xs)∧own=(T id).v.ownBlock) (hnew:st.res id=none→own=none)
  (hg:w.grownBy w' own) (hy:w'.ownsRow 0 e k y.v y.n us.flatten) (hyb:y.v.ownBlock=own∨y.v.ownBlock=some w.heap.size∨y.v.ownBlock=none) (hs:PV.RepLL w (Own0 C st B T) xs us) (hok:RowOk k ts xs) (hn:y.n=xs.length) (hk:0 < k) (hd:∀d,dst=some d→d < C.N):
  Inv C (Eff.app ⟨.tok id,some (id,.tok e k ts xs),rb,true⟩ dst st) (a.put dst y.v) w':=by
 have F:Fr (fun b=>own=some b) w w':=fr_own0' hg;have ownX:∀b,own=some b→Own0 C st B T b:=fun b hb=>by
  cases hh:st.res id with
  | none=>rw[hnew hh] at hb;cases hb
  | some r=>
   obtain⟨⟨e',k',ts',xs',rfl⟩,ho⟩:=hold r hh;exact .inr ⟨id,_,hh,by rw[ho] at hb;exact hb⟩
 refine inv_tokG h hold hnew F hy (hyb.imp (fun h=>h) (Or.imp (fun h=>⟨_,h,nr _⟩) fun h=>h)) (PV.RepLL.still (ts:=ts) hs ⟨F.size,fun b cs t fr hx hh ht=>?_⟩ fun r hr c hc=>((hok r hr).2 c hc).2) hok hn hk hd;have hlt:b < w.heap.size:=by
  rcases Nat.lt_or_ge b w.heap.size with h | h
  ·exact h
  ·rw[Array.getElem?_eq_none h] at hh;cases hh
 refine⟨F.keep b hlt fun e=>hx (ownX b e),fun hb=>?_⟩;rcases hb with hb | hb
 ·exact hx hb
 ·rcases hyb with h1 | h1 | h1
  ·rw[h1] at hb;exact hx (ownX b hb)
  ·rw[h1] at hb;injection hb with hb;omega
  ·rw[h1] at hb;cases hb
end
end Go.Proofs.YtbhbainhmfjpdaaGreatDoor
