/- Walks of the search and of what it calls, part 13. -/
import Derived.Test.YtbhbainhmfjpdaaGreatDoorMl
set_option linter.unusedVariables false
set_option linter.unusedSimpArgs false
set_option maxRecDepth 100000
set_option maxHeartbeats 8000000
namespace Go.Proofs.YtbhbainhmfjpdaaGreatDoor
open Go.RowKit
theorem sum_none {s:Sc} {l:List Mm} {i:Nat} {acc:Fm} (hc:canonR l=true) (hi:i < l.length) (h:sumGo s (l.drop i) acc=sumGo s l Fm.zero) (hf:(formR s (atZ l (i:Int)).1).2=false):sumR s l=(Fm.zero,12):=by
 have e:l.drop i=atZ l (i:Int)::l.drop (i+1):=by rw[atZ_nat (ge hi),List.drop_eq_getElem_cons hi]
 rw[e,sumGo,hf] at h;unfold sumR;rw[hc,← h];rfl
theorem sum_step {s:Sc} {l:List Mm} {i:Nat} {acc:Fm} (hi:i < l.length) (h:sumGo s (l.drop i) acc=sumGo s l Fm.zero) (hf:(formR s (atZ l (i:Int)).1).2=true):sumGo s (l.drop (i+1)) (Fm.addR acc (Fm.scaleR (formR s (atZ l (i:Int)).1).1 (atZ l (i:Int)).2))=sumGo s l Fm.zero:=by
 have e:l.drop i=atZ l (i:Int)::l.drop (i+1):=by rw[atZ_nat (ge hi),List.drop_eq_getElem_cons hi]
 rw[e,sumGo,hf] at h;exact h
theorem sum_end {s:Sc} {l:List Mm} {i:Nat} {acc:Fm} (hc:canonR l=true) (hi:l.length≤i) (h:sumGo s (l.drop i) acc=sumGo s l Fm.zero):sumR s l=(acc,0):=by
 rw[List.drop_of_length_le hi,sumGo] at h;unfold sumR;rw[hc,← h];rfl
theorem sum_canon {s:Sc} {l:List Mm} (hc:canonR l=false):sumR s l=(Fm.zero,1):=by unfold sumR;rw[hc];rfl
theorem sumGo_S {s:Sc} {a b n:Nat} (hs:s.Va a b):∀{l:List Mm} {acc:Fm} {k m:Nat},(∀x∈l,x.2.S n)→acc.S k m→∀f,sumGo s l acc=some f→f.S (k+l.length*(41+n)) (m+l.length*9)
 | [],acc,k,m,_,h,f,e=>by rw[sumGo] at e;injection e with e;subst e;exact h.up om om
 | x::l,acc,k,m,hl,h,f,e=>by
  rw[sumGo] at e;cases hf:(formR s x.1).2 with
  | false=>rw[hf] at e;cases e
  | true=>
   rw[hf] at e;have:=sumGo_S hs (fun y hy=>hl y (List.mem_cons_of_mem _ hy)) (h.addR ((hs.formS (r:=x.1)).scaleR (hl x (mf ..)))) f e;refine this.up ?_ ?_
   ·rw[List.length_cons,Nat.add_mul,Nat.one_mul];omega
   ·rw[List.length_cons,Nat.add_mul];omega
theorem sumR_S {s:Sc} {a b n:Nat} (hs:s.Va a b) {l:List Mm} (hl:∀x∈l,x.2.S n):(sumR s l).1.S (1+l.length*(41+n)) (l.length*9):=by
 unfold sumR;have hz:Fm.zero.S (1+l.length*(41+n)) (l.length*9):=fm_zero_S.up om om;cases canonR l with
 | false=>exact hz
 | true=>
  cases e:sumGo s l Fm.zero with
  | none=>exact hz
  | some f=>have:=sumGo_S hs hl fm_zero_S f e;exact this.up om om
theorem merge_step {c:Q} {a:List Mm}:∀{b:List Mm} {i:Nat},i < b.length→mergeR c a (b.drop i)=mergeR c (plusR a (atZ b (i:Int)).1 (Q.mul (atZ b (i:Int)).2 c)) (b.drop (i+1)):=fun {b i} hi=>by
 have e:b.drop i=atZ b (i:Int)::b.drop (i+1):=by rw[atZ_nat (ge hi),List.drop_eq_getElem_cons hi]
 rw[e,mergeR]
theorem plus_S {l:List Mm} {r:Rw} {c:Q} {n m:Nat} (h:∀x∈l,x.2.S n) (hc:c.S m):(∀x∈plusR l r c,x.2.S (n+m+1))∧(plusR l r c).length≤l.length+1:=by
 have hu:∀x∈l,x.2.S (n+m+1):=fun x hx=>(h x hx).up om
 have tk:∀(k:Nat) x,x∈l.take k→x.2.S (n+m+1):=fun k x hx=>hu x (List.mem_of_mem_take hx)
 have dr:∀(k:Nat) x,x∈l.drop k→x.2.S (n+m+1):=fun k x hx=>hu x (List.mem_of_mem_drop hx)
 unfold plusR;cases sgQ c == 0 with
 | true=>exact⟨hu,by simp⟩
 | false=>
  simp only[cond_false];cases h1:decide ((posR r l:Int) < (l.length:Int))&&rowEq (atZ l (posR r l:Int)).1 r with
  | true=>
   rw[be] at h1;have hp:=of_decide_eq_true h1.1;have hm:=h _ (atZ_mem (l:=l) (z:=(posR r l:Int)) om hp);refine⟨fun x hx=>?_,by simp only[cond_true,List.length_append,List.length_take,List.length_drop,List.length_singleton];omega⟩;simp only[cond_true,List.mem_append,List.mem_singleton] at hx;rcases hx with (hx | hx) | hx
   ·exact tk _ x hx
   ·rw[hx];exact hm.add hc
   ·exact dr _ x hx
  | false=>
   refine⟨fun x hx=>?_,by simp only[cond_false,List.length_append,List.length_take,List.length_drop,List.length_singleton];omega⟩;simp only[cond_false,List.mem_append,List.mem_singleton] at hx;rcases hx with (hx | hx) | hx
   ·exact tk _ x hx
   ·rw[hx];show (canonQ c).S _;rw[hc.canon];exact hc.up om
   ·exact dr _ x hx
theorem merge_S {c:Q} {n m k:Nat} (hc:c.S k):∀{b a:List Mm},(∀x∈a,x.2.S n)→(∀x∈b,x.2.S m)→(∀x∈mergeR c a b,x.2.S (n+b.length*(m+k+1)))∧(mergeR c a b).length≤a.length+b.length
 | [],a,ha,_=>⟨by simpa [mergeR] using ha,by simp[mergeR]⟩
 | x::b,a,ha,hb=>by
  obtain⟨h1,h2⟩:=plus_S (r:=x.1) ha ((hb x (mf ..)).mul hc);obtain⟨h3,h4⟩:=merge_S hc (a:=plusR a x.1 (Q.mul x.2 c)) h1 fun y hy=>hb y (List.mem_cons_of_mem _ hy)
  rw[mergeR];refine⟨fun y hy=>(h3 y hy).up ?_,by rw[List.length_cons];omega⟩;rw[List.length_cons,Nat.add_mul,Nat.one_mul];omega
theorem Q.S.abs {s:Nat} {q:Q} (h:q.S s):q.abs.S s:=⟨h.num,h.den,⟨h.ok.one,h.ok.cop,fun h0=>⟨rfl,(h.ok.pos h0).2⟩⟩⟩
theorem ari_back {n:Nat} (h:n≤1000000000):ariO .sub .i64 ((n+1:Nat):Int) 1=some (n:Int):=by
 show some (IntKind.wrap .i64 (((n+1:Nat):Int) - 1))=_;rw[i64_wrap om om]
 congr 1;omega
theorem nz_pos {n:Nat} (h:((n:Int) == 0)=false):decide (0 < (n:Int))=true:=by
 refine dt ?_;have:n≠0:=fun e=>by subst e;simp at h
 omega
theorem le_lt {α β:Type} {f:α→β} {l:List α} {i:Nat} (h:decide (((i+1:Nat):Int)≤((l.map f).length:Int))=true):i < l.length:=by
 have:=of_decide_eq_true h;rw[List.length_map] at this;omega
theorem le_ge {α β:Type} {f:α→β} {l:List α} {i:Nat} (h:decide (((i+1:Nat):Int)≤((l.map f).length:Int))=false):l.length≤i:=by
 have:=of_decide_eq_false h;rw[List.length_map] at this;omega
abbrev cmpR (x y:Q):Int:=sgQ (Q.add x y.neg')
def bestF (ls:List Lm) (unit:Int) (p:Nat×Nat) (n:Nat):Nat×Nat:=
 bif (atZ ls (n:Int)).unit != unit then p
 else (bif !(atZ ls (n:Int)).upper&&(((p.1:Int) == 0)||decide (0 < cmpR (atZ ls (n:Int)).value (atZ ls ((p.1 - 1:Nat):Int)).value)) then n+1 else p.1,
  bif (atZ ls (n:Int)).upper&&(((p.2:Int) == 0)||decide (cmpR (atZ ls (n:Int)).value (atZ ls ((p.2 - 1:Nat):Int)).value < 0)) then n+1 else p.2)
def bestR (ls:List Lm) (unit:Int):Nat×Nat:=(List.range ls.length).foldl (bestF ls unit) (0,0)
theorem best_step {ls:List Lm} {unit:Int} {i lo hi lo' hi':Nat} (h:(List.range i).foldl (bestF ls unit) (0,0)=(lo,hi)) (hs:bestF ls unit (lo,hi) i=(lo',hi')):(List.range (i+1)).foldl (bestF ls unit) (0,0)=(lo',hi'):=by
 rw[List.range_succ,List.foldl_append,h];exact hs
theorem best_end {ls:List Lm} {unit:Int} {i lo hi:Nat} (h:(List.range i).foldl (bestF ls unit) (0,0)=(lo,hi)) (h1:i≤ls.length) (h2:ls.length≤i):bestR ls unit=(lo,hi):=by
 have:i=ls.length:=by omega
 subst this;exact h
theorem bestF_le {ls:List Lm} {unit:Int} {p:Nat×Nat} {n:Nat} (hn:n < ls.length) (h1:p.1≤ls.length) (h2:p.2≤ls.length):(bestF ls unit p n).1≤ls.length∧(bestF ls unit p n).2≤ls.length:=by
 unfold bestF;cases (atZ ls (n:Int)).unit != unit with
 | true=>exact⟨h1,h2⟩
 | false=>
  simp only[cond_false]
  constructor
  ·cases !(atZ ls (n:Int)).upper&&(((p.1:Int) == 0)||decide (0 < cmpR (atZ ls (n:Int)).value (atZ ls ((p.1 - 1:Nat):Int)).value)) with
   | true=>exact hn
   | false=>exact h1
  ·cases (atZ ls (n:Int)).upper&&(((p.2:Int) == 0)||decide (cmpR (atZ ls (n:Int)).value (atZ ls ((p.2 - 1:Nat):Int)).value < 0)) with
   | true=>exact hn
   | false=>exact h2
theorem bestR_le (ls:List Lm) (unit:Int):(bestR ls unit).1≤ls.length∧(bestR ls unit).2≤ls.length:=by
 have:∀i,i≤ls.length→((List.range i).foldl (bestF ls unit) (0,0)).1≤ls.length∧((List.range i).foldl (bestF ls unit) (0,0)).2≤ls.length:=fun i=>by
  induction i with
  | zero=>intro _;exact⟨nq _,nq _⟩
  | succ i ih=>
   intro h;rw[List.range_succ,List.foldl_append];obtain⟨h1,h2⟩:=ih om;exact bestF_le om h1 h2
 exact this _ (nr _)
def atLeastR (s:Sc) (v:Int):List Mm:=bif decide (v < (s.q.g.inputs:Int)) then [(⟨1,v,0,0⟩,Q.one)] else [(⟨5,v - s.q.g.inputs,0,0⟩,Q.one)]
def atMostR (s:Sc) (v:Int):List Mm×Bool:=
 bif decide (v < (s.q.g.inputs:Int)) then ([(⟨2,v,0,0⟩,Q.one)],true)
 else bif (((bestR s.lems (v - s.q.g.inputs)).1:Int) == 0)||(((bestR s.lems (v - s.q.g.inputs)).2:Int) == 0) then ([],false)
 else bif decide (sgQ (atZ s.lems (((bestR s.lems (v - s.q.g.inputs)).2 - 1:Nat):Int)).value≤0) then ([(⟨10,v - s.q.g.inputs,0,((bestR s.lems (v - s.q.g.inputs)).2:Int)⟩,Q.one)],true)
 else bif decide (0≤sgQ (atZ s.lems (((bestR s.lems (v - s.q.g.inputs)).1 - 1:Nat):Int)).value) then ([(⟨8,v - s.q.g.inputs,((bestR s.lems (v - s.q.g.inputs)).1:Int),0⟩,Q.one),(⟨12,v - s.q.g.inputs,0,((bestR s.lems (v - s.q.g.inputs)).2:Int)⟩,Q.one)],true)
 else ([(⟨12,v - s.q.g.inputs,0,((bestR s.lems (v - s.q.g.inputs)).2:Int)⟩,Q.mul (Q.div Q.one (Q.add (atZ s.lems (((bestR s.lems (v - s.q.g.inputs)).2 - 1:Nat):Int)).value (atZ s.lems (((bestR s.lems (v - s.q.g.inputs)).1 - 1:Nat):Int)).value.neg')) (atZ s.lems (((bestR s.lems (v - s.q.g.inputs)).2 - 1:Nat):Int)).value),
   (⟨13,v - s.q.g.inputs,((bestR s.lems (v - s.q.g.inputs)).1:Int),((bestR s.lems (v - s.q.g.inputs)).2:Int)⟩,Q.div Q.one (Q.add (atZ s.lems (((bestR s.lems (v - s.q.g.inputs)).2 - 1:Nat):Int)).value (atZ s.lems (((bestR s.lems (v - s.q.g.inputs)).1 - 1:Nat):Int)).value.neg'))],true)
def moreR (s:Sc) (t:Tm):List Mm×Bool:=bif decide (0 < sgQ t.2) then (atLeastR s t.1,true) else atMostR s t.1
def aboveGo (s:Sc):List Tm→List Mm→Option (List Mm)
 | [],l=>some l
 | t::r,l=>bif (moreR s t).2 then aboveGo s r (mergeR t.2.abs l (moreR s t).1) else none
def aboveR (s:Sc) (f:Fm):Q×List Mm×Bool:=match aboveGo s f.terms [] with
 | some l=>((Fm.subR f (sumR s l).1).const,l,true)
 | none=>(Q.zero,[],false)
theorem isg_pos {q:Q} (h:¬sgQ q≤0):q.neg=false∧0 < q.num:=by
 unfold sgQ isg at h;split at h
 ·omega
 ·rename_i h0
  cases hn:q.neg with
  | false=>exact⟨rfl,by omega⟩
  | true=>rw[hn] at h;simp at h
theorem isg_neg {q:Q} (h:¬0≤sgQ q):q.neg=true∧0 < q.num:=by
 unfold sgQ isg at h;split at h
 ·omega
 ·rename_i h0
  cases hn:q.neg with
  | true=>exact⟨rfl,by omega⟩
  | false=>rw[hn] at h;simp at h
theorem quot_num {b:Bool} {n d:Nat} (hn:0 < n):0 < (quot b n d).num:=by
 unfold quot;rw[if_neg om];exact Nat.div_pos (Nat.le_of_dvd hn (Nat.gcd_dvd_left ..)) (Nat.gcd_pos_of_pos_left _ hn)
theorem span_pos {u l:Q} (hl0:l.Ok) (h:¬sgQ u≤0) (k:¬0≤sgQ l):(Q.add u l.neg').num≠0:=by
 obtain⟨h1,h2⟩:=isg_pos h;obtain⟨k1,k2⟩:=isg_neg k;have e:l.neg'.neg=false∧0 < l.neg'.num:=by
  unfold Q.neg' canonQ;refine⟨?_,quot_num k2⟩;unfold quot;split
  ·rfl
  ·show (!l.neg)=false;rw[k1];rfl
 have:0 < (Q.add u l.neg').num:=by
  unfold Q.add;simp only;refine quot_num ?_;unfold sadd Q.sg;rw[h1,e.1];simp only[Bool.false_and,if_true];have:=Nat.mul_pos h2 l.neg'.un_pos;omega
 omega
theorem atLeast_S (s:Sc) (v:Int):(∀x∈atLeastR s v,x.2.S 26)∧(atLeastR s v).length≤2:=by
 unfold atLeastR;cases decide (v < (s.q.g.inputs:Int)) with
 | true=>exact⟨fun x hx=>by rw[mj hx];exact sz_one.up dx,by simp⟩
 | false=>exact⟨fun x hx=>by rw[mj hx];exact sz_one.up dx,by simp⟩
theorem lem_at {s:Sc} {a b k:Nat} (hs:s.Va a b) (h:((k:Int) == 0)=false) (hk:k≤s.lems.length):k - 1 < s.lems.length∧(atZ s.lems ((k - 1:Nat):Int)).value.S 8:=by
 have h0:k≠0:=fun e=>by subst e;simp at h
 have h1:k - 1 < s.lems.length:=by omega
 exact⟨h1,(hs.lems _ (mg (get_of h1))).up hs.b9⟩
theorem atMost_S {s:Sc} {a b:Nat} (hs:s.Va a b) (v:Int):(∀x∈(atMostR s v).1,x.2.S 26)∧(atMostR s v).1.length≤2:=by
 unfold atMostR;have one:∀(r:Rw),∀x∈[(r,Q.one)],(x:Mm).2.S 26:=fun r x hx=>by rw[mj hx];exact sz_one.up dx
 cases decide (v < (s.q.g.inputs:Int)) with
 | true=>exact⟨one _,by simp⟩
 | false=>
  obtain⟨b1,b2⟩:=bestR_le s.lems (v - s.q.g.inputs);simp only[cond_false];generalize bestR s.lems (v - s.q.g.inputs)=p at b1 b2;cases h1:((p.1:Int) == 0) with
  | true=>exact⟨fun x hx=>(by cases hx),nq _⟩
  | false=>
   cases h2:((p.2:Int) == 0) with
   | true=>exact⟨fun x hx=>(by cases hx),nq _⟩
   | false=>
    obtain⟨g1,l8⟩:=lem_at hs h1 b1;obtain⟨g2,u8⟩:=lem_at hs h2 b2;simp only[Bool.or_self,cond_false];cases h3:decide (sgQ (atZ s.lems ((p.2 - 1:Nat):Int)).value≤0) with
    | true=>exact⟨one _,by simp⟩
    | false=>
     cases h4:decide (0≤sgQ (atZ s.lems ((p.1 - 1:Nat):Int)).value) with
     | true=>
      refine⟨fun x hx=>?_,by simp⟩;simp only[cond_true,cond_false,List.mem_cons,List.not_mem_nil,or_false] at hx;rcases hx with rfl | rfl<;>exact sz_one.up dx
     | false=>
      have hd:=(sz_one.div (u8.add l8.neg) (span_pos l8.ok (of_decide_eq_false h3) (of_decide_eq_false h4)));refine⟨fun x hx=>?_,by simp⟩;simp only[cond_false,List.mem_cons,List.not_mem_nil,or_false] at hx;rcases hx with rfl | rfl
      ·exact (hd.mul u8).up dx
      ·exact hd.up dx
theorem more_S {s:Sc} {a b:Nat} (hs:s.Va a b) (t:Tm):(∀x∈(moreR s t).1,x.2.S 26)∧(moreR s t).1.length≤2:=by
 unfold moreR;cases decide (0 < sgQ t.2) with
 | true=>exact atLeast_S s t.1
 | false=>exact atMost_S hs t.1
theorem above_step {s:Sc} {ts:List Tm} {i:Nat} {acc M:List Mm} (hi:i < ts.length) (h:aboveGo s (ts.drop i) acc=aboveGo s ts []) (hm:moreR s (atZ ts (i:Int))=(M,true)):aboveGo s (ts.drop (i+1)) (mergeR (atZ ts (i:Int)).2.abs acc M)=aboveGo s ts []:=by
 have e:ts.drop i=atZ ts (i:Int)::ts.drop (i+1):=by rw[atZ_nat (ge hi),List.drop_eq_getElem_cons hi]
 rw[e,aboveGo,hm] at h;exact h
theorem above_end {s:Sc} {ts:List Tm} {i:Nat} {acc:List Mm} (h:aboveGo s (ts.drop i) acc=aboveGo s ts []) (hi:ts.length≤i):aboveGo s ts []=some acc:=by rw[← h,List.drop_of_length_le hi];rfl
theorem above_none {s:Sc} {f:Fm} {i:Nat} {acc:List Mm} (hi:i < f.terms.length) (h:aboveGo s (f.terms.drop i) acc=aboveGo s f.terms []) (hm:(moreR s (atZ f.terms (i:Int))).2=false):aboveR s f=(Q.zero,[],false):=by
 have e:f.terms.drop i=atZ f.terms (i:Int)::f.terms.drop (i+1):=by rw[atZ_nat (ge hi),List.drop_eq_getElem_cons hi]
 rw[e,aboveGo,hm] at h;unfold aboveR;rw[← h];rfl
theorem aboveGo_S' {s:Sc} {a b:Nat} (hs:s.Va a b):∀{ts:List Tm} {acc L:List Mm} {n k:Nat},(∀t∈ts,t.2.S 3)→(∀x∈acc,x.2.S n)→acc.length≤k→aboveGo s ts acc=some L→(∀x∈L,x.2.S (n+ts.length*60))∧L.length≤k+ts.length*2
 | [],acc,L,n,k,_,h,hk,e=>by rw[aboveGo] at e;injection e with e;subst e;exact⟨by simpa using h,by simpa using hk⟩
 | t::ts,acc,L,n,k,ht,h,hk,e=>by
  rw[aboveGo] at e;cases hm:(moreR s t).2 with
  | false=>rw[hm] at e;cases e
  | true=>
   rw[hm] at e;obtain⟨m1,m2⟩:=more_S hs t;obtain⟨g1,g2⟩:=merge_S (ht t (mf ..)).abs h m1;have:=Nat.mul_le_mul_right 30 m2;obtain⟨r1,r2⟩:=aboveGo_S' hs (n:=n+60) (k:=k+2) (fun x hx=>ht x (List.mem_cons_of_mem _ hx)) (fun x hx=>(g1 x hx).up om) om e;rw[List.length_cons];exact⟨fun x hx=>(r1 x hx).up om,by omega⟩
theorem aboveGo_S {s:Sc} {a b:Nat} (hs:s.Va a b) {f:Fm} (hf:f.S 3 8) {L:List Mm} (e:aboveGo s f.terms []=some L):(∀x∈L,x.2.S 481)∧L.length≤16:=by
 have hl:=hf.len;obtain⟨h1,h2⟩:=aboveGo_S' hs (n:=1) (k:=0) hf.each (fun x hx=>by cases hx) (nr _) e;exact⟨fun x hx=>(h1 x hx).up om,by omega⟩
def addLm (ls:List Lm) (j:Int) (A B:Q×List Mm×Bool):List Lm:=ls++((bif A.2.2 then [⟨j,false,A.1,A.2.1⟩] else [])++(bif B.2.2 then [⟨j,true,B.1.neg',B.2.1⟩] else []))
def bStep (s:Sc) (j:Nat):Sc:=⟨s.q,s.path,addLm s.lems j (aboveR s (atZ s.q.g.units (j:Int))) (aboveR s (Fm.scaleR (atZ s.q.g.units (j:Int)) Q.mone))⟩
def boundedN (s:Sc):Nat→Sc
 | 0=>s
 | j+1=>bStep (boundedN s j) j
def boundedR (s:Sc):Sc:=boundedN s s.q.g.units.length
theorem scale_vars {f:Fm} {q:Q} (h:f.Cn) {P:Int→Prop} (hv:∀t∈f.terms,P t.1):∀t∈(Fm.scaleR f q).terms,P t.1:=fun t ht=>by
 obtain⟨r,h1,_,_,h4,_⟩:=scaleT_cf (c:=q) f.terms [] h.srt;rw[List.nil_append] at h1;have ht':t∈r:=by rw[← h1];exact ht
 obtain⟨u,hu,e⟩:=h4 t ht';rw[← e];exact hv u hu
theorem aboveR_S {s:Sc} {a b:Nat} (hs:s.Va a b) {f:Fm} (hf:f.S 3 8):(aboveR s f).1.S 9100∧(∀x∈(aboveR s f).2.1,x.2.S 481)∧(aboveR s f).2.1.length≤16:=by
 unfold aboveR;cases e:aboveGo s f.terms [] with
 | none=>exact⟨sz_zero.up dx,(fun x hx=>by cases hx),nq _⟩
 | some L=>
  obtain⟨h1,h2⟩:=aboveGo_S hs hf e;have:=Nat.mul_le_mul_right (41+481) h2;exact⟨(hf.subR (sumR_S hs h1)).const.up om,h1,h2⟩
theorem r_sum {s:Sc} {l:List Mm} {a b n:Nat} (h:s.Va a b) (hl:∀m∈l,m.2.S n) (h9:l.length≤40) (hn9:n≤9000) (hK:1+l.length*(41+n)≤9000):PCalls Tryz.prog TF 121 [scP s,mmsP l] (.tup [fmP (sumR s l).1,iP (sumR s l).2]):=by
 refine pcA [85,37] Tryz.func121 (fun D=>?_);refine ac (c:=r_canonical (n:=n) hl om om) ?_;refine a2 (fun e12=>?_) (fun e12=>?_)
 ·replace e12:=not_t e12;exact ar (c:=by rw[sum_canon e12];rfl)
 ·replace e12:=not_f e12
  skip
  refine au ?_;refine pwk ?_;refine pl (ι:={p:Nat×Fm // p.1≤l.length∧sumGo s (l.drop p.1) p.2=sumGo s l Fm.zero∧p.2.S (1+p.1*(41+n)) (p.1*9)}) (fun p=>[(1,.pv (mmsP l)),(2,.box 2 0),(4,.box 4 0),(6,.box 6 0),(7,.pv (iP p.1.1))]) (fun p=>[(2,.box 85 [.pv (iP s.q.g.inputs),.pv (formsP s.q.g.units),.pv (formsP s.q.g.outputs),.pv (ratsP s.q.rg.lo),.pv (ratsP s.q.rg.hi),.pv (formsP s.q.rg.rows),.pv (termsP s.q.goal.terms),.pv (bP s.q.goal.const.neg),.pv (.nat s.q.goal.const.num),.pv (.nat s.q.goal.const.den),.pv (dcsP s.path),.pv (lmsP s.lems)]),(4,.box 37 [.pv (termsP []),.pv (.raw (.bool false)),.pv (.nat 0),.pv (.nat 0)]),(6,.box 37 [.pv (termsP p.1.2.terms),.pv (bP p.1.2.const.neg),.pv (.nat p.1.2.const.num),.pv (.nat p.1.2.const.den)])]) [85,37] (fun p=>l.length - p.1.1) ⟨(0,Fm.zero),nq _,rfl,fm_zero_S.up om om⟩ (c5 Y Y Y Y Y trivial) (c3 Y Y Y trivial) (fun _=>rfl) ?_;intro ⟨(i,acc),hi0,hg,ha⟩;simp only at hi0 hg ha;refine a2 (fun e17=>?_) (fun e17=>?_)
  ·have hi:i < l.length:=lt_of e17;have hm:=hl _ (mg (get_of hi));have hf:=h.formS (r:=(atZ l (i:Int)).1);have hii:=Nat.mul_le_mul_right (41+n) (show i+1≤l.length from hi);rw[Nat.add_mul,Nat.one_mul] at hii;refine ax (c:=(getmap (get_of hi))) ?_;refine ac (c:=r_form h) ?_;refine a2 (fun e31=>?_) (fun e31=>?_)
   ·replace e31:=not_t e31;exact ar (c:=by rw[sum_none e12 hi hg e31];rfl)
   ·replace e31:=not_f e31;refine ax (c:=(getmap (get_of hi))) ?_;refine ac (c:=r_fscale hf hm dx om dx) ?_;refine ac (c:=r_fadd ha (hf.scaleR hm) om om) ?_;refine aa (c:=ari_succ (by show i≤_;omega)) ?_;refine au ?_;exact pe ⟨(i+1,Fm.addR acc (Fm.scaleR (formR s (atZ l (i:Int)).1).1 (atZ l (i:Int)).2)),hi,sum_step hi hg e31,(ha.addR (hf.scaleR hm)).up (by show _≤1+(i+1)*(41+n);rw[Nat.add_mul,Nat.one_mul];omega) (by show i*9+9≤(i+1)*9;omega)⟩ (c5 Y Y Y Y Y trivial) (c3 Y Y Y trivial) Y (by show l.length - (i+1) < l.length - i;omega)
  ·have hj:l.length≤i:=ge_of e17;exact ar (c:=by rw[sum_end e12 hj hg];rfl)
theorem r_merge {a b:List Mm} {c:Q} {n m k:Nat} (ha:∀x∈a,x.2.S n) (hb:∀x∈b,x.2.S m) (hc:c.S k) (h9:a.length+b.length≤900) (hm9:m≤9000) (hk9:k≤9000) (hK:n+b.length*(m+k+1)≤9000):PCalls Tryz.prog TU 120 [mmsP a,mmsP b,ratP c] (mmsP (mergeR c a b)):=by
 refine pcA [35] Tryz.func120 (fun D=>?_);refine au ?_;refine pl (ι:={p:Nat×List Mm // p.1≤b.length∧mergeR c p.2 (b.drop p.1)=mergeR c a b∧(∀x∈p.2,x.2.S (n+p.1*(m+k+1)))∧p.2.length≤a.length+p.1}) (fun p=>[(0,.pv (mmsP p.1.2)),(1,.pv (mmsP b)),(5,.box 5 0),(7,.pv (iP p.1.1))]) (fun p=>[(5,.box 35 [.pv (bP c.neg),.pv (.nat c.num),.pv (.nat c.den)])]) [35] (fun p=>b.length - p.1.1) ⟨(0,a),nq _,rfl,by simpa using ha,nr _⟩ (c4 Y Y Y Y trivial) (ai Y trivial) (fun _=>rfl) ?_;intro ⟨(i,acc),hi0,hg,hacc,hlen⟩;simp only at hi0 hg hacc hlen;refine a2 (fun e11=>?_) (fun e11=>?_)
 ·have hi:i < b.length:=lt_of e11;have hm:=hb _ (mg (get_of hi));have hii:=Nat.mul_le_mul_right (m+k+1) (show i+1≤b.length from hi);rw[Nat.add_mul,Nat.one_mul] at hii;obtain⟨q1,q2⟩:=plus_S (r:=(atZ b (i:Int)).1) hacc (hm.mul hc);refine ax (c:=(getmap (get_of hi))) ?_;refine ax (c:=(getmap (get_of hi))) ?_;refine ac (c:=r_mul (hm.sm om) (hc.sm om)) ?_;refine ac (c:=r_plus hacc (hm.mul hc) om om) ?_;refine aa (c:=ari_succ (by show i≤_;omega)) ?_;refine au ?_;exact pe ⟨(i+1,plusR acc (atZ b (i:Int)).1 (Q.mul (atZ b (i:Int)).2 c)),hi,by rw[← hg,merge_step hi],fun x hx=>(q1 x hx).up (by show _≤n+(i+1)*(m+k+1);rw[Nat.add_mul,Nat.one_mul];omega),by show (plusR acc (atZ b (i:Int)).1 (Q.mul (atZ b (i:Int)).2 c)).length≤a.length+(i+1);omega⟩ (c4 Y Y Y Y trivial) (ai Y trivial) Y (by show b.length - (i+1) < b.length - i;omega)
 ·have hj:b.length≤i:=ge_of e11;exact ar (c:=congrArg mmsP (by show acc=_;rw[← hg,List.drop_of_length_le hj];rfl))
theorem r_best {s:Sc} {a b:Nat} {unit:Int} (h:s.Va a b):PCalls Tryz.prog TU 170 [scP s,iP unit] (.tup [iP (bestR s.lems unit).1,iP (bestR s.lems unit).2]):=by
 refine pcA [85,100] Tryz.func170 (fun D=>?_);refine au ?_;refine pl (ι:={p:Nat×Nat×Nat // p.1≤s.lems.length∧(List.range p.1).foldl (bestF s.lems unit) (0,0)=(p.2.1,p.2.2)∧p.2.1≤s.lems.length∧p.2.2≤s.lems.length}) (fun p=>[(1,.pv (iP unit)),(2,.box 2 0),(6,.pv (iP p.1.2.1)),(7,.pv (iP p.1.2.2)),(8,.pv (iP ((p.1.1+1:Nat):Int)))]) (fun p=>[(2,.box 85 [.pv (iP s.q.g.inputs),.pv (formsP s.q.g.units),.pv (formsP s.q.g.outputs),.pv (ratsP s.q.rg.lo),.pv (ratsP s.q.rg.hi),.pv (formsP s.q.rg.rows),.pv (termsP s.q.goal.terms),.pv (bP s.q.goal.const.neg),.pv (.nat s.q.goal.const.num),.pv (.nat s.q.goal.const.den),.pv (dcsP s.path),.pv (lmsP s.lems)])]) [85,100] (fun p=>s.lems.length - p.1.1) ⟨(0,0,0),nq _,rfl,nq _,nq _⟩ (c5 Y Y Y Y Y trivial) (ai Y trivial) (fun _=>rfl) ?_;intro ⟨(i,lo,hi),hi0,hf,hlo,hhi⟩;simp only at hi0 hf hlo hhi;refine a2 (fun e14=>?_) (fun e14=>?_)
 ·have hi1:i < s.lems.length:=le_lt e14;have h9:=h.l9;have vm:=(h.lems _ (mg (get_of hi1))).up h.b9;refine aa (c:=ari_back (by show i≤_;omega)) ?_;refine ax (c:=(getmap (get_of hi1))) ?_;refine a2 (fun e26=>?_) (fun e26=>?_)
  ·refine aa (c:=ari_succ (by show i+1≤_;omega)) ?_;refine au ?_;exact pe ⟨(i+1,lo,hi),hi1,best_step hf (by simp only[bestF,e14,e26,sb]),by first | exact hi1 | exact hlo,by first | exact hi1 | exact hhi⟩ (c5 Y Y Y Y Y trivial) (ai Y trivial) Y (by show s.lems.length - (i+1) < s.lems.length - i;omega)
  ·refine a2 (fun e29=>?_) (fun e29=>?_)
   ·refine a2 (fun e32=>?_) (fun e32=>?_)
    ·refine a2 (fun e50=>?_) (fun e50=>?_)
     ·replace e50:=not_t e50;refine a2 (fun e53=>?_) (fun e53=>?_)
      ·refine aa (c:=ari_succ (by show i+1≤_;omega)) ?_;refine au ?_;exact pe ⟨(i+1,(i+1),(i+1)),hi1,best_step hf (by (first | (exact absurd (e29.symm.trans e50) dx) | simp only[bestF,e14,e26,e29,e32,e50,e53,sb])),by first | exact hi1 | exact hlo,by first | exact hi1 | exact hhi⟩ (c5 Y Y Y Y Y trivial) (ai Y trivial) Y (by show s.lems.length - (i+1) < s.lems.length - i;omega)
      ·obtain⟨gb,vb⟩:=lem_at h e53 hlo;refine aa (c:=ari_pred (nz_pos e53) (by show lo≤_;omega)) ?_;refine ax (c:=(getmap (get_of gb))) ?_;refine ac (c:=r_cmp (vm.sm dx) (vb.sm dx) vm.ok vb.neg.ok ((vm.add vb.neg).sm dx)) ?_;refine a2 (fun e66=>?_) (fun e66=>?_)
       ·refine aa (c:=ari_succ (by show i+1≤_;omega)) ?_;refine au ?_;exact pe ⟨(i+1,(i+1),(i+1)),hi1,best_step hf (by (first | (exact absurd (e29.symm.trans e50) dx) | simp only[bestF,e14,e26,e29,e32,e50,e53,e66,sb])),by first | exact hi1 | exact hlo,by first | exact hi1 | exact hhi⟩ (c5 Y Y Y Y Y trivial) (ai Y trivial) Y (by show s.lems.length - (i+1) < s.lems.length - i;omega)
       ·refine aa (c:=ari_succ (by show i+1≤_;omega)) ?_;refine au ?_;exact pe ⟨(i+1,lo,(i+1)),hi1,best_step hf (by (first | (exact absurd (e29.symm.trans e50) dx) | simp only[bestF,e14,e26,e29,e32,e50,e53,e66,sb])),by first | exact hi1 | exact hlo,by first | exact hi1 | exact hhi⟩ (c5 Y Y Y Y Y trivial) (ai Y trivial) Y (by show s.lems.length - (i+1) < s.lems.length - i;omega)
     ·replace e50:=not_f e50;refine aa (c:=ari_succ (by show i+1≤_;omega)) ?_;refine au ?_;exact pe ⟨(i+1,lo,(i+1)),hi1,best_step hf (by (first | (exact absurd (e29.symm.trans e50) dx) | simp only[bestF,e14,e26,e29,e32,e50,sb])),by first | exact hi1 | exact hlo,by first | exact hi1 | exact hhi⟩ (c5 Y Y Y Y Y trivial) (ai Y trivial) Y (by show s.lems.length - (i+1) < s.lems.length - i;omega)
    ·obtain⟨gb,vb⟩:=lem_at h e32 hhi;refine aa (c:=ari_pred (nz_pos e32) (by show hi≤_;omega)) ?_;refine ax (c:=(getmap (get_of gb))) ?_;refine ac (c:=r_cmp (vm.sm dx) (vb.sm dx) vm.ok vb.neg.ok ((vm.add vb.neg).sm dx)) ?_;refine a2 (fun e45=>?_) (fun e45=>?_)
     ·refine a2 (fun e50=>?_) (fun e50=>?_)
      ·replace e50:=not_t e50;refine a2 (fun e53=>?_) (fun e53=>?_)
       ·refine aa (c:=ari_succ (by show i+1≤_;omega)) ?_;refine au ?_;exact pe ⟨(i+1,(i+1),(i+1)),hi1,best_step hf (by (first | (exact absurd (e29.symm.trans e50) dx) | simp only[bestF,e14,e26,e29,e32,e45,e50,e53,sb])),by first | exact hi1 | exact hlo,by first | exact hi1 | exact hhi⟩ (c5 Y Y Y Y Y trivial) (ai Y trivial) Y (by show s.lems.length - (i+1) < s.lems.length - i;omega)
       ·obtain⟨gb,vb⟩:=lem_at h e53 hlo;refine aa (c:=ari_pred (nz_pos e53) (by show lo≤_;omega)) ?_;refine ax (c:=(getmap (get_of gb))) ?_;refine ac (c:=r_cmp (vm.sm dx) (vb.sm dx) vm.ok vb.neg.ok ((vm.add vb.neg).sm dx)) ?_;refine a2 (fun e66=>?_) (fun e66=>?_)
        ·refine aa (c:=ari_succ (by show i+1≤_;omega)) ?_;refine au ?_;exact pe ⟨(i+1,(i+1),(i+1)),hi1,best_step hf (by (first | (exact absurd (e29.symm.trans e50) dx) | simp only[bestF,e14,e26,e29,e32,e45,e50,e53,e66,sb])),by first | exact hi1 | exact hlo,by first | exact hi1 | exact hhi⟩ (c5 Y Y Y Y Y trivial) (ai Y trivial) Y (by show s.lems.length - (i+1) < s.lems.length - i;omega)
        ·refine aa (c:=ari_succ (by show i+1≤_;omega)) ?_;refine au ?_;exact pe ⟨(i+1,lo,(i+1)),hi1,best_step hf (by (first | (exact absurd (e29.symm.trans e50) dx) | simp only[bestF,e14,e26,e29,e32,e45,e50,e53,e66,sb])),by first | exact hi1 | exact hlo,by first | exact hi1 | exact hhi⟩ (c5 Y Y Y Y Y trivial) (ai Y trivial) Y (by show s.lems.length - (i+1) < s.lems.length - i;omega)
      ·replace e50:=not_f e50;refine aa (c:=ari_succ (by show i+1≤_;omega)) ?_;refine au ?_;exact pe ⟨(i+1,lo,(i+1)),hi1,best_step hf (by (first | (exact absurd (e29.symm.trans e50) dx) | simp only[bestF,e14,e26,e29,e32,e45,e50,sb])),by first | exact hi1 | exact hlo,by first | exact hi1 | exact hhi⟩ (c5 Y Y Y Y Y trivial) (ai Y trivial) Y (by show s.lems.length - (i+1) < s.lems.length - i;omega)
     ·refine a2 (fun e50=>?_) (fun e50=>?_)
      ·replace e50:=not_t e50;refine a2 (fun e53=>?_) (fun e53=>?_)
       ·refine aa (c:=ari_succ (by show i+1≤_;omega)) ?_;refine au ?_;exact pe ⟨(i+1,(i+1),hi),hi1,best_step hf (by (first | (exact absurd (e29.symm.trans e50) dx) | simp only[bestF,e14,e26,e29,e32,e45,e50,e53,sb])),by first | exact hi1 | exact hlo,by first | exact hi1 | exact hhi⟩ (c5 Y Y Y Y Y trivial) (ai Y trivial) Y (by show s.lems.length - (i+1) < s.lems.length - i;omega)
       ·obtain⟨gb,vb⟩:=lem_at h e53 hlo;refine aa (c:=ari_pred (nz_pos e53) (by show lo≤_;omega)) ?_;refine ax (c:=(getmap (get_of gb))) ?_;refine ac (c:=r_cmp (vm.sm dx) (vb.sm dx) vm.ok vb.neg.ok ((vm.add vb.neg).sm dx)) ?_;refine a2 (fun e66=>?_) (fun e66=>?_)
        ·refine aa (c:=ari_succ (by show i+1≤_;omega)) ?_;refine au ?_;exact pe ⟨(i+1,(i+1),hi),hi1,best_step hf (by (first | (exact absurd (e29.symm.trans e50) dx) | simp only[bestF,e14,e26,e29,e32,e45,e50,e53,e66,sb])),by first | exact hi1 | exact hlo,by first | exact hi1 | exact hhi⟩ (c5 Y Y Y Y Y trivial) (ai Y trivial) Y (by show s.lems.length - (i+1) < s.lems.length - i;omega)
        ·refine aa (c:=ari_succ (by show i+1≤_;omega)) ?_;refine au ?_;exact pe ⟨(i+1,lo,hi),hi1,best_step hf (by (first | (exact absurd (e29.symm.trans e50) dx) | simp only[bestF,e14,e26,e29,e32,e45,e50,e53,e66,sb])),by first | exact hi1 | exact hlo,by first | exact hi1 | exact hhi⟩ (c5 Y Y Y Y Y trivial) (ai Y trivial) Y (by show s.lems.length - (i+1) < s.lems.length - i;omega)
      ·replace e50:=not_f e50;refine aa (c:=ari_succ (by show i+1≤_;omega)) ?_;refine au ?_;exact pe ⟨(i+1,lo,hi),hi1,best_step hf (by (first | (exact absurd (e29.symm.trans e50) dx) | simp only[bestF,e14,e26,e29,e32,e45,e50,sb])),by first | exact hi1 | exact hlo,by first | exact hi1 | exact hhi⟩ (c5 Y Y Y Y Y trivial) (ai Y trivial) Y (by show s.lems.length - (i+1) < s.lems.length - i;omega)
   ·refine a2 (fun e50=>?_) (fun e50=>?_)
    ·replace e50:=not_t e50;refine a2 (fun e53=>?_) (fun e53=>?_)
     ·refine aa (c:=ari_succ (by show i+1≤_;omega)) ?_;refine au ?_;exact pe ⟨(i+1,(i+1),hi),hi1,best_step hf (by (first | (exact absurd (e29.symm.trans e50) dx) | simp only[bestF,e14,e26,e29,e50,e53,sb])),by first | exact hi1 | exact hlo,by first | exact hi1 | exact hhi⟩ (c5 Y Y Y Y Y trivial) (ai Y trivial) Y (by show s.lems.length - (i+1) < s.lems.length - i;omega)
     ·obtain⟨gb,vb⟩:=lem_at h e53 hlo;refine aa (c:=ari_pred (nz_pos e53) (by show lo≤_;omega)) ?_;refine ax (c:=(getmap (get_of gb))) ?_;refine ac (c:=r_cmp (vm.sm dx) (vb.sm dx) vm.ok vb.neg.ok ((vm.add vb.neg).sm dx)) ?_;refine a2 (fun e66=>?_) (fun e66=>?_)
      ·refine aa (c:=ari_succ (by show i+1≤_;omega)) ?_;refine au ?_;exact pe ⟨(i+1,(i+1),hi),hi1,best_step hf (by (first | (exact absurd (e29.symm.trans e50) dx) | simp only[bestF,e14,e26,e29,e50,e53,e66,sb])),by first | exact hi1 | exact hlo,by first | exact hi1 | exact hhi⟩ (c5 Y Y Y Y Y trivial) (ai Y trivial) Y (by show s.lems.length - (i+1) < s.lems.length - i;omega)
      ·refine aa (c:=ari_succ (by show i+1≤_;omega)) ?_;refine au ?_;exact pe ⟨(i+1,lo,hi),hi1,best_step hf (by (first | (exact absurd (e29.symm.trans e50) dx) | simp only[bestF,e14,e26,e29,e50,e53,e66,sb])),by first | exact hi1 | exact hlo,by first | exact hi1 | exact hhi⟩ (c5 Y Y Y Y Y trivial) (ai Y trivial) Y (by show s.lems.length - (i+1) < s.lems.length - i;omega)
    ·replace e50:=not_f e50;refine aa (c:=ari_succ (by show i+1≤_;omega)) ?_;refine au ?_;exact pe ⟨(i+1,lo,hi),hi1,best_step hf (by (first | (exact absurd (e29.symm.trans e50) dx) | simp only[bestF,e14,e26,e29,e50,sb])),by first | exact hi1 | exact hlo,by first | exact hi1 | exact hhi⟩ (c5 Y Y Y Y Y trivial) (ai Y trivial) Y (by show s.lems.length - (i+1) < s.lems.length - i;omega)
 ·have hj:s.lems.length≤i:=le_ge e14;exact ar (c:=by rw[best_end hf hi0 hj])
theorem r_atLeast {s:Sc} {a b:Nat} {v:Int} (h:s.Va a b) (h0:0≤v) (h9:v≤1000000):PCalls Tryz.prog TU 119 [scP s,iP v] (mmsP (atLeastR s v)):=by
 refine pcA [85] Tryz.func119 (fun D=>?_);refine a2 (fun e10=>?_) (fun e10=>?_)
 ·refine ac (c:=r_of 1 dx dx) ?_;exact ar (c:=by (try simp only[List.length_map] at *);simp only[atLeastR,e10,sb]<;>rfl)
 ·refine aa (c:=ari_sub om om om (by have:=h.n9;omega)) ?_;refine ac (c:=r_of 1 dx dx) ?_;exact ar (c:=by (try simp only[List.length_map] at *);simp only[atLeastR,e10,sb]<;>rfl)
theorem r_atMost {s:Sc} {a b:Nat} {v:Int} (h:s.Va a b) (h0:0≤v) (h9:v≤1000000):PCalls Tryz.prog TU 118 [scP s,iP v] (.tup [mmsP (atMostR s v).1,bP (atMostR s v).2]):=by
 refine pcA [85,35] Tryz.func118 (fun D=>?_);refine ac (c:=r_of 1 dx dx) ?_;refine a2 (fun e20=>?_) (fun e20=>?_)
 ·exact ar (c:=by (try simp only[List.length_map] at *);simp only[atMostR,e20,sb]<;>rfl)
 ·obtain⟨b1,b2⟩:=bestR_le s.lems (v - s.q.g.inputs);refine aa (c:=ari_sub om om om (by have:=h.n9;omega)) ?_;refine ac (c:=r_best h) ?_;refine a2 (fun e40=>?_) (fun e40=>?_)
  ·exact ar (c:=by (try simp only[List.length_map] at *);simp only[atMostR,e20,e40,sb]<;>rfl)
  ·refine a2 (fun e43=>?_) (fun e43=>?_)
   ·exact ar (c:=by (try simp only[List.length_map] at *);simp only[atMostR,e20,e40,e43,sb]<;>rfl)
   ·obtain⟨g1,l8⟩:=lem_at h e40 b1;obtain⟨g2,u8⟩:=lem_at h e43 b2;refine aa (c:=ari_pred (nz_pos e40) (by have:=h.l9;omega)) ?_;refine ax (c:=(getmap (get_of g1))) ?_;refine aa (c:=ari_pred (nz_pos e43) (by have:=h.l9;omega)) ?_;refine ax (c:=(getmap (get_of g2))) ?_;refine ac (c:=r_sign (u8.sm dx)) ?_;refine a2 (fun e58=>?_) (fun e58=>?_)
    ·exact ar (c:=by (try simp only[List.length_map] at *);simp only[atMostR,e20,e40,e43,e58,sb]<;>rfl)
    ·refine ac (c:=r_sign (l8.sm dx)) ?_;refine a2 (fun e68=>?_) (fun e68=>?_)
     ·exact ar (c:=by (try simp only[List.length_map] at *);simp only[atMostR,e20,e40,e43,e58,e68,sb]<;>rfl)
     ·have h00:=span_pos l8.ok (of_decide_eq_false e58) (of_decide_eq_false e68);have hd8:=sz_one.div (u8.add l8.neg) h00;refine ac (c:=r_sub (u8.sm dx) (l8.sm dx) u8.ok l8.neg.ok) ?_;refine ac (c:=r_div (x:=Q.one) (sz_one.sm dx) ((u8.add l8.neg).sm dx) h00) ?_;refine ac (c:=r_mul (hd8.sm dx) (u8.sm dx)) ?_;exact ar (c:=by (try simp only[List.length_map] at *);simp only[atMostR,e20,e40,e43,e58,e68,sb]<;>rfl)
theorem r_above {s:Sc} {f:Fm} {a b:Nat} (h:s.Va a b) (hf:f.S 3 8) (hv:∀t∈f.terms,0≤t.1∧t.1≤1000):PCalls Tryz.prog TF 64 [scP s,fmP f] (.tup [ratP (aboveR s f).1,mmsP (aboveR s f).2.1,bP (aboveR s f).2.2]):=by
 refine pcA [85,37,35,138] Tryz.func64 (fun D=>?_);refine pa Y Y (pa Y Y ?_)
 apply pcutP (sl:=[(2,_),(3,_),(4,_),(5,_),(6,_),(7,.pv (mmsP ((aboveGo s f.terms []).getD [])))]) (rs:=[(2,_),(3,_),(4,_)]) [85,37,35] (aboveGo s f.terms []=some ((aboveGo s f.terms []).getD []))
 case h1=>
  refine au ?_;refine pwk ?_;refine pl (ι:={p:Nat×List Mm // p.1≤f.terms.length∧aboveGo s (f.terms.drop p.1) p.2=aboveGo s f.terms []∧(∀x∈p.2,x.2.S (1+p.1*60))∧p.2.length≤p.1*2}) (fun p=>[(2,.box 2 0),(3,.box 3 0),(4,.box 4 0),(5,.pv (mmsP [])),(6,.pv (bP false)),(7,.pv (mmsP p.1.2)),(8,.pv (iP p.1.1))]) (fun p=>[(2,.box 85 [.pv (iP s.q.g.inputs),.pv (formsP s.q.g.units),.pv (formsP s.q.g.outputs),.pv (ratsP s.q.rg.lo),.pv (ratsP s.q.rg.hi),.pv (formsP s.q.rg.rows),.pv (termsP s.q.goal.terms),.pv (bP s.q.goal.const.neg),.pv (.nat s.q.goal.const.num),.pv (.nat s.q.goal.const.den),.pv (dcsP s.path),.pv (lmsP s.lems)]),(3,.box 37 [.pv (termsP f.terms),.pv (bP f.const.neg),.pv (.nat f.const.num),.pv (.nat f.const.den)]),(4,.box 35 [.pv (.raw (.bool false)),.pv (.nat 0),.pv (.nat 0)])]) [85,37,35,138] (fun p=>f.terms.length - p.1.1) ⟨(0,[]),nq _,rfl,(fun x hx=>by cases hx),nr _⟩ (c7 Y Y Y Y Y Y Y trivial) (c3 Y Y Y trivial) (fun _=>rfl) ?_;intro ⟨(i,acc),hi0,hg,hacc,hlen⟩;simp only at hi0 hg hacc hlen;refine a2 (fun e19=>?_) (fun e19=>?_)
  ·have hi:i < f.terms.length:=lt_of e19;have hl8:=hf.len;have ht:=hf.each _ (mg (get_of hi));have vt:=hv _ (mg (get_of hi));obtain⟨ms,ml⟩:=more_S h (atZ f.terms (i:Int));refine ax (c:=(getmap (get_of hi))) ?_;refine ac (c:=r_atMost h vt.1 om) ?_;refine ac (c:=r_sign (ht.sm dx)) ?_;refine a2 (fun e37=>?_) (fun e37=>?_)
   ·have hmo:moreR s (atZ f.terms (i:Int))=(atLeastR s (atZ f.terms (i:Int)).1,true):=by simp only[moreR,e37,cond_true]
    rw[hmo] at ms ml;simp only at ms ml;refine ac (c:=r_atLeast h vt.1 om) ?_;refine ac (c:=r_merge (n:=1+i*60) (m:=26) (k:=3) hacc ms ht.abs om dx dx om) ?_;refine aa (c:=ari_succ (by show i≤_;omega)) ?_;refine au ?_;obtain⟨k1,k2⟩:=merge_S ht.abs hacc ms;exact pe ⟨(i+1,mergeR (atZ f.terms (i:Int)).2.abs acc _),hi,above_step hi hg (hmo.trans (Prod.ext Y Y)),fun x hx=>(k1 x hx).up (by show _≤1+(i+1)*60;have:=Nat.mul_le_mul_right 30 ml;omega),nt k2 (by show _≤(i+1)*2;omega)⟩ (c7 Y Y Y Y Y Y Y trivial) (c3 Y Y Y trivial) Y (by show f.terms.length - (i+1) < f.terms.length - i;omega)
   ·have hmo:moreR s (atZ f.terms (i:Int))=atMostR s (atZ f.terms (i:Int)).1:=by simp only[moreR,e37,cond_false]
    rw[hmo] at ms ml;refine a2 (fun e43=>?_) (fun e43=>?_)
    ·replace e43:=not_t e43;exact ar (c:=by rw[above_none hi hg (by rw[hmo];exact e43)];rfl)
    ·replace e43:=not_f e43;refine ac (c:=r_merge (n:=1+i*60) (m:=26) (k:=3) hacc ms ht.abs om dx dx om) ?_;refine aa (c:=ari_succ (by show i≤_;omega)) ?_;refine au ?_;obtain⟨k1,k2⟩:=merge_S ht.abs hacc ms;exact pe ⟨(i+1,mergeR (atZ f.terms (i:Int)).2.abs acc _),hi,above_step hi hg (hmo.trans (Prod.ext Y e43)),fun x hx=>(k1 x hx).up (by show _≤1+(i+1)*60;have:=Nat.mul_le_mul_right 30 ml;omega),nt k2 (by show _≤(i+1)*2;omega)⟩ (c7 Y Y Y Y Y Y Y trivial) (c3 Y Y Y trivial) Y (by show f.terms.length - (i+1) < f.terms.length - i;omega)
  ·have hj:f.terms.length≤i:=ge_of e19;refine au ?_;refine⟨?_,by rw[above_end hg hj];rfl⟩;refine Sub.of ?_ ?_ ?_
   ·exact (c5 Y Y Y Y Y (ai (congrArg (fun x=>some (SV.pv (mmsP x))) (by show acc=_;rw[above_end hg hj];rfl)) trivial))
   ·exact (c3 Y Y Y trivial)
   ·rfl
 case h2=>
  intro hsome;have hL:=aboveGo_S h hf hsome;have hl8:=hf.len;have hKK:=Nat.mul_le_mul_right (41+481) hL.2;refine ac (c:=r_sum (n:=481) h hL.1 om dx om) ?_;refine ac (c:=r_fsub hf (sumR_S h hL.1) om om) ?_;exact ar (c:=by unfold aboveR;rw[hsome];rfl)
theorem r_bounded {s:Sc} {a b:Nat} (h:∀j,j≤s.q.g.units.length→(boundedN s j).Va a b) (hv:∀p∈s.q.g.units,∀t∈p.terms,0≤t.1∧t.1≤1000):PCalls Tryz.prog TF 26 [scP s] (scP (boundedR s)):=by
 have hs0:s.Va a b:=h 0 (nq _);have hu8:=hs0.n9;refine pcA [85,37,35,100] Tryz.func26 (fun D=>?_);refine au ?_;refine rp0 el_Lemma (by have:=(show s.lems.length≤1000 from hs0.l9);simp;omega) Y Y Y Y Y Y Y Y ?_;refine au ?_;refine pwk ?_;refine pl (ι:={p:Nat×List Lm // p.1≤s.q.g.units.length∧boundedN s p.1=⟨s.q,s.path,p.2⟩}) (fun p=>[(1,.box 1 0),(2,.box 2 0),(3,.box 3 0),(4,.pv (iP p.1.1))]) (fun p=>[(1,.box 85 [.pv (iP s.q.g.inputs),.pv (formsP s.q.g.units),.pv (formsP s.q.g.outputs),.pv (ratsP s.q.rg.lo),.pv (ratsP s.q.rg.hi),.pv (formsP s.q.rg.rows),.pv (termsP s.q.goal.terms),.pv (bP s.q.goal.const.neg),.pv (.nat s.q.goal.const.num),.pv (.nat s.q.goal.const.den),.pv (dcsP s.path),.pv (lmsP s.lems)]),(2,.box 85 [.pv (.raw (.int .i64 0)),.pv (formsP []),.pv (formsP []),.pv (ratsP []),.pv (ratsP []),.pv (formsP []),.pv (termsP []),.pv (.raw (.bool false)),.pv (.nat 0),.pv (.nat 0),.pv (dcsP []),.pv (lmsP [])]),(3,.box 85 [.pv (iP s.q.g.inputs),.pv (formsP s.q.g.units),.pv (formsP s.q.g.outputs),.pv (ratsP s.q.rg.lo),.pv (ratsP s.q.rg.hi),.pv (formsP s.q.rg.rows),.pv (termsP s.q.goal.terms),.pv (bP s.q.goal.const.neg),.pv (.nat s.q.goal.const.num),.pv (.nat s.q.goal.const.den),.pv (dcsP s.path),.tok 16]),(16,.tok 100 6 [200,98] (p.1.2.map lmC))]) [85,37,35,100] (fun p=>s.q.g.units.length - p.1.1) ⟨(0,s.lems),nq _,rfl⟩ (c4 Y Y Y Y trivial) (c4 Y Y Y Y trivial) (fun _=>rfl) ?_;intro ⟨(j,ls),hj0,hg⟩;simp only at hj0 hg;refine a2 (fun e27=>?_) (fun e27=>?_)
 ·have hj1:j < s.q.g.units.length:=lt_of e27;have hva:(⟨s.q,s.path,ls⟩:Sc).Va a b:=hg▸h j hj0;have hp:(atZ s.q.g.units (j:Int)).S 2 8:=(hs0.q.us _ (mg (get_of hj1))).up hs0.a9 hs0.n9;have hvv:=hv _ (mg (get_of hj1));have hw:=(aboveR_S hva (hp.scaleR sz_mone)).1;refine ax (c:=(getmap (get_of hj1))) ?_;refine ac (c:=r_above hva (hp.up dx (nr _)) hvv) ?_;refine ac (c:=r_of (-1) dx dx) ?_;refine ac (c:=r_fscale (q:=Q.mone) hp sz_mone dx dx dx) ?_;refine ac (c:=r_above hva (hp.scaleR sz_mone) (scale_vars hp.cn (P:=fun v=>0≤v∧v≤1000) hvv)) ?_;refine a2 (fun e53=>?_) (fun e53=>?_)
  ·refine au ?_;refine rp0 el_Lemma (by have:=(show ls.length≤1000 from hva.l9);simp;omega) Y Y Y Y Y Y Y Y ?_;refine a2 (fun e63=>?_) (fun e63=>?_)
   ·refine ac (c:=r_neg (hw.sm dx)) ?_;refine au ?_;refine rp0 el_Lemma (by have:=(show ls.length≤1000 from hva.l9);simp;omega) Y Y Y Y Y Y Y Y ?_;refine aa (c:=ari_succ (by show j≤_;omega)) ?_;refine au ?_;exact pe ⟨(j+1,addLm ls (j:Int) (aboveR ⟨s.q,s.path,ls⟩ (atZ s.q.g.units (j:Int))) (aboveR ⟨s.q,s.path,ls⟩ (Fm.scaleR (atZ s.q.g.units (j:Int)) Q.mone))),hj1,by rw[boundedN,hg];rfl⟩ (c4 Y Y Y Y trivial) (c3 Y Y Y (ai (congrArg (fun x=>some (Res.tok 100 6 [200,98] x)) (by show _=(addLm ls (j:Int) (aboveR ⟨s.q,s.path,ls⟩ (atZ s.q.g.units (j:Int))) (aboveR ⟨s.q,s.path,ls⟩ (Fm.scaleR (atZ s.q.g.units (j:Int)) Q.mone))).map lmC;simp only[addLm,e27,e53,e63,sb,List.map_append,List.map_cons,List.map_nil,List.append_nil,List.nil_append,List.append_assoc]<;>rfl)) trivial)) Y (by show s.q.g.units.length - (j+1) < s.q.g.units.length - j;omega)
   ·refine aa (c:=ari_succ (by show j≤_;omega)) ?_;refine au ?_;exact pe ⟨(j+1,addLm ls (j:Int) (aboveR ⟨s.q,s.path,ls⟩ (atZ s.q.g.units (j:Int))) (aboveR ⟨s.q,s.path,ls⟩ (Fm.scaleR (atZ s.q.g.units (j:Int)) Q.mone))),hj1,by rw[boundedN,hg];rfl⟩ (c4 Y Y Y Y trivial) (c3 Y Y Y (ai (congrArg (fun x=>some (Res.tok 100 6 [200,98] x)) (by show _=(addLm ls (j:Int) (aboveR ⟨s.q,s.path,ls⟩ (atZ s.q.g.units (j:Int))) (aboveR ⟨s.q,s.path,ls⟩ (Fm.scaleR (atZ s.q.g.units (j:Int)) Q.mone))).map lmC;simp only[addLm,e27,e53,e63,sb,List.map_append,List.map_cons,List.map_nil,List.append_nil,List.nil_append,List.append_assoc]<;>rfl)) trivial)) Y (by show s.q.g.units.length - (j+1) < s.q.g.units.length - j;omega)
  ·refine a2 (fun e63=>?_) (fun e63=>?_)
   ·refine ac (c:=r_neg (hw.sm dx)) ?_;refine au ?_;refine rp0 el_Lemma (by have:=(show ls.length≤1000 from hva.l9);simp;omega) Y Y Y Y Y Y Y Y ?_;refine aa (c:=ari_succ (by show j≤_;omega)) ?_;refine au ?_;exact pe ⟨(j+1,addLm ls (j:Int) (aboveR ⟨s.q,s.path,ls⟩ (atZ s.q.g.units (j:Int))) (aboveR ⟨s.q,s.path,ls⟩ (Fm.scaleR (atZ s.q.g.units (j:Int)) Q.mone))),hj1,by rw[boundedN,hg];rfl⟩ (c4 Y Y Y Y trivial) (c3 Y Y Y (ai (congrArg (fun x=>some (Res.tok 100 6 [200,98] x)) (by show _=(addLm ls (j:Int) (aboveR ⟨s.q,s.path,ls⟩ (atZ s.q.g.units (j:Int))) (aboveR ⟨s.q,s.path,ls⟩ (Fm.scaleR (atZ s.q.g.units (j:Int)) Q.mone))).map lmC;simp only[addLm,e27,e53,e63,sb,List.map_append,List.map_cons,List.map_nil,List.append_nil,List.nil_append,List.append_assoc]<;>rfl)) trivial)) Y (by show s.q.g.units.length - (j+1) < s.q.g.units.length - j;omega)
   ·refine aa (c:=ari_succ (by show j≤_;omega)) ?_;refine au ?_;exact pe ⟨(j+1,addLm ls (j:Int) (aboveR ⟨s.q,s.path,ls⟩ (atZ s.q.g.units (j:Int))) (aboveR ⟨s.q,s.path,ls⟩ (Fm.scaleR (atZ s.q.g.units (j:Int)) Q.mone))),hj1,by rw[boundedN,hg];rfl⟩ (c4 Y Y Y Y trivial) (c3 Y Y Y (ai (congrArg (fun x=>some (Res.tok 100 6 [200,98] x)) (by show _=(addLm ls (j:Int) (aboveR ⟨s.q,s.path,ls⟩ (atZ s.q.g.units (j:Int))) (aboveR ⟨s.q,s.path,ls⟩ (Fm.scaleR (atZ s.q.g.units (j:Int)) Q.mone))).map lmC;simp only[addLm,e27,e53,e63,sb,List.map_append,List.map_cons,List.map_nil,List.append_nil,List.nil_append,List.append_assoc]<;>rfl)) trivial)) Y (by show s.q.g.units.length - (j+1) < s.q.g.units.length - j;omega)
 ·have hjj:s.q.g.units.length≤j:=ge_of e27;exact ar (c:=by rw[show boundedR s=⟨s.q,s.path,ls⟩ from by unfold boundedR;rw[← hg,show s.q.g.units.length=j from by omega]];rfl)
inductive Nd where
 | mk (lems:List Lm) (split:Dc) (kids:List Nd) (empty:Bool) (proof:List Mm)
abbrev ndT:List Nat:=[100,98,200,46]
mutual
def ndC:Nd→List PV
 | .mk ls d ks e p=>[lmsP ls,iP d.kind,iP d.index,bP d.at_.neg,.nat d.at_.num,.nat d.at_.den,.rows 46 9 ndT (ndCs ks),bP e,mmsP p]
def ndCs:List Nd→List (List PV)
 | []=>[]
 | k::ks=>ndC k::ndCs ks
end
abbrev ndP (n:Nd):PV:=.agg (ndC n)
abbrev ndsP (l:List Nd):PV:=.rows 46 9 ndT (ndCs l)
theorem ndCs_map:∀(l:List Nd),ndCs l=l.map ndC
 | []=>by rw[ndCs];rfl
 | k::ks=>by rw[ndCs,ndCs_map ks];rfl
def Nd.lems:Nd→List Lm | .mk ls _ _ _ _=>ls
def Nd.split:Nd→Dc | .mk _ d _ _ _=>d
def Nd.kids:Nd→List Nd | .mk _ _ ks _ _=>ks
def Nd.empty:Nd→Bool | .mk _ _ _ e _=>e
def Nd.proof:Nd→List Mm | .mk _ _ _ _ p=>p
abbrev dc0:Dc:=⟨0,0,Q.zero⟩
abbrev scR (q:Qr) (rows:List (List PV)) (ls:List Lm):PV:=.agg [iP q.g.inputs,formsP q.g.units,formsP q.g.outputs,ratsP q.rg.lo,ratsP q.rg.hi,formsP q.rg.rows,termsP q.goal.terms,bP q.goal.const.neg,.nat q.goal.const.num,.nat q.goal.const.den,.rows 42 5 [200] rows,lmsP ls]
theorem scR_eq (q:Qr) (p:List Dc) (d:Dc) (ls:List Lm):scR q (p.map dcC++[dcC d]) ls=scP ⟨q,p++[d],ls⟩:=by
 show scR q (p.map dcC++[dcC d]) ls=scR q ((p++[d]).map dcC) ls;rw[List.map_append];rfl
def Sc.dec (s:Sc) (kind:Int) (k:Nat):Sc:=⟨s.q,s.path++[⟨kind,(k:Int),Q.zero⟩],s.lems⟩
def growR:Nat→Sc→Bool→Nd×Q
 | 0,s,root=>(.mk ((boundedR s).lems.drop (bif root then 0 else s.lems.length)) dc0 [] false (aboveR (boundedR s) s.q.goal).2.1,(aboveR (boundedR s) s.q.goal).1)
 | k+1,s,root=>(.mk (bif root then s.lems else []) ⟨1,(k:Int),Q.zero⟩ [(growR k (s.dec 1 k) false).1,(growR k (s.dec 2 k) false).1] false [],minR (growR k (s.dec 1 k) false).2 (growR k (s.dec 2 k) false).2)
def GrowOk (a b:Nat):Nat→Sc→Prop
 | 0,s=>∀j,j≤s.q.g.units.length→(boundedN s j).Va a b
 | k+1,s=>GrowOk a b k (s.dec 1 k)∧GrowOk a b k (s.dec 2 k)∧(growR k (s.dec 1 k) false).2.S 1000∧(growR k (s.dec 2 k) false).2.S 1000∧s.path.length≤100
theorem bounded_len (s:Sc):∀j,s.lems.length≤(boundedN s j).lems.length
 | 0=>nr _
 | j+1=>by
  show _≤(addLm _ _ _ _).length;unfold addLm;rw[List.length_append];exact nt (bounded_len s j) (Nat.le_add_right ..)
theorem bounded_q (s:Sc):∀j,(boundedN s j).q=s.q∧(boundedN s j).path=s.path
 | 0=>⟨rfl,rfl⟩
 | j+1=>bounded_q s j
def idxG {α:Type} (F:α→Bool):List α→Nat→Int
 | [],_=>-1
 | a::l,i=>bif F a then (i:Int) else idxG F l (i+1)
theorem idxG_any {α:Type} {F:α→Bool}:∀{l:List α} {i:Nat},decide (0≤idxG F l i)=l.any F
 | [],i=>rfl
 | a::l,i=>by
  rw[idxG,List.any_cons];cases F a with
  | true=>simp
  | false=>simp only[cond_false,Bool.false_or];exact idxG_any
theorem idxG_hit {α:Type} [Inhabited α] {F:α→Bool} {l:List α} {j:Nat} (h:idxG F (l.drop j) j=idxG F l 0) (hj:j < l.length) (hF:F (atZ l (j:Int))=true):(j:Int)=idxG F l 0:=by
 have e:l.drop j=atZ l (j:Int)::l.drop (j+1):=by rw[atZ_nat (ge hj),List.drop_eq_getElem_cons hj]
 rw[e,idxG,hF] at h;exact h
theorem idxG_step {α:Type} [Inhabited α] {F:α→Bool} {l:List α} {j:Nat} (h:idxG F (l.drop j) j=idxG F l 0) (hj:j < l.length) (hF:F (atZ l (j:Int))=false):idxG F (l.drop (j+1)) (j+1)=idxG F l 0:=by
 have e:l.drop j=atZ l (j:Int)::l.drop (j+1):=by rw[atZ_nat (ge hj),List.drop_eq_getElem_cons hj]
 rw[e,idxG,hF] at h;exact h
theorem idxG_end {α:Type} {F:α→Bool} {l:List α} {j:Nat} (h:idxG F (l.drop j) j=idxG F l 0) (hj:l.length≤j):(-1:Int)=idxG F l 0:=by
 rw[List.drop_of_length_le hj] at h;exact h
theorem limbs_zero_iff {n:Nat}:(((limbs n).length:Int) == 0)=decide (n=0):=by
 by_cases h:n=0
 ·subst h;rw[limbs_zero];rfl
 ·rw[df h];have:(limbs n).length≠0:=fun e=>h (limbs_len0.1 e)
  exact beq_eq_false_iff_ne.2 om
theorem zero_all {q:Q}:decide (q=Q.zero)=(!q.neg&&((((limbs q.num).length:Int) == 0)&&(((limbs q.den).length:Int) == 0))):=by
 obtain⟨n,a,d⟩:=q;simp only[limbs_zero_iff];cases n<;>by_cases h1:a=0<;>by_cases h2:d=0<;>simp[h1,h2]
theorem kne {k a b:Int} (h:(k == a)=true) (hab:(a == b)=false):(k == b)=false:=by
 have e:k=a:=eq_of_beq h;rw[e];exact hab
theorem sub_neg {x y:Q} (h:y.Ok):Q.sub x y=Q.add x y.neg':=by
 unfold Q.sub Q.neg';by_cases h0:y.num=0
 ·obtain rfl:=Q.zero_of h h0;rfl
 ·have hf:y.flip.Ok:=⟨h.one,h.cop,fun e=>absurd e h0⟩;rw[canonQ_ok hf]
abbrev usC (s:Sc) (r:Rw) (v p:Fm) (l u:Q×Bool):List PV:=scC s++(rwC r++(fmC v++(fmC p++(qC l.1++(qC u.1++[bP l.2,bP u.2])))))
theorem p_sgn {q:Q} (h:q.Sm):PCalls Tryz.prog [] 130 [ratP q] (iP (sgQ q)):=p_sign h
theorem p_qsub {x y:Q} {s t:Nat} (h:x.S s) (k:y.S t) (hs:s≤10000) (ht:t≤10000):PCalls Tryz.prog TU 282 [ratP x,ratP y] (ratP (Q.add x y.neg')):=by
 have:=p_sub (h.sm hs) (k.sm ht);rwa [sub_neg k.ok] at this
section
variable {C:Cx} {o:Oper} {st:St} {x:Operand} {k:IntKind} {m:Int}
theorem opE_rem {t t2:Nat} {y:Operand} {n:Int} (ho:o.op=.binOp .rem t x y t2) (hx:ev st x=some (.pv (.raw (.int k m)))) (hy:ev st y=some (.pv (.raw (.int k n)))) (hn:n≠0) (hd:∀d,o.dst=some d→d < C.N):OpE C st.tys o st (valE (.pv (.raw (.int k (m.tmod n)))) []):=by
 refine opE_bin ho hx hy (fun w=>?_) hd;simp[binOp,Op.intDiv,eqGuard,hn]
theorem opE_conv {s d:Nat} {j:IntKind} {ds:TypeDesc} (ho:o.op=.convert s d x) (hx:ev st x=some (.pv (.raw (.int k m)))) (hs:C.P.underlying s=some ds) (hu:C.P.underlying d=some (.int j)) (hd:∀d,o.dst=some d→d < C.N):OpE C st.tys o st (valE (.pv (.raw (.int j (j.wrap m)))) []):=by
 refine opE_val hd fun st1 ag a w B T hi=>?_
 rw[← ag.ev (by rw[ho];simp[Op.operands])] at hx;have h1:=(ev_rep hi hx).1;rw[SV.Rep,PV.Rep] at h1;refine⟨.int j (j.wrap m),?_,by rw[SV.Rep,PV.Rep],fun i hi=>by cases (show i∈([]:List Nat) from hi)⟩;simp[execOp,ho,h1,convert,run_underlying hs,run_underlying hu,Conv.intToInt]
theorem opE_min {c:Call} {y:Operand} {n:Int} (ho:o.op=.call c) (hc:c={ callee:=.builtin .min,args:=#[x,y],argTypes:=c.argTypes }) (hx:ev st x=some (.pv (.raw (.int k m)))) (hy:ev st y=some (.pv (.raw (.int k n)))) (hd:∀d,o.dst=some d→d < C.N):OpE C st.tys o st (valE (.pv (.raw (.int k (if n < m then n else m)))) []):=by
 refine opE_val hd fun st1 ag a w B T hi=>?_
 rw[hc] at ho;rw[← ag.ev (by rw[ho];simp[Op.operands,Call.operands])] at hx hy;have h1:=(ev_rep hi hx).1;have h2:=(ev_rep hi hy).1;rw[SV.Rep,PV.Rep] at h1 h2;refine⟨.int k (if n < m then n else m),?_,by rw[SV.Rep,PV.Rep],fun i hi=>by cases (show i∈([]:List Nat) from hi)⟩;unfold execOp;simp only[ho,resolve,invoke,builtin,Sem.run_bind,Sem.run_pure,Result.andThen_ok,List.map_toArray,List.map_cons,List.map_nil,h1,h2];simp[Builtin.min_,Builtin.min2]
end
section
variable {C:Cx} {st:St} {a:Act} {w w':World} {B:Nat→Nat} {T:Nat→Sv} {e k:Nat}
theorem inv_elt (h:InvB C st a w B T) {id:Nat} {ts:List Nat} {xs xs':List (List PV)} {us':List (List Value)} {rb:List Nat} {s:SV} (hr:st.res id=some (.tok e k ts xs)) (hb:w'.ownsRow 0 e k (T id).v (T id).n us'.flatten) (F:Fr (fun b=>(T id).v.ownBlock=some b) w w') (hs:PV.RepLL w (Own0 C st B T) xs' us') (hok:RowOk k ts xs') (hn:xs'.length=xs.length):
  Inv C (Eff.app ⟨s,some (id,.tok e k ts xs'),rb,false⟩ none st) a w':=by
 obtain⟨us0,o1,o2,o3,o4,o5,o6⟩:=h.inn id _ hr;have hres:∀j,(Eff.app ⟨s,some (id,.tok e k ts xs'),rb,false⟩ none st).res j=if j=id then some (.tok e k ts xs') else st.res j:=fun j=>by
  simp only[Eff.app];by_cases e:j=id
  ·rw[if_pos e,e,Nat.beq_refl];rfl
  ·rw[if_neg e,nbeq_ne e];rfl
 have hX:∀b,Own0 C (Eff.app ⟨s,some (id,.tok e k ts xs'),rb,false⟩ none st) B T b→Own0 C st B T b:=fun b hb=>by
  rcases hb with hb | ⟨i,r,hi,hb⟩
  ·exact .inl hb
  ·rw[hres] at hi;by_cases e:i=id
   ·rw[if_pos e] at hi;injection hi with hi;subst hi;exact .inr ⟨id,_,hr,by rw[← e];exact hb⟩
   ·rw[if_neg e] at hi;exact .inr ⟨i,r,hi,hb⟩
 have S:∀tq,Still w w' (Own0 C st B T) (Own0 C (Eff.app ⟨s,some (id,.tok e k ts xs'),rb,false⟩ none st) B T) tq:=fun ts'=>by
  refine⟨F.size,fun b cs t fr hx hh ht=>?_⟩;have hlt:b < w.heap.size:=by
   rcases Nat.lt_or_ge b w.heap.size with h | h
   ·exact h
   ·rw[Array.getElem?_eq_none h] at hh;cases hh
  exact⟨F.keep b hlt fun e=>hx (.inr ⟨id,_,hr,e⟩),fun hb=>hx (hX b hb)⟩
 have alive':∀j,(st.res j).isSome=true→((Eff.app ⟨s,some (id,.tok e k ts xs'),rb,false⟩ none st).res j).isSome=true:=fun j hj=>by
  rw[hres];split
  ·rfl
  ·exact hj
 have oth:∀i r b,st.res i=some r→i≠id→r.blk (B i) (T i)=some b→(T id).v.ownBlock≠some b:=fun i r b e hne hb he=>hne (h.apart i r id _ b e hr hb he)
 refine⟨B,T,h.size,h.dfr,h.gr.step F fun b _ e=>o6 b e,fun t s' e=>(h.slot t s' e).still (S _) fun _ _=>⟨rfl,rfl⟩,fun t s' e i hi=>alive' i (h.live t s' e i hi),fun i r e=>?_,fun i r e j hj=>?_,fun i r j q b hi hj h1 h2=>?_⟩
 ·rw[hres] at e;by_cases hi:i=id
  ·rw[if_pos hi] at e;injection e with e;subst e;rw[hi];exact⟨us',hb,PV.RepLL.still (ts:=ts) hs (S _) fun r hr c hc=>((hok r hr).2 c hc).2,hok,o4.trans hn.symm,o5,o6⟩
  ·rw[if_neg hi] at e;have hin:=h.inn i r e;cases r with
   | box ty' cells'=>
    obtain⟨h1,vs,h2,h3⟩:=hin;exact⟨h1,vs,F.bk h2 (oth i _ _ e hi rfl),h3.still (S _) fun _ _=>⟨rfl,rfl⟩⟩
   | tok e' k ts xs=>
    obtain⟨vs,h1,h2,h3,h4⟩:=hin;exact⟨vs,rw_keep h1 fun b hb=>F.keep b (rw_lt h1 b hb).2 (oth i _ b e hi hb),PV.RepLL.still (ts:=ts) h2 (S _) fun r hr c hc=>((h3 r hr).2 c hc).2,h3,h4⟩
 ·rw[hres] at e;by_cases hi:i=id
  ·rw[if_pos hi] at e;injection e with e;subst e;cases hj
  ·rw[if_neg hi] at e;exact alive' j (h.alive i r e j hj)
 ·have tr:∀i r,(Eff.app ⟨s,some (id,.tok e k ts xs'),rb,false⟩ none st).res i=some r→∃r',st.res i=some r'∧r'.blk (B i) (T i)=r.blk (B i) (T i):=fun i r e=>by
   rw[hres] at e;by_cases hi:i=id
   ·rw[if_pos hi] at e;injection e with e;subst e;exact⟨.tok e k ts xs,by rw[hi];exact hr,rfl⟩
   ·rw[if_neg hi] at e;exact⟨r,e,rfl⟩
  obtain⟨r',e1,e2⟩:=tr i r hi;obtain⟨q',e3,e4⟩:=tr j q hj;exact h.apart i r' j q' b e1 e3 (e2.trans h1) (e4.trans h2)
theorem flatten_set {α:Type} :∀{us:List (List α)} {i j:Nat} {u:List α} {v:α},(∀u∈us,u.length=k)→us[i]?=some u→j < k→us.flatten.set (i*k+j) v=(us.set i (u.set j v)).flatten
 | [],i,j,u,v,_,h,_=>by simp at h
 | x::us,0,j,u,v,hk,h,hj=>by
  simp at h;subst h;rw[List.flatten_cons,Nat.zero_mul,Nat.zero_add,List.set_append_left _ _ (by rw[hk x (mf ..)];exact hj),List.set_cons_zero,List.flatten_cons]
 | x::us,i+1,j,u,v,hk,h,hj=>by
  simp at h;have hv:=hk x (mf ..);rw[List.flatten_cons,List.set_append_right _ _ (by rw[hv,Nat.add_mul];omega),hv,show (i+1)*k+j - k=i*k+j from by rw[Nat.add_mul];omega,List.set_cons_succ,List.flatten_cons,flatten_set (fun u hu=>hk u (List.mem_cons_of_mem _ hu)) h hj]
theorem PV.RepLL.set {X:Nat→Prop}:∀{xs:List (List PV)} {us:List (List Value)} {i:Nat} {r:List PV} {u:List Value},PV.RepLL w X xs us→PV.RepL w X r u→PV.RepLL w X (xs.set i r) (us.set i u)
 | [],us,i,r,u,h,k=>by rw[PV.RepLL] at h;subst h;simp[PV.RepLL]
 | d::xs,us,0,r,u,h,k=>by
  rw[PV.RepLL] at h;obtain⟨v,us',rfl,h1,h2⟩:=h;exact PV.RepLL.cons k h2
 | d::xs,us,i+1,r,u,h,k=>by
  rw[PV.RepLL] at h;obtain⟨v,us',rfl,h1,h2⟩:=h;exact PV.RepLL.cons h1 (PV.RepLL.set h2 k)
theorem ownsRow_setF {n g c p:Nat} {us:List Value} {x:Value} (h:w.ownsRow 0 e k (.slice (some ⟨g,0,none⟩) n c) n us) (hp:p < us.length):(w.setCell ⟨g,p,none⟩ x).ownsRow 0 e k (.slice (some ⟨g,0,none⟩) n c) n (us.set p x):=by
 obtain⟨hl,h0 | ⟨g',cap,cur,hv,hb,hh,h1,h2,h3,ht⟩⟩:=h
 ·cases h0.1
 ·injection hv with hv hvn hvc;injection hv with hv;injection hv with hv;subst hv;subst hvc;refine⟨by rw[List.length_set];exact hl,.inr ⟨g,c,_,rfl,hb,Bk.put hh _ x,h1,h2,by simpa using h3,?_⟩⟩;rw[Array.toList_setIfInBounds,List.take_set,ht]
theorem tok_at (h:InvB C st a w B T) {id:Nat} {ts:List Nat} {xs:List (List PV)} (hr:st.res id=some (.tok e k ts xs)) {i j:Nat} {r:List PV} {p:PV} (hi:xs[i]?=some r) (hj:r[j]?=some p):
  ∃g c us u v,T id=⟨some ⟨g,0,none⟩,xs.length,c⟩∧w.ownsRow 0 e k (.slice (some ⟨g,0,none⟩) xs.length c) xs.length us.flatten∧PV.RepLL w (Own0 C st B T) xs us∧us[i]?=some u∧PV.RepL w (Own0 C st B T) r u∧u[j]?=some v∧p.Rep w (Own0 C st B T) v∧i*k+j < us.flatten.length∧us.flatten[i*k+j]?=some v∧w.cell? ⟨g,i*k+j,none⟩=some v∧w.frozen? ⟨g,i*k+j,none⟩=false∧RowOk k ts xs∧j < k∧(∀u∈us,u.length=k):=by
 obtain⟨us,o1,o2,o3,o4,o5,o6⟩:=h.inn id _ hr;obtain⟨u,hu1,hu2⟩:=o2.at hi;obtain⟨v,hv1,hv2⟩:=hu2.at hj;have hrows:=o2.rows fun r hr=>(o3 r hr).1
 have hjk:j < k:=by
  have:=(gs hj).1;rw[(o3 r (mg hi)).1] at this;exact this
 have hf:us.flatten[i*k+j]?=some v:=by rw[flatten_at hrows hu1 hjk,hv1]
 have hlt:=(gs hf).1;obtain⟨hl,h0 | ⟨g,cap,cur,hv,hb,hh,h1,h2,h3,ht⟩⟩:=o1
 ·have:=(gs hi).1;omega
 ·have hTe:T id=⟨some ⟨g,0,none⟩,xs.length,cap⟩:=by
   cases hT:T id with
   | mk A n c=>
    rw[hT] at hv o4;injection hv with e1 e2 e3;simp only at o4;simp only at e1 e3;rw[e1,e3,o4]
  have hbk:Bk w g e cur:=hh;have hc:w.cell? ⟨g,i*k+j,none⟩=some v:=by
   have h5:=hbk.cell (i*k+j);rw[h5,← Array.getElem?_toList];have h6:(cur.toList.take ((T id).n*k))[i*k+j]?=some v:=by rw[ht];exact hf
   rw[List.getElem?_take] at h6;split at h6
   ·exact h6
   ·cases h6
  refine⟨g,cap,us,u,v,hTe,⟨by rw[hl,o4],.inr ⟨g,cap,cur,rfl,hb,hh,by rw[← o4];exact h1,h2,h3,by rw[← o4];exact ht⟩⟩,o2,hu1,hu2,hv1,hv2,hlt,hf,hc,hbk.frozen _,o3,hjk,hrows⟩
end
section
variable {C:Cx} {tys:List Nat} {o:Oper} {st:St} {tab:Tab} {t id e k i:Nat} {x y:Operand} {l:Lay} {ts:List Nat} {xs:List (List PV)} {r:List PV}
theorem opE_idxE (hT:TblOk C.P tab) {kd:IntKind} {z:Int} (ho:o.op=.indexAddr t x y) (hl:tab.get t=some l) (hx:ev st x=some (.tok id)) (hre:st.res id=some (.tok e k ts xs)) (hy:ev st y=some (.pv (.raw (.int kd z)))) (hk:l.esz=k) (hk0:0 < k) (hz:z=(i:Int)) (hr:xs[i]?=some r) (hd:∀d,o.dst=some d→d < C.N):OpE C st.tys o st (valE (.elt id (i*k)) [id]):=by
 subst hk;obtain⟨hu,hsz⟩:=(Tab.get_ok hT hl).elem (Nat.ne_of_gt hk0);refine opE_val hd fun st1 ag a w B T hi=>?_
 rw[← ag.ev (by rw[ho];simp[Op.operands])] at hx hy;rw[← ag.2 id (List.mem_append_left _ (List.mem_singleton.2 rfl))] at hre;have h1:=(ev_rep hi hx).1;have h2:=(ev_rep hi hy).1;rw[SV.Rep] at h1;rw[SV.Rep,PV.Rep] at h2;have hil:i < xs.length:=(gs hr).1;obtain⟨us,o1,o2,o3,o4,o5,o6⟩:=hi.inn id _ hre;obtain⟨hl2,h0 | ⟨g,cap,cur,hv,hb,hh,h3,h4,h5,ht⟩⟩:=o1
 ·omega
 ·refine⟨.pointer (some ((⟨g,0,none⟩:Addr).add (i*l.esz))),?_,by rw[SV.Rep];exact⟨g,(by injection hv),by rw[add_mk,Nat.zero_add]⟩,fun j hj=>by rw[SV.ids,List.mem_singleton] at hj;rw[hj,hre];rfl⟩;have hlt:(i:Int) < ((T id).n:Int):=by omega
  rw[hv] at h1;simp[execOp,ho,h1,h2,hz,Instr.indexAt,asIntOf,run_underlying hu,hlt,rsize hsz];intro h;omega
theorem opE_loadE (hT:TblOk C.P tab) {j off:Nat} {p:PV} (ho:o.op=.load t x) (hl:tab.get t=some l) (hag:l.agg=false) (hx:ev st x=some (.elt id off)) (hre:st.res id=some (.tok e k ts xs)) (hoff:off=i*k+j) (hr:xs[i]?=some r) (hp:r[j]?=some p) (hd:∀d,o.dst=some d→d < C.N):OpE C st.tys o st (valE (.pv p) [id]):=by
 subst hoff;have lk:=Tab.get_ok hT hl;obtain⟨d,hu,hdr⟩:=lk.agg;refine opE_val hd fun st1 ag a w B T hi=>?_
 rw[← ag.ev (by rw[ho];simp[Op.operands])] at hx;rw[← ag.2 id (List.mem_append_left _ (List.mem_singleton.2 rfl))] at hre;have h1:=(ev_rep hi hx).1;rw[SV.Rep] at h1;obtain⟨g',hg',h1⟩:=h1;obtain⟨g,c,us,u,v,hTe,_,_,_,_,_,hv2,_,_,hc,_⟩:=tok_at hi hre hr hp;have:g'=g:=by rw[hTe] at hg';injection hg' with hg';injection hg' with hg';exact hg'.symm
 subst this;refine⟨v,?_,by rw[SV.Rep];exact hv2,fun i hi=>by cases (show i∈([]:List Nat) from hi)⟩;simp only[execOp,ho,h1,Instr.loadAt,Instr.sureAddr,Sem.run_bind,Sem.run_pure,Result.andThen_ok];have:=rloadVar1 (P:=C.P) (w:=w) hu (hdr.trans hag) hc;simp only[this,Result.andThen_ok]
theorem opE_storeE (hT:TblOk C.P tab) {j off:Nat} {p q:PV} (ho:o.op=.store t x y) (hl:tab.get t=some l) (hag:l.agg=false) (hx:ev st x=some (.elt id off)) (hy:ev st y=some (.pv p)) (hre:st.res id=some (.tok e k ts xs)) (hoff:off=i*k+j) (hr:xs[i]?=some r) (hp:r[j]?=some q) (hcl:p.cell=true) (hts:p.ty.all (fun t=>ts.contains t)=true) (he:st.tys.contains e=true) (hdn:o.dst=none):OpE C st.tys o st ⟨.any,some (id,.tok e k ts (xs.set i (r.set j p))),[id],false⟩:=by
 subst hoff;have lk:=Tab.get_ok hT hl;refine⟨fun i r e=>by injection e with e;injection e with e1 e2;subst e1 e2;exact⟨mf ..,List.contains_iff_mem.1 he⟩,fun st1 h1 h2 _ a w ⟨B,T,hi⟩=>?_⟩;have ag:Agree o [id] st st1:=⟨h1,h2⟩;rw[← h2 id (mf ..)] at hre;rw[← ag.ev (by rw[ho];simp[Op.operands])] at hx hy;have x1:=(ev_rep hi hx).1;have y1:=(ev_rep hi hy).1;rw[SV.Rep] at x1;rw[SV.Rep] at y1;obtain⟨g',hg',x1⟩:=x1;obtain⟨g,c,us,u,v,hTe,hown,hrep,hu1,hu2,hv1,hv2,hlt,hf,hc,hfz,hok,hjk,hrows⟩:=tok_at hi hre hr hp;have:g'=g:=by rw[hTe] at hg';injection hg' with hg';injection hg' with hg';exact hg'.symm
 subst this;have h1c:=PV.cell_one y1 hcl;have hsz:¬(a.eval y).cells.size≠l.zero.length:=by rw[one_cells h1c,lk.one hag];simp
 have hst:(storeCells ⟨g',i*k+j,none⟩ [a.eval y] 0).run C.P w=.ok () (w.setCell ⟨g',i*k+j,none⟩ (a.eval y)):=by
  have h3:((⟨g',i*k+j,none⟩:Addr).add 0)=⟨g',i*k+j,none⟩:=add_zero _;simp only[storeCells,Sem.run_bind,h3,run_store C.P w _ (a.eval y) .plain h1c,hc,hfz,Bool.false_eq_true,if_false,Result.andThen_ok];rfl
 have run:(execOp a.eval o).run C.P w=.ok .skip (w.setCell ⟨g',i*k+j,none⟩ (a.eval y)):=by
  simp only[execOp,ho,x1,Instr.storeAt,Instr.sureAddr,Sem.run_bind,Sem.run_pure,Result.andThen_ok,storeVar,rsize lk.size,if_neg hsz];rw[one_cells h1c];simp[hst]
 unfold doesAt;rw[run,hdn];refine inv_elt hi hre (us':=us.set i (u.set j (a.eval y))) ?_ ?_ (hrep.set (hu2.set y1)) (fun r' hr'=>?_) (by rw[List.length_set])
 ·rw[hTe,← flatten_set hrows hu1 hjk];exact ownsRow_setF hown hlt
 ·exact Fr.set w _ _ (by rw[hTe];rfl)
 ·rcases List.mem_or_eq_of_mem_set hr' with h3 | h3
  ·exact hok r' h3
  ·subst h3;have h4:=hok r (mg hr);refine⟨by rw[List.length_set];exact h4.1,fun c hc2=>?_⟩;rcases List.mem_or_eq_of_mem_set hc2 with h5 | h5
   ·exact h4.2 c h5
   ·subst h5;exact⟨hcl,fun t ht=>List.contains_iff_mem.1 (List.all_eq_true.1 hts t ht)⟩
theorem opE_make (hT:TblOk C.P tab) {le:Lay} {n:Nat} {kd kc:IntKind} {zm zc:Int} (ho:o.op=.makeSlice t x y) (hl:tab.get t=some l) (hk0:Nat.blt 0 l.esz=true) (hle:tab.get l.elem=some le) (hlz:Nat.beq le.zero.length l.esz=true) (hi:∃i z,C.P.info? l.elem=some i∧i.zero=some z∧i.size=l.esz∧i.bytes≤1000) (hx:ev st x=some (.pv (.raw (.int kd zm)))) (hy:ev st y=some (.pv (.raw (.int kc zc)))) (hzm:zm=(n:Int)) (hzc:zc=(n:Int)) (hn:n*l.esz≤1000000) (hre:st.res id=none) (hok:RowOk l.esz l.ets [le.zero.map Zk.pv]) (he:st.tys.contains l.elem=true) (hd:∀d,o.dst=some d→d < C.N):OpE C st.tys o st ⟨.tok id,some (id,.tok l.elem l.esz l.ets (List.replicate n (le.zero.map Zk.pv))),[id],true⟩:=by
 have hk0:0 < l.esz:=Nat.le_of_ble_eq_true hk0;have hlz:=Nat.eq_of_beq_eq_true hlz;obtain⟨hu,hsz⟩:=(Tab.get_ok hT hl).elem (Nat.ne_of_gt hk0);have lke:=Tab.get_ok hT hle;obtain⟨i,z,i1,i2,i3,i4⟩:=hi;have hn1:n≤1000000:=nt (Nat.le_mul_of_pos_right n hk0) hn;refine⟨fun i r e=>by injection e with e;injection e with e1 e2;subst e1 e2;exact⟨List.mem_singleton.2 rfl,List.contains_iff_mem.1 he⟩,fun st1 h1 h2 _ a w ⟨B,T,hi⟩=>?_⟩;have ag:Agree o [id] st st1:=⟨h1,h2⟩;rw[← h2 id (List.mem_singleton.2 rfl)] at hre;rw[← ag.ev (by rw[ho];simp[Op.operands])] at hx hy;have x1:=(ev_rep hi hx).1;have y1:=(ev_rep hi hy).1;rw[SV.Rep,PV.Rep] at x1 y1;obtain⟨w',r1,r2,r3⟩:=run_makeSlice_full (P:=C.P) w 0 t l.elem i z l.esz hu i1 i2 i3 kd kc n om (by
  have:=Nat.mul_le_mul i4 hn1;omega) (by unfold maxLen;omega) (nq _)
 have run:(execOp a.eval o).run C.P w=.ok (.value (.slice (some ⟨w.heap.size,0,none⟩) n n)) w':=by
  simp only[execOp,ho,x1,y1,hzm,hzc,Sem.run_bind,r1,Result.andThen_ok];rfl
 have hzc2:z.cells=(le.zero.map Zk.val).toArray:=by
  have h3:=lke.zero;rw[i1] at h3;have h4:i.zero=some _:=h3;rw[i2] at h4;injection h4 with h4;rw[h4];cases hag:le.agg with
  | true=>rfl
  | false=>
   have:=lke.one hag;obtain⟨z1,hz1⟩:=List.length_eq_one_iff.1 this;rw[hz1];exact one_cells (lke.cel z1 (by rw[hz1];exact List.mem_singleton.2 rfl))
 have hflat:∀n:Nat,(madeCells z.cells (n*l.esz)).toList=(List.replicate n (le.zero.map Zk.val)).flatten:=fun n=>made_flat hzc2 (by rw[List.length_map];exact hlz) n
 refine doesAt_value run ?_;refine inv_tok (y:=⟨some ⟨w.heap.size,0,none⟩,n,n⟩) (us:=List.replicate n (le.zero.map Zk.val)) (own:=none) hi (fun r hr=>by rw[hre] at hr;cases hr) (fun _=>rfl) r3 (by rw[← hflat];exact r2) (.inr (.inl rfl)) ?_ (fun r hr=>?_) (by simp) hk0 hd
 ·have hz0:PV.RepL w (Own0 C st1 B T) (le.zero.map Zk.pv) (le.zero.map Zk.val):=zkL_rep le.zero;exact repR hz0 n
 ·have:=List.eq_of_mem_replicate hr;subst this;exact hok _ (List.mem_singleton.2 rfl)
where
 repR {w:World} {X:Nat→Prop} {r:List PV} {u:List Value} (h:PV.RepL w X r u):∀n:Nat,PV.RepLL w X (List.replicate n r) (List.replicate n u)
  | 0=>PV.RepLL.nil
  | n+1=>by rw[List.replicate_succ,List.replicate_succ];exact PV.RepLL.cons h (repR h n)
 zkL_rep {w:World} {X:Nat→Prop}:∀zs:List Zk,PV.RepL w X (zs.map Zk.pv) (zs.map Zk.val)
  | []=>PV.RepL.nil
  | z::zs=>PV.RepL.cons (by
    cases z with
    | raw v=>rw[Zk.pv,PV.Rep];rfl
    | nat=>rw[Zk.pv,PV.Rep];exact⟨Sv.none,rfl,by rw[limbs_zero];exact Sv.Num.none w,fun ad h=>by cases h⟩
    | rows e k ts=>rw[Zk.pv,PV.Rep];exact⟨Sv.none,[],rfl,rfl,Sv.Is.none w k,(fun ad h=>by cases h),(fun ad h=>by cases h),by rw[PV.RepLL],fun r hr=>by cases hr⟩) (zkL_rep zs)
 made_flat {zs:Array Value} {us:List Value} {k:Nat} (hz:zs=us.toArray) (hk:us.length=k) (n:Nat):(madeCells zs (n*k)).toList=(List.replicate n us).flatten:=by
  subst hz hk
  apply List.ext_getElem?
  intro j;rcases Nat.lt_or_ge j (n*us.length) with h | h
  ·have hu0:0 < us.length:=by rcases Nat.eq_zero_or_pos us.length with e | e;(rw[e,Nat.mul_zero] at h;omega);exact e
   have hd:j / us.length < n:=(Nat.div_lt_iff_lt_mul hu0).2 h;have hm:j % us.length < us.length:=Nat.mod_lt _ hu0;have hj:j=j / us.length*us.length+j % us.length:=by rw[Nat.mul_comm];exact (Nat.div_add_mod ..).symm
   have h2:(List.replicate n us).flatten[j]?=us[j % us.length]?:=by
    conv=>lhs;rw[hj]
    exact flatten_at (fun u hu=>by rw[List.eq_of_mem_replicate hu]) (by rw[List.getElem?_replicate,if_pos hd]) hm
   rw[h2];simp[madeCells,h];rw[ge hm];rfl
  ·rw[List.getElem?_eq_none (by simp[madeCells];exact h),List.getElem?_eq_none (by simp;exact h)]
end
def OwnZ (X:Nat→Prop) (rs:List (Nat×Res)) (B:Nat→Nat) (T:Nat→Sv) (b:Nat):Prop:=X b∨∃i r,lookL rs i=some r∧r.blk (B i) (T i)=some b
def LentR (rs:List (Nat×Res)) (B:Nat→Nat) (T:Nat→Sv) (b:Nat):Prop:=∃i r,lookL rs i=some r∧r.blk (B i) (T i)=some b
structure MPre (w:World) (X:Nat→Prop) (B:Nat→Nat) (T:Nat→Sv) (rs:List (Nat×Res)):Prop where
 inn:∀i r,lookL rs i=some r→r.In (fun _=>True) w (OwnZ X rs B T) B T i
 alive:∀i r,lookL rs i=some r→∀j∈r.ids,(lookL rs j).isSome=true
 apart:∀i r j q b,lookL rs i=some r→lookL rs j=some q→r.blk (B i) (T i)=some b→q.blk (B j) (T j)=some b→i=j
def oppK (k:Int):Int:=bif k == 1 then 2 else bif k == 2 then 1 else bif k == 3 then 4 else bif k == 4 then 3 else 0
def LaidG (w:World):Prop:=(∃zs fr,w.heap[0]?=some (.cells zs 224 fr))∧∀i:Nat,i < 5→w.cell? ⟨0,i,none⟩=some (.int .i64 (oppK (i:Int)))
theorem LaidG.lt {w:World} (h:LaidG w):0 < w.heap.size:=by
 have:=h.2 0 dx;rcases Nat.eq_zero_or_pos w.heap.size with e | e
 ·exfalso
  have h0:w.heap[0]?=none:=Array.getElem?_eq_none om;simp[World.cell?,h0] at this
 ·exact e
theorem LaidG.keep {w w':World} (h:LaidG w) (hk:w'.heap[0]?=w.heap[0]?):LaidG w':=⟨by obtain⟨zs,fr,e⟩:=h.1;exact⟨zs,fr,hk.trans e⟩,fun i hi=>(World.cell?_of_block hk).trans (h.2 i hi)⟩
theorem LaidG.cx {C:Cx} {B:Nat→Nat} {w:World} (h:LaidG C.w0) (hM:¬C.M 0) (g:GrC C B w):LaidG w:=h.keep (g.fr.keep 0 h.lt hM)
theorem LaidG.lo {C:Cx} (h:LaidG C.w0) (hM:¬C.M 0):¬C.lo 0:=fun hl=>hl.elim (fun g=>by have:=h.lt;omega) hM
def MCalls (P:Program) (Tg:List Nat) (f:FuncId) (args:List SV) (rs rs':List (Nat×Res)) (res:PV):Prop:=callB P f=true∧
 ∀(w:World) (X:Nat→Prop) (B:Nat→Nat) (T:Nat→Sv) (us:List Value),(∀b,X b→b < w.heap.size)→(∀b cs t fr,X b→w.heap[b]?=some (.cells cs t fr)→t ∉ Tg)→(∀b,X b→¬LentR rs B T b)→LaidG w→¬LentR rs B T 0→MPre w X B T rs→SV.RepL w (OwnZ X rs B T) B T args us→(∀i∈SV.idsL args,(lookL rs i).isSome=true)→
  Calls P f us.toArray w fun e w'=>∃v T',e=.returned v∧res.Rep w' X v∧MPre w' X B T' rs'∧Fr (LentR rs B T) w w'∧∀b,LentR rs' B T' b→LentR rs B T b∨w.heap.size≤b
theorem Res.In.wide {lo lo':Nat→Prop} {w:World} {X X':Nat→Prop} {B:Nat→Nat} {T:Nat→Sv} {i:Nat} {r:Res} (h:r.In lo w X B T i) (hl:∀b,r.blk (B i) (T i)=some b→lo b→lo' b) (hX:∀b,X' b→X b):r.In lo' w X' B T i:=by
 have S:∀ts,Still w w X X' ts:=fun ts=>⟨nr _,fun b cs t fr hx hh ht=>⟨rfl,fun hb=>hx (hX b hb)⟩⟩
 cases r with
 | box ty cells=>
  obtain⟨h1,us,h2,h3⟩:=h;exact⟨hl _ rfl h1,us,h2,h3.still (S _) fun _ _=>⟨rfl,rfl⟩⟩
 | tok e k ts xs=>
  obtain⟨us,h1,h2,h3,h4,h5,h6⟩:=h;exact⟨us,h1,PV.RepLL.still (ts:=ts) h2 (S _) fun r hr c hc=>((h3 r hr).2 c hc).2,h3,h4,h5,fun b hb=>hl b hb (h6 b hb)⟩
theorem Res.In.reB {lo:Nat→Prop} {w:World} {X:Nat→Prop} {B B':Nat→Nat} {T T':Nat→Sv} {i:Nat} {r:Res} (h:r.In lo w X B T i) (hB:B' i=B i) (hT:T' i=T i) (hs:∀j∈r.ids,B' j=B j∧T' j=T j):r.In lo w X B' T' i:=by
 have S:∀ts,Still w w X X ts:=fun ts=>⟨nr _,fun b cs t fr hx hh ht=>⟨rfl,hx⟩⟩
 cases r with
 | box ty cells=>
  obtain⟨h1,us,h2,h3⟩:=h;exact⟨by rw[hB];exact h1,us,by rw[hB];exact h2,h3.still (S _) hs⟩
 | tok e k ts xs=>
  obtain⟨us,h1,h2,h3,h4,h5,h6⟩:=h;exact⟨us,by rw[hT];exact h1,h2,h3,by rw[hT];exact h4,h5,by rw[hT];exact h6⟩
theorem Res.In.lo {lo:Nat→Prop} {w:World} {X:Nat→Prop} {B:Nat→Nat} {T:Nat→Sv} {i:Nat} {r:Res} (h:r.In lo w X B T i) {b:Nat} (hb:r.blk (B i) (T i)=some b):lo b∧b < w.heap.size:=by
 cases r with
 | box ty cells=>
  obtain⟨h1,us,h2,_⟩:=h;simp only[Res.blk,oq] at hb;rw[← hb];exact⟨h1,h2.lt⟩
 | tok e k ts xs=>
  obtain⟨us,h1,_,_,_,_,h6⟩:=h;exact⟨h6 b hb,(rw_lt h1 b hb).2⟩
theorem Res.In.typ {lo:Nat→Prop} {w:World} {X:Nat→Prop} {B:Nat→Nat} {T:Nat→Sv} {i:Nat} {r:Res} (h:r.In lo w X B T i) {b:Nat} (hb:r.blk (B i) (T i)=some b) {cs:Array Value} {t:Nat} {fr:Nat×Nat} (hh:w.heap[b]?=some (.cells cs t fr)):t=r.typ:=by
 cases r with
 | box ty cells=>
  obtain⟨h1,us,h2,_⟩:=h;simp only[Res.blk,oq] at hb;rw[← hb,h2] at hh;injection hh with hh;injection hh with _ hh _;exact hh.symm
 | tok e k ts xs=>
  obtain⟨us,h1,_⟩:=h;obtain⟨cur,h2⟩:=rw_bk h1 b hb;rw[h2] at hh;injection hh with hh;injection hh with _ hh _;exact hh.symm
mutual
def SV.tids:SV→List Nat
 | .tok i=>[i]
 | .elt i _=>[i]
 | .agg cs=>SV.tidsL cs
 | .tup cs=>SV.tidsL cs
 | .fn _ cs=>SV.tidsL cs
 | _=>[]
def SV.tidsL:List SV→List Nat
 | []=>[]
 | c::cs=>SV.tids c++SV.tidsL cs
end
mutual
theorem SV.Rep.reT {w:World} {X:Nat→Prop} {B:Nat→Nat} {T T':Nat→Sv}:∀{s:SV} {v:Value},SV.Rep w X B T s v→(∀i∈s.tids,T' i=T i)→SV.Rep w X B T' s v
 | .pv p,v,h,_=>by rw[SV.Rep] at h ⊢;exact h
 | .any,v,h,_=>by rw[SV.Rep];trivial
 | .emp,v,h,_=>by rw[SV.Rep] at h ⊢;exact h
 | .nil _ _ _,v,h,_=>by rw[SV.Rep] at h ⊢;exact h
 | .tok i,v,h,k=>by
  rw[SV.Rep] at h ⊢;rw[k i (by rw[SV.tids];exact List.mem_singleton.2 rfl)];exact h
 | .box i off,v,h,_=>by rw[SV.Rep] at h ⊢;exact h
 | .elt i off,v,h,k=>by
  rw[SV.Rep] at h ⊢;rw[k i (by rw[SV.tids];exact List.mem_singleton.2 rfl)];exact h
 | .ref e cs,v,h,_=>by rw[SV.Rep] at h ⊢;exact h
 | .agg cs,v,h,k=>by
  rw[SV.Rep] at h ⊢;obtain⟨us,rfl,h1⟩:=h;exact⟨us,rfl,SV.RepL.reT h1 (by rwa [SV.tids] at k)⟩
 | .tup cs,v,h,k=>by
  rw[SV.Rep] at h ⊢;obtain⟨us,rfl,h1⟩:=h;exact⟨us,rfl,SV.RepL.reT h1 (by rwa [SV.tids] at k)⟩
 | .fn f cs,v,h,k=>by
  rw[SV.Rep] at h ⊢;obtain⟨us,rfl,h1⟩:=h;exact⟨us,rfl,SV.RepL.reT h1 (by rwa [SV.tids] at k)⟩
theorem SV.RepL.reT {w:World} {X:Nat→Prop} {B:Nat→Nat} {T T':Nat→Sv}:∀{cs:List SV} {us:List Value},SV.RepL w X B T cs us→(∀i∈SV.tidsL cs,T' i=T i)→SV.RepL w X B T' cs us
 | [],us,h,_=>by rw[SV.RepL] at h ⊢;exact h
 | c::cs,us,h,k=>by
  rw[SV.RepL] at h ⊢;obtain⟨u,us',rfl,h1,h2⟩:=h;rw[SV.tidsL] at k;exact⟨u,us',rfl,SV.Rep.reT h1 (fun i hi=>k i (List.mem_append_left _ hi)),SV.RepL.reT h2 (fun i hi=>k i (List.mem_append_right _ hi))⟩
end
def Res.tids:Res→List Nat
 | .box _ cs=>SV.tidsL cs
 | .tok ..=>[]
theorem lookL_app {α:Type}:∀{l m:List (Nat×α)} {t:Nat},lookL (l++m) t=(match lookL l t with
  | some v=>some v
  | none=>lookL m t)
 | [],m,t=>rfl
 | (i,x)::l,m,t=>by
  rw[List.cons_append,lookL,lookL];cases Nat.beq t i with
  | true=>rfl
  | false=>exact lookL_app
def backB (dst:Option Nat) (sl:List (Nat×SV)) (keep rs rs':List (Nat×Res)) (tys:List Nat):Bool:=
 (match dst with
 | some d=>(lookL sl d).isNone
 | none=>true)&&(sl.all fun p=>p.2.tids.all fun i=>(lookL rs i).isNone)&&(keep.all fun p=>(lookL rs p.1).isNone&&p.2.tids.all fun i=>(lookL rs i).isNone)&&(rs'.all fun p=>(lookL rs p.1).isSome&&tys.contains p.2.typ)&&ofB sl (keep++rs') tys
section
variable {C:Cx} {o:Oper} {st:St} {a:Act} {w:World} {rs:List (Nat×Res)}
theorem inv_back {w':World} {B:Nat→Nat} {T T':Nat→Sv} {rs' keep:List (Nat×Res)} {sl:List (Nat×SV)} {tys:List Nat} {dst:Option Nat} {v:Value} (hi:InvB C st a w B T) (hrs:AllL st.res rs) (hsl:AllL st.slot sl) (hkeep:AllL st.res keep) (hb:backB dst sl keep rs rs' tys=true)
  (hm:MPre w' (fun b=>Own0 C st B T b∧¬LentR rs B T b) B T' rs') (F:Fr (LentR rs B T) w w') (hnew:∀b,LentR rs' B T' b→LentR rs B T b∨w.heap.size≤b) (hd:∀d,dst=some d→d < C.N):Inv C (St.of sl (keep++rs') tys) (a.put dst v) w':=by
 simp only[backB,be,List.all_eq_true,Option.isNone_iff_eq_none] at hb;obtain⟨⟨⟨⟨hb1,hb2⟩,hb3⟩,hb4⟩,hb5⟩:=hb;simp only[ofB,be,List.all_eq_true,idsOk] at hb5
 let T2:Nat→Sv:=fun i=>if (lookL rs i).isSome then T' i else T i
 have hT1:∀i,lookL rs i=none→T2 i=T i:=fun i h=>by simp only[T2,h];rfl
 have hT2:∀i,(lookL rs i).isSome=true→T2 i=T' i:=fun i h=>by simp only[T2,h];rfl
 have rs'at:∀i r,lookL rs' i=some r→(lookL rs i).isSome=true:=fun i r h=>by
  have:∀{l:List (Nat×Res)} {i:Nat} {r:Res},lookL l i=some r→∃p∈l,p.1=i∧p.2=r:=fun {l}=>by
   induction l with
   | nil=>intro i r e;cases e
   | cons p l ih=>
    intro i r e;obtain⟨j,x⟩:=p;rw[lookL] at e;cases hbq:Nat.beq i j with
    | true=>rw[hbq] at e;injection e with e;exact⟨_,mf ..,(Nat.eq_of_beq_eq_true hbq).symm,e⟩
    | false=>
     rw[hbq] at e;obtain⟨p,h1,h2⟩:=ih e;exact⟨p,List.mem_cons_of_mem _ h1,h2⟩
  obtain⟨p,h1,h2,h3⟩:=this h;rw[← h2];exact (hb4 p h1).1
 have keepat:∀i r,lookL keep i=some r→lookL rs i=none∧(∀j∈r.tids,lookL rs j=none)∧st.res i=some r:=fun i r h=>by
  have:∀{l:List (Nat×Res)} {i:Nat} {r:Res},lookL l i=some r→∃p∈l,p.1=i∧p.2=r:=fun {l}=>by
   induction l with
   | nil=>intro i r e;cases e
   | cons p l ih=>
    intro i r e;obtain⟨j,x⟩:=p;rw[lookL] at e;cases hbq:Nat.beq i j with
    | true=>rw[hbq] at e;injection e with e;exact⟨_,mf ..,(Nat.eq_of_beq_eq_true hbq).symm,e⟩
    | false=>
     rw[hbq] at e;obtain⟨p,h1,h2⟩:=ih e;exact⟨p,List.mem_cons_of_mem _ h1,h2⟩
  obtain⟨p,h1,h2,h3⟩:=this h;have h4:=hb3 p h1;rw[h2,h3] at h4;exact⟨h4.1,h4.2,hkeep.at h⟩
 have split:∀i r,lookL (keep++rs') i=some r→lookL keep i=some r∨(lookL keep i=none∧lookL rs' i=some r):=fun i r h=>by
  rw[lookL_app] at h;cases hk:lookL keep i with
  | some q=>rw[hk] at h;exact .inl h
  | none=>rw[hk] at h;exact .inr ⟨rfl,h⟩
 have old:∀i r,lookL rs i=some r→st.res i=some r:=fun i r h=>hrs.at h
 have lentOwn:∀b,LentR rs B T b→Own0 C st B T b:=fun b ⟨i,r,h1,h2⟩=>.inr ⟨i,r,old i r h1,h2⟩
 have blkOld:∀i r b,st.res i=some r→r.blk (B i) (T i)=some b→b < w.heap.size:=fun i r b h1 h2=>((hi.inn i r h1).lo h2).2
 have notLent:∀i r b,st.res i=some r→lookL rs i=none→r.blk (B i) (T i)=some b→¬LentR rs B T b:=fun i r b h1 h2 h3 ⟨j,q,h4,h5⟩=>by
  have:=hi.apart i r j q b h1 (old j q h4) h3 h5;rw[← this,h2] at h4;cases h4
 have hX:∀b,Own0 C (St.of sl (keep++rs') tys) B T2 b→(Own0 C st B T b∧¬LentR rs B T b)∨LentR rs' B T' b:=fun b hb=>by
  rcases hb with hb | ⟨i,r,h1,h2⟩
  ·exact .inl ⟨.inl hb,fun ⟨i,r,h1,h2⟩=>by
    rcases ((hi.inn i r (old i r h1)).lo h2).1 with h3 | h3
    ·have:=C.old b hb;omega
    ·exact C.hM b hb h3⟩
  ·rcases split i r h1 with h3 | ⟨_,h3⟩
   ·obtain⟨g1,g2,g3⟩:=keepat i r h3;rw[hT1 i g1] at h2;exact .inl ⟨.inr ⟨i,r,g3,h2⟩,notLent i r b g3 g1 h2⟩
   ·rw[hT2 i (rs'at i r h3)] at h2;exact .inr ⟨i,r,h3,h2⟩
 have S:∀ts,Still w w' (Own0 C st B T) (Own0 C (St.of sl (keep++rs') tys) B T2) ts:=fun ts=>⟨F.size,fun b cs t fr hx hh ht=>by
  have hlt:b < w.heap.size:=by
   rcases Nat.lt_or_ge b w.heap.size with h | h
   ·exact h
   ·rw[Array.getElem?_eq_none h] at hh;cases hh
  refine⟨F.keep b hlt fun e=>hx (lentOwn b e),fun hb=>?_⟩;rcases hX b hb with h1 | h1
  ·exact hx h1.1
  ·rcases hnew b h1 with h2 | h2
   ·exact hx (lentOwn b h2)
   ·omega⟩
 have S':∀ts,Still w' w' (OwnZ (fun b=>Own0 C st B T b∧¬LentR rs B T b) rs' B T') (Own0 C (St.of sl (keep++rs') tys) B T2) ts:=fun ts=>⟨nr _,fun b cs t fr hx hh ht=>⟨rfl,fun hb=>hx (hX b hb)⟩⟩
 have reS:∀{s:SV} {u:Value},SV.Rep w (Own0 C st B T) B T s u→(∀i∈s.tids,lookL rs i=none)→SV.Rep w' (Own0 C (St.of sl (keep++rs') tys) B T2) B T2 s u:=fun h1 h2=>(h1.still (S _) (B':=B) (T':=T) fun _ _=>⟨rfl,rfl⟩).reT fun i hi=>hT1 i (h2 i hi)
 refine⟨B,T2,put_size.trans hi.size,put_dfr.trans hi.dfr,hi.gr.step F fun b _ ⟨i,r,h1,h2⟩=>((hi.inn i r (old i r h1)).lo h2).1,fun t s e=>?_,fun t s e i hi2=>?_,fun i r e=>?_,fun i r e j hj=>?_,fun i r j q b h1 h2 h3 h4=>?_⟩
 ·have e':lookL sl t=some s:=e;have h1:=hi.slot t s (hsl.at e');have h2:(a.put dst v).tmps.getD t undef=a.tmps.getD t undef:=by
   cases dst with
   | none=>rfl
   | some d=>
    refine getD_put_ne fun e3=>?_
    rw[e3,show lookL sl d=none from by simpa using hb1] at e';cases e'
  rw[h2];obtain⟨p,hp,rfl⟩:=lookL_mem e';exact reS h1 (hb2 p hp)
 ·have e':lookL sl t=some s:=e;obtain⟨p,hp,rfl⟩:=lookL_mem e';exact hb5.1 p hp i hi2
 ·rcases split i r e with h3 | ⟨_,h3⟩
  ·obtain⟨g1,g2,g3⟩:=keepat i r h3;have hin:=hi.inn i r g3;have oth:∀b,r.blk (B i) (T i)=some b→w'.heap[b]?=w.heap[b]?:=fun b hb=>F.keep b (blkOld i r b g3 hb) (notLent i r b g3 g1 hb)
   cases r with
   | box ty cells=>
    obtain⟨k1,us,k2,k3⟩:=hin;exact⟨k1,us,Bk.keep k2 (oth _ rfl),(k3.still (S _) (B':=B) (T':=T) fun _ _=>⟨rfl,rfl⟩).reT fun j hj=>hT1 j (g2 j hj)⟩
   | tok e k ts xs=>
    obtain⟨us,k1,k2,k3,k4,k5,k6⟩:=hin;refine⟨us,?_,PV.RepLL.still (ts:=ts) k2 (S _) fun r hr c hc=>((k3 r hr).2 c hc).2,k3,?_,k5,?_⟩
    ·rw[hT1 i g1];exact rw_keep k1 oth
    ·rw[hT1 i g1];exact k4
    ·rw[hT1 i g1];exact k6
  ·have hin:=hm.inn i r h3;have hin2:r.In C.lo w' (Own0 C (St.of sl (keep++rs') tys) B T2) B T' i:=hin.wide (fun b hb _=>by
    rcases hnew b ⟨i,r,h3,hb⟩ with ⟨j,q,g1,g2⟩ | g1
    ·exact ((hi.inn j q (old j q g1)).lo g2).1
    ·exact .inl (nt hi.gr.size g1)) fun b hb=>hX b hb
   exact hin2.reB rfl (hT2 i (rs'at i r h3)) fun j hj=>⟨rfl,hT2 j (by
    obtain⟨q,hq⟩:=Option.isSome_iff_exists.1 (hm.alive i r h3 j hj);exact rs'at j q hq)⟩
 ·obtain⟨p,hp,rfl⟩:=lookL_mem e;exact (hb5.2 p hp).1 j hj
 ·have bl:∀i r,lookL (keep++rs') i=some r→r.blk (B i) (T2 i)=some b→(st.res i=some r∧lookL rs i=none∧r.blk (B i) (T i)=some b)∨(lookL rs' i=some r∧r.blk (B i) (T' i)=some b):=fun i r h1 h2=>by
   rcases split i r h1 with h3 | ⟨_,h3⟩
   ·obtain⟨g1,g2,g3⟩:=keepat i r h3;rw[hT1 i g1] at h2;exact .inl ⟨g3,g1,h2⟩
   ·rw[hT2 i (rs'at i r h3)] at h2;exact .inr ⟨h3,h2⟩
  have cross:∀i r j q,st.res i=some r→lookL rs i=none→r.blk (B i) (T i)=some b→lookL rs' j=some q→q.blk (B j) (T' j)=some b→False:=fun i r j q g1 g2 g3 g4 g5=>by
   rcases hnew b ⟨j,q,g4,g5⟩ with g6 | g6
   ·exact notLent i r b g1 g2 g3 g6
   ·have:=blkOld i r b g1 g3;omega
  rcases bl i r h1 h3 with ⟨g1,g2,g3⟩ | ⟨g1,g2⟩
  ·rcases bl j q h2 h4 with ⟨g4,g5,g6⟩ | ⟨g4,g5⟩
   ·exact hi.apart i r j q b g1 g4 g3 g6
   ·exact (cross i r j q g1 g2 g3 g4 g5).elim
  ·rcases bl j q h2 h4 with ⟨g4,g5,g6⟩ | ⟨g4,g5⟩
   ·exact (cross j q i r g4 g5 g6 g1 g2).elim
   ·exact hm.apart i r j q b g1 g4 g2 g5
theorem pre_lent {B:Nat→Nat} {T:Nat→Sv} (hi:InvB C st a w B T) (hrs:AllL st.res rs) (hal:(rs.all fun p=>idsOk rs p.2.ids)=true):MPre w (fun b=>Own0 C st B T b∧¬LentR rs B T b) B T rs∧∀b,OwnZ (fun b=>Own0 C st B T b∧¬LentR rs B T b) rs B T b→Own0 C st B T b:=by
 have sub:∀b,OwnZ (fun b=>Own0 C st B T b∧¬LentR rs B T b) rs B T b→Own0 C st B T b:=fun b hb=>by
  rcases hb with hb | ⟨i,r,h1,h2⟩
  ·exact hb.1
  ·exact .inr ⟨i,r,hrs.at h1,h2⟩
 refine⟨⟨fun i r h=>(hi.inn i r (hrs.at h)).wide (fun _ _ _=>trivial) sub,fun i r h j hj=>?_,fun i r j q b h1 h2 h3 h4=>hi.apart i r j q b (hrs.at h1) (hrs.at h2) h3 h4⟩,sub⟩;obtain⟨p,hp,rfl⟩:=lookL_mem h;exact List.all_eq_true.1 (List.all_eq_true.1 hal p hp) j hj
theorem does_m {c:Call} {f:FuncId} {args:List SV} {res:PV} {rs' keep:List (Nat×Res)} {sl:List (Nat×SV)} {Tg:List Nat} (hG:LaidG C.w0) (hM:¬C.M 0) (hp:MCalls C.P Tg f args rs rs' res) (ho:o.op=.call c) (run:∀us:List Value,c.args.toList.map a.eval=us→∃us2:List Value,(execOp a.eval o).run C.P w=.ok (.enter f (us++us2).toArray) w∧∀B T,InvB C st a w B T→SV.RepL w (Own0 C st B T) B T args (us++us2)∧∀i∈SV.idsL args,(lookL rs i).isSome=true)
  (hrs:AllL st.res rs) (hsl:AllL st.slot sl) (hkeep:AllL st.res keep) (hal:(rs.all fun p=>idsOk rs p.2.ids)=true) (hb:backB o.dst sl keep rs rs' st.tys=true) (hT:Tg.all (fun t=>C.T.contains t)=true) (hty:Tg.all (fun t=>!st.tys.contains t)=true) (hd:∀d,o.dst=some d→d < C.N) (ht:TysOk st st.tys) (hi:Inv C st a w):doesAt C.P o a w fun v w'=>TysOk (St.of sl (keep++rs') st.tys) st.tys∧Inv C (St.of sl (keep++rs') st.tys) (a.put o.dst v) w':=by
 obtain⟨B,T,hi⟩:=hi;obtain⟨us2,hrun,hargs⟩:=run _ rfl;obtain⟨ha,hids⟩:=hargs B T hi;obtain⟨hpre,sub⟩:=pre_lent hi hrs hal;have old:∀b,Own0 C st B T b→b < w.heap.size:=fun b hb=>by
  rcases hb with hb | ⟨i,r,hr,hb⟩
  ·exact nk (C.old b hb) hi.gr.size
  ·exact ((hi.inn i r hr).lo hb).2
 have hcall:=hp.2 w (fun b=>Own0 C st B T b∧¬LentR rs B T b) B T _ (fun b hb=>old b hb.1) (fun b cs t fr hb hh htg=>by
  have htc:=List.all_eq_true.1 hT t htg;have hty':=List.all_eq_true.1 hty t htg;rcases hb.1 with hb1 | ⟨i,r,hr,hb1⟩
  ·have hh':C.w0.heap[b]?=some (.cells cs t fr):=by rw[← hi.gr.old hb1];exact hh
   exact C.hT b cs t fr hb1 hh' (List.contains_iff_mem.1 htc)
  ·have h1:=(hi.inn i r hr).typ hb1 hh;have h2:=ht i r hr;rw[← h1] at h2;rw[List.contains_iff_mem.2 h2] at hty';cases hty') (fun b hb=>hb.2) (hG.cx hM hi.gr) (fun ⟨i,r,h1,h2⟩=>hG.lo hM ((hi.inn i r (hrs.at h1)).lo h2).1) hpre (ha.still (B':=B) (T':=T) ⟨nr _,fun b cs t fr hx hh ht=>⟨rfl,fun hb=>hx (sub b hb)⟩⟩ fun _ _=>⟨rfl,rfl⟩) hids
 refine doesAt_enter hrun (hcall.mono fun e w' ⟨v,T',he,_,hm,F,hnew⟩=>⟨v,he,fun i r hr=>?_,inv_back hi hrs hsl hkeep hb hm F hnew hd⟩);simp only[backB,be] at hb;have hb5:=hb.2;simp only[ofB,be,List.all_eq_true] at hb5;obtain⟨p,hp,rfl⟩:=lookL_mem hr;exact List.contains_iff_mem.1 (hb5.2 p hp).2
end
end Go.Proofs.YtbhbainhmfjpdaaGreatDoor
