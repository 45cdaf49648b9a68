/- Walks of the search and of what it calls, part 2. -/
import Derived.Test.YtbhbainhmfjpdaaGreatDoorMa
import Derived.Test.YtbhbainhmfjpdaaGreatDoorLaid
import Derived.Laws.BitsAllLaws
import Derived.Lib.ItoaNum
import Derived.Deep.RegionHeld3
set_option linter.unusedVariables false
set_option linter.unusedSimpArgs false
set_option maxRecDepth 100000
set_option maxHeartbeats 8000000
namespace Go.RowKit
theorem Hid.sy {a b:Nat} (h:Hid (¬a=b)):Hid (¬b=a):=fun e=>h.out e.symm
theorem Hid.nb {a c n:Nat} (h:Hid (a < n)) (k:n≤c):Hid (¬a=c):=fun e=>Nat.lt_irrefl _ (Nat.lt_of_lt_of_le h (e▸k))
end Go.RowKit
namespace Go.Proofs.YtbhbainhmfjpdaaGreatDoor
open Go.RowKit
def pureB (o:Oper):Bool:=o.dst.isSome&&match o.op with
 | .extract ..=>true
 | .move _=>true
 | .assign _=>true
 | _=>false
section
variable {P:Program} {ops:Array Oper} {R:World→World→Prop} {W0:World} {Φ:Nat→Option (Value→World→Prop)} {D:Nat→List Nat} {Q:Act→World→Prop}
theorem pure_run {o:Oper} {a:Act} (h:pureB o=true) {v:Value} {w:World} (hr:(execOp a.eval o).run P w=.ok (.value v) w) (w':World):(execOp a.eval o).run P w'=.ok (.value v) w':=by
 unfold pureB at h;rw[be] at h;replace h:=h.2;unfold execOp at hr ⊢;split at h
 ·rename_i t ix e
  simp only[e] at hr ⊢;unfold Instr.extract at hr ⊢;generalize a.eval t=u at hr ⊢;cases u<;>simp only[Sem.run_bind] at hr ⊢
  case tuple vs=>
   cases hv:vs[ix]? with
   | none=>rw[hv] at hr;simp[stuck] at hr
   | some x=>simpa [hv] using hr
  all_goals simp[stuck] at hr
 ·rename_i x e
  simp only[e] at hr ⊢;simpa using hr
 ·rename_i x e
  simp only[e] at hr ⊢;simpa using hr
 ·cases h
theorem pure_yields {S:World→Prop} {o:Oper} {a:Act} {v:Value} {w:World} (h:pureB o=true) (hw:S w) (hy:YieldsIf P ops S o v a):Yields P ops o v a:=by
 rcases hy with ⟨h1,h2⟩ | h1
 ·exact .inl ⟨h1,fun w'=>pure_run h (h2 w hw) w'⟩
 ·exact .inr h1
theorem Walk.late (Z:List Nat) (hZp:∀k∈Z,∀o,ops[k]?=some o→pureB o=true) (hZr:∀k∈Z,Φ k=none) (hZa:∀k∈Z,∀o,ops[k]?=some o→∀j oj,ops[j]?=some oj→j≠k→(∀e∈oj.after,Region.binds .any e=true→e.on≠k)→(∃e∈o.after,Region.binds .any e=true∧e.on=j)∨o.apart ops oj=true) (hs:Region.noSelect ops=true) (hB:monoB ops (depsOf ops)=true) (hD:∀j,D j=(depsOf ops).getD j []) (hst:∀k ψ,Φ k=some ψ→∀v W W',R W0 W→R W W'→ψ v W→ψ v W') (hrefl:R W0 W0) (htr:∀{a b c},R a b→R b c→R a c) {Q':Exit→Act→World→Prop} (hQp:∀c d v a w,Q' (.panic c) (a.put (some d) v) w→Q' (.panic c) a w) {m:Nat} {last:Array Bool} (hQ:∀a W,Q a W→wpAny P .any ops Q' m last a W):
  ∀(rest:List Nat) (listed:Array Bool) (F:List (Nat×(World→Prop))) (a:Act) (W:World),listed.size=ops.size→last.size=ops.size→(∀k∈rest,listed.getD k true=false)→(∀j,j < ops.size→last.getD j true=(listed.getD j true||rest.contains j))→rest.Pairwise (· < ·)→(∀j,listed.getD j false=true→∀i∈D j,listed.getD i false=true)→
  (∀j,listed.getD j true=false→j ∉ rest→∀k∈rest,k∈D j∨k∈Z)→(∀k∈rest,∀o,ops[k]?=some o→∀e∈o.after,Region.binds .any e=true→listed.getD e.on false=true∨e.on∈rest)→
  (∀p∈F,∀W W',R W0 W→R W W'→p.2 W→p.2 W')→R W0 W→Holds F W→Walk P ops R W0 Φ D Q rest F a→wpAny P .any ops Q' (rest.length+m) listed a W:=by
 intro rest;generalize hn:rest.length=n
 induction n generalizing rest with
 | zero=>
  intro listed F a W hsz hsl hrest hlast hp hcl htl hin hF hW hh h;obtain rfl:=List.length_eq_zero_iff.1 hn;have:listed=last:=by
   apply Array.ext
   ·rw[hsz,hsl]
   ·intro i h1 h2;have:=hlast i (by rw[← hsz];exact h1);simpa [h1,h2] using this.symm
  rw[this,Nat.zero_add];exact hQ _ _ (h W hW hh)
 | succ n ih=>
  intro listed F a W hsz hsl hrest hlast hp hcl htl hin hF hW hh h;rw[show n+1+m=(n+m)+1 from by omega];simp only[monoB,be,List.all_eq_true,List.mem_range] at hB;have spec:∀j oj,ops[j]?=some oj→(∀e∈oj.after,Region.binds .any e=true→e.on < j)∧(∀i∈D j,i < j∧∃e∈oj.after,Region.binds .any e=true∧(e.on=i∨i∈D e.on))∧(∀i,i < j→∀oi,ops[i]?=some oi→(∃e∈oj.after,Region.binds .any e=true∧e.on=i)∨oi.apart ops oj=true):=fun j oj hj=>by
   have h1:=hB.2 j (Array.getElem?_eq_some_iff.1 hj).1;simp only[hj,be,List.all_eq_true,List.mem_range,Array.all_eq_true_iff_forall_mem,de,Bool.or_eq_true,Bool.not_eq_true'] at h1;refine⟨fun e he hb=>(h1.1.1 e he).resolve_left (by rw[hb];exact Bool.noConfusion),fun i hi=>?_,fun i hi oi hoi=>?_⟩
   ·rw[hD] at hi;obtain⟨h2,h3⟩:=h1.1.2 i hi;obtain⟨e,he,hb⟩:=Array.any_eq_true'.1 h3;simp only[be,Bool.or_eq_true,beq_iff_eq,List.contains_iff_mem] at hb;exact⟨h2,e,he,hb.1,by rw[hD];exact hb.2⟩
   ·have h2:=h1.2 i hi;simp only[hoi,Bool.or_eq_true] at h2;rcases h2 with h2 | h2
    ·obtain⟨e,he,hb⟩:=Array.any_eq_true'.1 h2;simp only[be,beq_iff_eq] at hb;exact .inl ⟨e,he,hb.1,hb.2⟩
    ·exact .inr h2
  have false_of:∀k∈rest,listed.getD k false=true→False:=fun k hk ht=>by
   have h1:=hrest k hk;rcases Nat.lt_or_ge k listed.size with h' | h'
   ·simp[h'] at h1 ht;rw[h1] at ht;cases ht
   ·simp[Array.getElem?_eq_none h'] at ht
  have dl:∀j oj,ops[j]?=some oj→(∀e∈oj.after,Region.binds .any e=true→listed.getD e.on false=true)→∀i∈D j,listed.getD i false=true:=fun j oj hoj hall i hi=>by
   obtain⟨_,e,he,hb,h2⟩:=(spec j oj hoj).2.1 i hi;rcases h2 with h2 | h2
   ·rw[← h2];exact hall e he hb
   ·exact hcl _ (hall e he hb) i h2
  have size_of:∀k,listed.getD k true=false→k < ops.size:=fun k hk=>by
   rcases Nat.lt_or_ge k listed.size with h' | h'
   ·omega
   ·rw[show listed.getD k true=true from by simp[Array.getElem?_eq_none h']] at hk;cases hk
  have get_of:∀k,listed.getD k true=false→∃o,ops[k]?=some o:=fun k hk=>⟨_,Array.getElem?_eq_getElem (size_of k hk)⟩
  have first_ready:∃k∈rest,k∈Region.ready .any ops listed:=by
   cases rest with
   | nil=>simp at hn
   | cons k rest=>
    obtain⟨o,ho,_⟩:=h;refine⟨k,mf ..,mem_ready.2 ⟨hrest k (mf ..),o,ho,fun e he hb=>?_⟩⟩;have hlt:=(spec k o ho).1 e he hb;rcases hin k (mf ..) o ho e he hb with h1 | h1
    ·exact h1
    ·exfalso
     rcases List.mem_cons.1 h1 with e1 | e1
     ·omega
     ·have:=(List.pairwise_cons.1 hp).1 _ e1;omega
  have step:∀j∈rest,j∈Region.ready .any ops listed→∃oj,ops[j]?=some oj∧j < listed.size∧listed.getD j true=false∧(∀e∈oj.after,Region.binds .any e=true→listed.getD e.on false=true)∧Front P ops R W0 Φ D Q j oj (rest.erase j) F a∧(rest.erase j).length=n∧(∀k∈rest.erase j,(listed.setIfInBounds j true).getD k true=false)∧(∀k,k < ops.size→last.getD k true=((listed.setIfInBounds j true).getD k true||(rest.erase j).contains k))∧(∀i,(listed.setIfInBounds j true).getD i false=true→∀d∈D i,(listed.setIfInBounds j true).getD d false=true)∧(∀i,(listed.setIfInBounds j true).getD i true=false→i ∉ rest.erase j→∀k∈rest.erase j,k∈D i∨k∈Z)∧(∀k∈rest.erase j,∀o,ops[k]?=some o→∀e∈o.after,Region.binds .any e=true→(listed.setIfInBounds j true).getD e.on false=true∨e.on∈rest.erase j):=by
   intro j hm hj;obtain⟨hun,oj,hoj,hall⟩:=mem_ready.1 hj;have hdl:=dl j oj hoj hall;have hjs:j < listed.size:=by rw[hsz];exact (Array.getElem?_eq_some_iff.1 hoj).1
   have front:=h.pull hs hrefl hst htr hoj rest F a hm hp (fun k hk hlt o ho=>by
     rcases (spec j oj hoj).2.2 k hlt o ho with ⟨e,he,hb,e1⟩ | h1
     ·exact (false_of k hk (by rw[← e1];exact hall e he hb)).elim
     ·exact h1)
    (fun k hk hlt=>⟨fun hd=>false_of k hk (hdl k hd),fun hd=>by
     obtain⟨o,ho⟩:=get_of k (hrest k hk);have:=((spec k o ho).2.1 j hd).1;omega⟩) hF ⟨W,hW,hh⟩
   have len:(rest.erase j).length=n:=by rw[List.length_erase_of_mem hm,hn];rfl
   have nd:rest.Nodup:=hp.imp fun h=>Nat.ne_of_lt h
   have hrest':∀k∈rest.erase j,(listed.setIfInBounds j true).getD k true=false:=fun k hk=>by
    rw[nd.mem_erase_iff] at hk;exact (mem_getD_set hjs).2 ⟨hrest k hk.2,hk.1⟩
   have hlast':∀k,k < ops.size→last.getD k true=((listed.setIfInBounds j true).getD k true||(rest.erase j).contains k):=fun k hk=>by
    rw[hlast k hk];by_cases hkj:k=j
    ·subst hkj;rw[show (listed.setIfInBounds k true).getD k true=true from by simp[hjs],List.contains_iff_mem.2 hm];simp
    ·rw[getD_set_ne true (Ne.symm hkj)]
     congr 1
     rw[Bool.eq_iff_iff,List.contains_iff_mem,List.contains_iff_mem,nd.mem_erase_iff];simp[hkj]
   have hcl':∀i,(listed.setIfInBounds j true).getD i false=true→∀d∈D i,(listed.setIfInBounds j true).getD d false=true:=fun i hi d hd=>by
    by_cases hij:i=j
    ·subst hij;exact getD_set_true (hdl d hd)
    ·rw[getD_set_ne false (Ne.symm hij)] at hi;exact getD_set_true (hcl i hi d hd)
   have htl':∀i,(listed.setIfInBounds j true).getD i true=false→i ∉ rest.erase j→∀k∈rest.erase j,k∈D i∨k∈Z:=fun i hi hni k hk=>by
    obtain⟨h1,h2⟩:=(mem_getD_set hjs).1 hi;refine htl i h1 (fun h3=>hni ?_) k (List.mem_of_mem_erase hk);rw[nd.mem_erase_iff];exact⟨h2,h3⟩
   have hin':∀k∈rest.erase j,∀o,ops[k]?=some o→∀e∈o.after,Region.binds .any e=true→(listed.setIfInBounds j true).getD e.on false=true∨e.on∈rest.erase j:=fun k hk o ho e he hb=>by
    rcases hin k (List.mem_of_mem_erase hk) o ho e he hb with h1 | h1
    ·exact .inl (getD_set_true h1)
    ·by_cases hej:e.on=j
     ·rw[hej];exact .inl (by simp[hjs])
     ·exact .inr ((nd.mem_erase_iff).2 ⟨hej,h1⟩)
   exact⟨oj,hoj,hjs,hun,hall,front,len,hrest',hlast',hcl',htl',hin'⟩
  by_cases hz:∃k∈rest,k∈Z∧k∈Region.ready .any ops listed
  ·obtain⟨k,hk,hkz,hkr⟩:=hz;obtain⟨ok,hok,hjs,hun,hall,front,len,hrest',hlast',hcl',htl',hin'⟩:=step k hk hkr;unfold Front at front;simp only[hZr k hkz] at front;obtain⟨v,hy,h2⟩:=front;refine wpAny_first hok (Region.noSelect_spec hs) (fun c a w=>by
    obtain⟨d,hd⟩:=Option.isSome_iff_exists.1 (be _ _▸hZp k hkz ok hok:ok.dst.isSome=true∧_).1;rw[hd];exact hQp c d _ a w) _ _ _ _ (fun j oj hoj hne hunj hno=>?_) hkr (pure_yields (hZp k hkz ok hok) hrefl hy) (ih (rest.erase k) len (listed.setIfInBounds k true) F _ W (by simpa using hsz) hsl hrest' hlast' (hp.sublist (List.erase_sublist ..)) hcl' htl' hin' hF hW hh h2)
   rcases hZa k hkz ok hok j oj hoj hne hno with ⟨e,he,hb,e1⟩ | h1
   ·exfalso
    have h3:=hall e he hb;rw[e1] at h3;rcases Nat.lt_or_ge j listed.size with h' | h'
    ·simp[h'] at h3 hunj;rw[h3] at hunj;cases hunj
    ·simp[Array.getElem?_eq_none h'] at h3
   ·exact h1
  refine⟨fun h0=>?_,fun j hj=>?_⟩
  ·obtain⟨k,_,hk⟩:=first_ready;rw[h0] at hk;cases hk
  ·have hm:j∈rest:=by
    by_cases hm:j∈rest
    ·exact hm
    ·exfalso
     obtain⟨hun,oj,hoj,hall⟩:=mem_ready.1 hj;have hdl:=dl j oj hoj hall;obtain⟨k,hk,hkr⟩:=first_ready;rcases htl j hun hm k hk with h1 | h1
     ·exact false_of k hk (hdl k h1)
     ·exact hz ⟨k,hk,h1,hkr⟩
   obtain⟨oj,hoj,hjs,hun,hall,front,len,hrest',hlast',hcl',htl',hin'⟩:=step j hm hj;have next:=ih (rest.erase j) len (listed.setIfInBounds j true);unfold Front at front;cases hΦ:Φ j with
   | none=>
    simp only[hΦ] at front;obtain⟨v,hy,h2⟩:=front;exact hy.wpOp hoj hW (next F _ W (by simpa using hsz) hsl hrest' hlast' (hp.sublist (List.erase_sublist ..)) hcl' htl' hin' hF hW hh h2)
   | some ψ=>
    simp only[hΦ] at front;obtain⟨hw,hsp,h2⟩:=front;unfold wpOp;simp only[hoj,hw,if_true];refine .inl (doesAt_wp (hsp W hW fun p hp _=>hh p hp) fun v W' ⟨hR,hv⟩=>?_);have hh':Holds F W':=fun p hp=>hF p hp _ _ hW hR (hh p hp)
    exact next (F++[(j,ψ v)]) _ W' (by simpa using hsz) hsl hrest' hlast' (hp.sublist (List.erase_sublist ..)) hcl' htl' hin' (fun p hp=>by
      rcases List.mem_append.1 hp with hp | hp
      ·exact hF p hp
      ·rw[mj hp];exact hst j ψ hΦ v) (htr hW hR) (fun p hp=>by
      rcases List.mem_append.1 hp with hp | hp
      ·exact hh' p hp
      ·rw[mj hp];exact hv) (h2 v ⟨W',htr hW hR,hh',hv⟩)
end
section
variable {P:Program}
end
section
section
variable {P:Program} {R:World→World→Prop} {W0:World} {Φ:Nat→Option (Value→World→Prop)} {D:Nat→List Nat} {Q:Act→World→Prop}
theorem Walk.tk {l:List Oper} {k:Nat} {rest:List Nat} {F:List (Nat×(World→Prop))} {a a':Act} {o:Oper} {v:Value} (h:Walk P l.toArray R W0 Φ D Q rest F a')
  (ho:l[k]?=some o:=by exact rfl) (hΦ:Φ k=none:=by exact rfl)
  (hy:YieldsIf P l.toArray (R W0) o v a:=by first | (refine Or.inl ⟨by rfl,?_⟩;intro w' hw';(try have kk:=kc.out w' hw');go_simp;try with_reducible rfl) | exact Or.inr ⟨by rfl,rfl⟩)
  (hp:a.put o.dst v=a':=by (try simp only[Act.put,List.setIfInBounds_toArray,List.set_cons_zero,List.set_cons_succ]);(try exact rfl)):Walk P l.toArray R W0 Φ D Q (k::rest) F a:=
 Walk.take ho hΦ hy (hp▸h)
theorem doesAt_en {o:Oper} {a:Act} {W:World} {f:FuncId} {args:Array Value} {K:Value→World→Prop} (hK:Calls P f args W fun e W''=>∃v,e=.returned v∧K v W'') (h:(execOp a.eval o).run P W=.ok (.enter f args) W:=by go_simp;try (first | with_reducible rfl | exact⟨rfl,rfl⟩ | rfl)):doesAt P o a W K:=
 doesAt_enter h hK
end
section
variable {w w1 w2:World} {p b t:Nat} {us:Array Value} {X:Nat→Prop}
theorem Gr.hb (G:Gr w w1) (h:Hid (Bk w b t us)):Hid (Bk w1 b t us):=G.bk h
theorem Gr.kb (G:Gr w.drew w1) (h:Hid (Bk w b t us)):Bk w1 b t us:=((Gr.refl w).drew.trans G).bk h
theorem Fr.hb (F:Fr X w w1) (h:Hid (Bk w b t us)) (x:Hid (¬X b)):Hid (Bk w1 b t us):=F.bk h x
theorem Gr.tr (h:Gr w w1) (G:Gr w1 w2):Hid (Gr w w2):=h.trans G
theorem Gr.fa (h:Gr w w1) (F:Fr (fun b=>b=p) w1 w2) (n:Hid (w.heap.size≤p)):Hid (Gr w w2):=h.fr_at F n
theorem Gr.hs (h:Gr w w1):Hid (w.heap.size≤w1.heap.size):=h.size
theorem ptt {p q:Prop} (h:q) (e:q→p:=by intro hq;(try simp only[Act.put,List.setIfInBounds_toArray,List.set_cons_zero,List.set_cons_succ]);exact hq):p:=e h
theorem pex {p q:Prop} (h:q) (e:q→p:=by intro hq;(try simp only[Exit.inBlock,Exit.then]);exact hq):p:=e h
theorem dnx (a b:Nat) (h:¬a=b:=by omega):Hid (¬a=b):=h
theorem dnl (a b:Nat) (h:a≤b:=by omega):Hid (a≤b):=h
end
section
variable {w w1:World} {p0 p1 p2 p3 p4 p5 p6 p7 p8 p9 pa pb q0 q1 q2 q3 q4 q5 q6 q7 q8 q9 qa qb:Prop} (G:Gr w w1)
include G
theorem Gr.u2 [Kp p0 w w1 q0] [Kp p1 w w1 q1] (hp0:Hid p0) (hp1:Hid p1):Hid q0∧Hid q1:=⟨Kp.kp G hp0.out,Kp.kp G hp1.out⟩
theorem Gr.u3 [Kp p0 w w1 q0] [Kp p1 w w1 q1] [Kp p2 w w1 q2] (hp0:Hid p0) (hp1:Hid p1) (hp2:Hid p2):Hid q0∧Hid q1∧Hid q2:=⟨Kp.kp G hp0.out,G.u2 hp1 hp2⟩
theorem Gr.u4 [Kp p0 w w1 q0] [Kp p1 w w1 q1] [Kp p2 w w1 q2] [Kp p3 w w1 q3] (hp0:Hid p0) (hp1:Hid p1) (hp2:Hid p2) (hp3:Hid p3):Hid q0∧Hid q1∧Hid q2∧Hid q3:=⟨Kp.kp G hp0.out,G.u3 hp1 hp2 hp3⟩
theorem Gr.u5 [Kp p0 w w1 q0] [Kp p1 w w1 q1] [Kp p2 w w1 q2] [Kp p3 w w1 q3] [Kp p4 w w1 q4] (hp0:Hid p0) (hp1:Hid p1) (hp2:Hid p2) (hp3:Hid p3) (hp4:Hid p4):Hid q0∧Hid q1∧Hid q2∧Hid q3∧Hid q4:=⟨Kp.kp G hp0.out,G.u4 hp1 hp2 hp3 hp4⟩
theorem Gr.u6 [Kp p0 w w1 q0] [Kp p1 w w1 q1] [Kp p2 w w1 q2] [Kp p3 w w1 q3] [Kp p4 w w1 q4] [Kp p5 w w1 q5] (hp0:Hid p0) (hp1:Hid p1) (hp2:Hid p2) (hp3:Hid p3) (hp4:Hid p4) (hp5:Hid p5):Hid q0∧Hid q1∧Hid q2∧Hid q3∧Hid q4∧Hid q5:=⟨Kp.kp G hp0.out,G.u5 hp1 hp2 hp3 hp4 hp5⟩
theorem Gr.u7 [Kp p0 w w1 q0] [Kp p1 w w1 q1] [Kp p2 w w1 q2] [Kp p3 w w1 q3] [Kp p4 w w1 q4] [Kp p5 w w1 q5] [Kp p6 w w1 q6] (hp0:Hid p0) (hp1:Hid p1) (hp2:Hid p2) (hp3:Hid p3) (hp4:Hid p4) (hp5:Hid p5) (hp6:Hid p6):Hid q0∧Hid q1∧Hid q2∧Hid q3∧Hid q4∧Hid q5∧Hid q6:=⟨Kp.kp G hp0.out,G.u6 hp1 hp2 hp3 hp4 hp5 hp6⟩
theorem Gr.u8 [Kp p0 w w1 q0] [Kp p1 w w1 q1] [Kp p2 w w1 q2] [Kp p3 w w1 q3] [Kp p4 w w1 q4] [Kp p5 w w1 q5] [Kp p6 w w1 q6] [Kp p7 w w1 q7] (hp0:Hid p0) (hp1:Hid p1) (hp2:Hid p2) (hp3:Hid p3) (hp4:Hid p4) (hp5:Hid p5) (hp6:Hid p6) (hp7:Hid p7):Hid q0∧Hid q1∧Hid q2∧Hid q3∧Hid q4∧Hid q5∧Hid q6∧Hid q7:=⟨Kp.kp G hp0.out,G.u7 hp1 hp2 hp3 hp4 hp5 hp6 hp7⟩
theorem Gr.u9 [Kp p0 w w1 q0] [Kp p1 w w1 q1] [Kp p2 w w1 q2] [Kp p3 w w1 q3] [Kp p4 w w1 q4] [Kp p5 w w1 q5] [Kp p6 w w1 q6] [Kp p7 w w1 q7] [Kp p8 w w1 q8] (hp0:Hid p0) (hp1:Hid p1) (hp2:Hid p2) (hp3:Hid p3) (hp4:Hid p4) (hp5:Hid p5) (hp6:Hid p6) (hp7:Hid p7) (hp8:Hid p8):Hid q0∧Hid q1∧Hid q2∧Hid q3∧Hid q4∧Hid q5∧Hid q6∧Hid q7∧Hid q8:=⟨Kp.kp G hp0.out,G.u8 hp1 hp2 hp3 hp4 hp5 hp6 hp7 hp8⟩
end
section -- steps
variable {P:Program} {R:World→World→Prop} {W0:World} {Φ:Nat→Option (Value→World→Prop)} {D:Nat→List Nat} {Q:Act→World→Prop} {l:List Oper} {k:Nat} {rest:List Nat} {F:List (Nat×(World→Prop))} {a:Act} {a':Value→Act} {o:Oper} {ψ:Value→World→Prop}
theorem Walk.dc (hs:∀W,R W0 W→Leans F (D k) W→doesAt P o a W fun v W'=>R W W'∧ψ v W')
  (h:∀v,(∃W,R W0 W∧Holds F W∧ψ v W)→Walk P l.toArray R W0 Φ D Q rest (F++[(k,ψ v)]) (a' v))
  (ho:l[k]?=some o:=by exact rfl) (hΦ:Φ k=some ψ:=by exact rfl) (hw:Region.wanted o (yielded l.toArray a.tmps)=true:=by rfl)
  (hp:∀v,a.put o.dst v=a' v:=by intro v;(try simp only[Act.put,List.setIfInBounds_toArray,List.set_cons_zero,List.set_cons_succ]);(try exact rfl)):Walk P l.toArray R W0 Φ D Q (k::rest) F a:=
 Walk.do ho hΦ hw hs fun v hv=>by rw[hp];exact h v hv
theorem Walk.dk {f:FuncId} {args:Array Value} {K:World→Ending→World→Prop} (hs:∀W,R W0 W→Leans F (D k) W→Calls P f args W (K W))
  (h:∀v,(∃W,R W0 W∧Holds F W∧ψ v W)→Walk P l.toArray R W0 Φ D Q rest (F++[(k,ψ v)]) (a' v))
  (ho:l[k]?=some o:=by exact rfl) (hΦ:Φ k=some ψ:=by exact rfl) (hw:Region.wanted o (yielded l.toArray a.tmps)=true:=by rfl)
  (he:∀W,R W0 W→(execOp a.eval o).run P W=.ok (.enter f args) W:=by intro w' hw';(try have kk:=kc.out w' hw');go_simp;try (first | with_reducible rfl | exact⟨rfl,rfl⟩ | rfl))
  (hm:∀W e w',K W e w'→∃v,e=.returned v∧R W w'∧ψ v w':=by intro W1 e w' h;first | (obtain⟨rfl,G⟩:=h;exact⟨_,rfl,G,rfl⟩) | (obtain⟨r,rfl,hi,G⟩:=h;exact⟨_,rfl,G,r,rfl,hi⟩))
  (hp:∀v,a.put o.dst v=a' v:=by intro v;(try simp only[Act.put,List.setIfInBounds_toArray,List.set_cons_zero,List.set_cons_succ]);(try exact rfl)):Walk P l.toArray R W0 Φ D Q (k::rest) F a:=
 Walk.do ho hΦ hw (fun W h1 h2=>doesAt_enter (he W h1) ((hs W h1 h2).mono fun e w'=>hm W e w')) fun v hv=>by rw[hp];exact h v hv
theorem Walk.da (h:∀v,(∃W,R W0 W∧Holds F W∧ψ v W)→Walk P l.toArray R W0 Φ D Q rest (F++[(k,ψ v)]) (a' v))
  (ho:l[k]?=some o:=by exact rfl) (hΦ:Φ k=some ψ:=by exact rfl) (hw:Region.wanted o (yielded l.toArray a.tmps)=true:=by rfl)
  (hs:∀W,R W0 W→doesAt P o a W fun v W'=>R W W'∧ψ v W':=by intro W1 G1;(try have kk:=kc.out W1 G1);refine doesAt_value (v:=.pointer (some ⟨W1.heap.size,0,none⟩)) (by go_simp;try (first | with_reducible rfl | exact⟨rfl,rfl⟩ | rfl)) ?_;exact⟨(Gr.refl W1).alloc _,NewAt.made W1 _ _ _ (nt (nr _) G1.od.size)⟩)
  (hp:∀v,a.put o.dst v=a' v:=by intro v;(try simp only[Act.put,List.setIfInBounds_toArray,List.set_cons_zero,List.set_cons_succ]);(try exact rfl)):Walk P l.toArray R W0 Φ D Q (k::rest) F a:=
 Walk.do ho hΦ hw (fun W h1 _=>hs W h1) fun v hv=>by rw[hp];exact h v hv
theorem lk {d:List Nat} {W:World} (h:Leans F d W) (i:Nat) {k:Nat} {φ:World→Prop} (e:F[i]?=some (k,φ):=by exact rfl) (c:d.contains k=true:=by kernel_rfl):φ W:=h _ (mg e) (List.contains_iff_mem.1 c)
theorem lh {W:World} (h:Holds F W) (i:Nat) {p:Nat×(World→Prop)} (e:F[i]?=some p:=by exact rfl):p.2 W:=h _ (mg e)
end
section
variable {P:Program} {Q:Exit→Act→World→Prop} {S S0 S1:World→Prop} {T:List Nat} {n:Nat} {listed:Array Bool} {a a':Act} {w w':World} {l:List Oper} {o:Oper} {v:Value}
theorem wo (k:Nat) (h:wpAny P .any l.toArray Q n (listed.setIfInBounds k true) a' w')
  (ho:l[k]?=some o:=by exact rfl) (hr:Region.ready .any l.toArray listed=[k]:=by kernel_rfl) (hw:Region.wanted o (yielded l.toArray a.tmps)=true:=by rfl)
  (hs:∀K:Act→World→Prop,Hid (K a' w')→o.wp P a w K Q:=by intro K hK;go_simp;(try simp only[Act.put,List.setIfInBounds_toArray,List.set_cons_zero,List.set_cons_succ]);exact hK):wpAny P .any l.toArray Q (n+1) listed a w:=
 wpAny_one k ho hr hw fun K hK=>hs K (hK.out _ _ h)
theorem anyE.tk (i:Nat) (hS:S w) (h:anyE P l.toArray Q S n (listed.setIfInBounds i true) a' w)
  (hi:l[i]?=some o:=by exact rfl) (hs:Region.noSelect l.toArray=true:=by kernel_rfl) (hf:Region.free .any l.toArray listed i=true:=by kernel_rfl) (hr:(Region.ready .any l.toArray listed).contains i=true:=by kernel_rfl)
  (hQ:∀c a w,Q (.panic c) (a.put o.dst v) w→Q (.panic c) a w:=by exact fun _ _ _ h=>h)
  (hy:YieldsIf P l.toArray S o v a:=by refine Or.inl ⟨by rfl,?_⟩;intro w' hS';have kk:=hS';(try dsimp only at kk);go_simp;try with_reducible rfl)
  (hp:a.put o.dst v=a':=by (try simp only[Act.put,List.setIfInBounds_toArray,List.set_cons_zero,List.set_cons_succ]);(try exact rfl)):anyE P l.toArray Q S (n+1) listed a w:=
 anyE.takeL hi hs hf hr hQ hy hS (hp▸h)
theorem anyT.tk (i:Nat) (hS:S0 w) (h:anyT T P l.toArray Q S0 S1 n (listed.setIfInBounds i true) a' w)
  (hi:l[i]?=some o:=by exact rfl) (hs:Region.noSelect l.toArray=true:=by kernel_rfl) (hf:Region.free .any l.toArray listed i=true:=by kernel_rfl) (hr:(Region.ready .any l.toArray listed).contains i=true:=by kernel_rfl)
  (hQ:∀c a w,Q (.panic c) (a.put o.dst v) w→Q (.panic c) a w:=by exact fun _ _ _ h=>h)
  (hy:YieldsIf P l.toArray S0 o v a:=by refine Or.inl ⟨by rfl,?_⟩;intro w' hS';have kk:=hS';(try dsimp only at kk);go_simp;try with_reducible rfl)
  (hp:a.put o.dst v=a':=by (try simp only[Act.put,List.setIfInBounds_toArray,List.set_cons_zero,List.set_cons_succ]);(try exact rfl)):anyT T P l.toArray Q S0 S1 (n+1) listed a w:=
 anyT.takeL hi hs hf hr hQ hy hS (hp▸h)
theorem anyT.tt (i:Nat) (hS:S0 w∧S1 w) (h:anyT T P l.toArray Q S0 S1 n (listed.setIfInBounds i true) a' w) (hT:T.contains i=true:=by decide)
  (hi:l[i]?=some o:=by exact rfl) (hs:Region.noSelect l.toArray=true:=by kernel_rfl) (hf:Region.free .any l.toArray listed i=true:=by kernel_rfl) (hr:(Region.ready .any l.toArray listed).contains i=true:=by kernel_rfl)
  (hQ:∀c a w,Q (.panic c) (a.put o.dst v) w→Q (.panic c) a w:=by exact fun _ _ _ h=>h)
  (hy:YieldsIf P l.toArray (fun w=>S0 w∧S1 w) o v a:=by refine Or.inl ⟨by rfl,?_⟩;intro w' hS';have kk:=hS';(try dsimp only at kk);go_simp;try with_reducible rfl)
  (hp:a.put o.dst v=a':=by (try simp only[Act.put,List.setIfInBounds_toArray,List.set_cons_zero,List.set_cons_succ]);(try exact rfl)):anyT T P l.toArray Q S0 S1 (n+1) listed a w:=
 anyT.takeT hT hi hs hf hr hQ hy hS (hp▸h)
def AllSt (w:World):List (Nat×(Value→World→Prop))→Prop
 | []=>True
 | p::r=>(∀v W W',Gr w W→Gr W W'→p.2 v W→p.2 v W')∧AllSt w r
theorem AllSt.all:∀{L:List (Nat×(Value→World→Prop))},AllSt w L→∀p∈L,∀v W W',Gr w W→Gr W W'→p.2 v W→p.2 v W'
 | [],_,p,hp=>by cases hp
 | q::r,h,p,hp=>by
  rcases List.mem_cons.1 hp with e | hp
  ·exact e▸h.1
  ·exact h.2.all p hp
def tf (n m:Nat):Array Bool:=(List.replicate n true++List.replicate m false).toArray
theorem wg {ops:Array Oper} (m:Nat) (last:Array Bool) (rest:List Nat) (L:List (Nat×(Value→World→Prop))) (h:Walk P ops Gr w (rowsOf L) (fun j=>(depsOf ops).getD j []) (fun a W=>wpAny P .any ops Q m last a W) rest [] a)
  (hB:monoB ops (depsOf ops)=true:=by kernel_rfl) (hp:decide (rest.Pairwise (· < ·))=true:=by decide) (hW:walkB ops (depsOf ops) listed last rest=true:=by kernel_rfl)
  (hst:AllSt w L:=by repeat' (first | exact True.intro | (refine ai (fun u wA0 wB0 h0 G h=>?_) ?_;first | exact h | exact Rv.At.gr h G | exact Fv.At.gr h G | exact NewAt.gr h G | exact h.gr G | (obtain⟨r,e,hr⟩:=h;exact⟨r,e,hr.gr G⟩) | exact Dv.At.gr h G | exact BndAt.gr h G | exact MvAt.gr h G | exact RtsAt.gr h G | exact Terms.At.gr h G | exact Mults.At.gr h G))):wpAny P .any ops Q (rest.length+m) listed a w:=
 wpAny_walk rest L hB hp hW hst.all h
theorem wpAny_k (k:Nat) (h:∀K:Act→World→Prop,Hid (∀a w,wpAny P .any l.toArray Q n (listed.setIfInBounds k true) a w→K a w)→o.wp P a w K Q)
  (ho:l[k]?=some o:=by exact rfl) (hr:Region.ready .any l.toArray listed=[k]:=by kernel_rfl) (hw:Region.wanted o (yielded l.toArray a.tmps)=true:=by rfl):wpAny P .any l.toArray Q (n+1) listed a w:=
 wpAny_one k ho hr hw fun K hK=>h K fun a w x=>hK.out a w x
theorem anyE.k (k:Nat) (h:∀K:Act→World→Prop,Hid (∀a w,(S w∨waitsAll l.toArray k=true)∧anyE P l.toArray Q S n (listed.setIfInBounds k true) a w→K a w)→o.wp P a w K Q)
  (ho:l[k]?=some o:=by exact rfl) (hr:Region.ready .any l.toArray listed=[k]:=by kernel_rfl) (hw:Region.wanted o (yielded l.toArray a.tmps)=true:=by rfl):anyE P l.toArray Q S (n+1) listed a w:=
 anyE.one k ho hr hw fun K hK=>h K fun a w x=>hK.out a w x
theorem anyT.k (k:Nat) (h:∀K:Act→World→Prop,Hid (∀a w',(S0 w'∧(S1 w→S1 w'∨waitsT T l.toArray k=true))∧anyT T P l.toArray Q S0 S1 n (listed.setIfInBounds k true) a w'→K a w')→o.wp P a w K Q)
  (ho:l[k]?=some o:=by exact rfl) (hr:Region.ready .any l.toArray listed=[k]:=by kernel_rfl) (hw:Region.wanted o (yielded l.toArray a.tmps)=true:=by rfl):anyT T P l.toArray Q S0 S1 (n+1) listed a w:=
 anyT.one k ho hr hw fun K hK=>h K fun a w x=>hK.out a w x
end
section
variable {P:Program} {Q:Exit→Act→World→Prop} {a:Act} {w:World} {o:Oper} {t b:Nat} {x v:Operand} {c c':Array Value}
theorem wpr {id:Nat} {ops:Array Oper} (h:wpAny P .any ops Q ops.size (Array.replicate ops.size false) a { w with drawn:=w.drawn+1 }) (hm:P.follows .mixedOrders=true:=by kernel_rfl):(Code.region id ops true).wp P Q a w:=wp_region_any hm h
theorem wpe {listed:Array Bool} {ops:Array Oper} (h:Q .normal a w) (hr:Region.ready .any ops listed=[]:=by kernel_rfl):wpAny P .any ops Q 0 listed a w:=wpAny_end hr h
theorem Gr.kk {w1:World} (G:Gr w w1) {p:Addr} {u:Value} {q:Prop} (h:w.cell? p=some u) (r:q):w1.cell? p=some u∧q:=⟨G.keep h,r⟩
end
section
variable {P:Program} {f:FuncId} {args:Array Value} {W:World} {R:Ending→World→Prop}
theorem cm0 {c:Value} {Z:World→Prop} (h:Calls P f args W fun e w'=>e=.returned c∧Z w') (k:∀w',Hid (Z w')→R (.returned c) w'):Calls P f args W R:=
 h.mono fun e w' ⟨he,z⟩=>by subst he;exact k w' z
theorem cm1 {α:Type} {φ:α→Value} {H:α→World→Prop} {Z:World→Prop} (h:Calls P f args W fun e w'=>∃r,e=.returned (φ r)∧H r w'∧Z w') (k:∀r w',Hid (H r w')→Hid (Z w')→R (.returned (φ r)) w'):Calls P f args W R:=
 h.mono fun e w' ⟨r,he,hr,z⟩=>by subst he;exact k r w' hr z
theorem cm2 {α:Type} {φ:α→Value} {H:α→World→Prop} {Z:World→Prop} (h:Calls P f args W fun e w'=>∃r,e=.returned (φ r)∧H r w'∧Z w') (k:∀r w',H r w'→Hid (Z w')→R (.returned (φ r)) w'):Calls P f args W R:=
 h.mono fun e w' ⟨r,he,hr,z⟩=>by subst he;exact k r w' hr z
theorem dov {o:Oper} {a:Act} {W':World} {v:Value} {K:Value→World→Prop} (hK:K v W') (h:(execOp a.eval o).run P W=.ok (.value v) W':=by go_simp;try (first | with_reducible rfl | exact⟨rfl,rfl⟩ | rfl)):doesAt P o a W K:=doesAt_value h hK
end
section
theorem bret {P:Program} {fn:Func} {R:Ending→World→Prop} {a:Act} {w:World} {v:Value} {rs:Array ResultVar} (e:fn.results=rs) (h:R (.returned v) w) (hd:a.defers=[]:=by rfl)
  (hr:(results { fn with results:=rs } a.tmps).run P w=.ok v w:=by first | (simp[results,go_sem,d_];try rfl) | (simp[results,go_sem, *];try rfl)):bodyPost P fn R .ret a w:=
 bodyPost_ret (by subst e;exact hr) hd h
end
section -- gen
variable {G:Act→World→Prop} {A:Act} {W:World} {b t:Nat} {us us':Array Value}
variable {P:Program} {f:FuncId} {args:Array Value} {K:Ending→World→Prop}
def A0:Act:={ tmps:=#[],defers:=[] }
theorem mkBk {n:Nat} (h:W.heap.size=n) (t:TypeId) (u:Array Value):Bk (W.alloc (.cells u t)) n t u:=h▸Bk.made W t u
inductive Sto (b:Nat) (W:World) (us:Array Value):World→Array Value→Prop
 | nil:Sto b W us W us
 | put {W1 us1} (i v) (s:Sto b W us W1 us1):Sto b W us (W1.setCell ⟨b,i,none⟩ v) (us1.setIfInBounds i v)
theorem Sto.bk {u W1} (s:Sto b W us W1 u) (h:Bk W b t us):Bk W1 b t u∧Fr (fun k=>k=b) W W1:=by
 induction s with
 | nil=>exact⟨h,Fr.refl _ _⟩
 | put i v _ k=>exact⟨k.1.put i v,k.2.trans (Fr.set _ _ v rfl)⟩
theorem ks {W1 u} (hb:Hid (Bk W b t us)) (h:∀W',Hid (Bk W' b t us')→Fr (fun k=>k=b) W W'→G A W') (s:Sto b W us W1 u:=by repeat (first | with_reducible exact .nil | with_reducible apply Sto.put))
  (e:u=us':=by (try simp only[List.setIfInBounds_toArray,List.set_cons_zero,List.set_cons_succ]);(try exact rfl)):G A W1:=
 have k:=s.bk hb
 h _ (e▸k.1) k.2
theorem nw1 {t0:TypeId} {u0:Array Value} (h:∀W',Gr W W'→Hid (Bk W' (W.heap.size) t0 u0)→G A W'):G A (W.alloc (.cells u0 t0)):=
 h _ (Gr.alloc (Gr.refl W) _) (Bk.made W t0 u0)
theorem nw1c {t0:TypeId} {u0:Array Value} (h:∀W',Gr W W'→Hid (Bk W' (W.heap.size) t0 u0)→Calls P f args W' K):Calls P f args (W.alloc (.cells u0 t0)) K:=
 nw1 (G:=fun _ w=>Calls P f args w K) (A:=A0) h
theorem nw1h {t0:TypeId} {u0:Array Value} (h:∀W',Hid (Gr W W')→Hid (Bk W' (W.heap.size) t0 u0)→G A W'):G A (W.alloc (.cells u0 t0)):=
 h _ (Gr.alloc (Gr.refl W) _) (Bk.made W t0 u0)
theorem nw1hc {t0:TypeId} {u0:Array Value} (h:∀W',Hid (Gr W W')→Hid (Bk W' (W.heap.size) t0 u0)→Calls P f args W' K):Calls P f args (W.alloc (.cells u0 t0)) K:=
 nw1h (G:=fun _ w=>Calls P f args w K) (A:=A0) h
theorem nw2 {t0 t1:TypeId} {u0 u1:Array Value} (h:∀W',Gr W W'→Hid (Bk W' (W.heap.size) t0 u0)→Hid (Bk W' (W.heap.size+1) t1 u1)→G A W'):G A ((W.alloc (.cells u0 t0)).alloc (.cells u1 t1)):=
 h _ (Gr.alloc (Gr.alloc (Gr.refl W) _) _) (Bk.alloc (Bk.made W t0 u0) _) (mkBk (by simp only[World.size_alloc]) t1 u1)
theorem nw2h {t0 t1:TypeId} {u0 u1:Array Value} (h:∀W',Hid (Gr W W')→Hid (Bk W' (W.heap.size) t0 u0)→Hid (Bk W' (W.heap.size+1) t1 u1)→G A W'):G A ((W.alloc (.cells u0 t0)).alloc (.cells u1 t1)):=
 h _ (Gr.alloc (Gr.alloc (Gr.refl W) _) _) (Bk.alloc (Bk.made W t0 u0) _) (mkBk (by simp only[World.size_alloc]) t1 u1)
theorem nw2hc {t0 t1:TypeId} {u0 u1:Array Value} (h:∀W',Hid (Gr W W')→Hid (Bk W' (W.heap.size) t0 u0)→Hid (Bk W' (W.heap.size+1) t1 u1)→Calls P f args W' K):Calls P f args ((W.alloc (.cells u0 t0)).alloc (.cells u1 t1)) K:=
 nw2h (G:=fun _ w=>Calls P f args w K) (A:=A0) h
theorem nw3h {t0 t1 t2:TypeId} {u0 u1 u2:Array Value} (h:∀W',Hid (Gr W W')→Hid (Bk W' (W.heap.size) t0 u0)→Hid (Bk W' (W.heap.size+1) t1 u1)→Hid (Bk W' (W.heap.size+1+1) t2 u2)→G A W'):G A (((W.alloc (.cells u0 t0)).alloc (.cells u1 t1)).alloc (.cells u2 t2)):=
 h _ (Gr.alloc (Gr.alloc (Gr.alloc (Gr.refl W) _) _) _) (Bk.alloc (Bk.alloc (Bk.made W t0 u0) _) _) (Bk.alloc (mkBk (by simp only[World.size_alloc]) t1 u1) _) (mkBk (by simp only[World.size_alloc]) t2 u2)
theorem nw3hc {t0 t1 t2:TypeId} {u0 u1 u2:Array Value} (h:∀W',Hid (Gr W W')→Hid (Bk W' (W.heap.size) t0 u0)→Hid (Bk W' (W.heap.size+1) t1 u1)→Hid (Bk W' (W.heap.size+1+1) t2 u2)→Calls P f args W' K):Calls P f args (((W.alloc (.cells u0 t0)).alloc (.cells u1 t1)).alloc (.cells u2 t2)) K:=
 nw3h (G:=fun _ w=>Calls P f args w K) (A:=A0) h
theorem nw4h {t0 t1 t2 t3:TypeId} {u0 u1 u2 u3:Array Value} (h:∀W',Hid (Gr W W')→Hid (Bk W' (W.heap.size) t0 u0)→Hid (Bk W' (W.heap.size+1) t1 u1)→Hid (Bk W' (W.heap.size+1+1) t2 u2)→Hid (Bk W' (W.heap.size+1+1+1) t3 u3)→G A W'):G A ((((W.alloc (.cells u0 t0)).alloc (.cells u1 t1)).alloc (.cells u2 t2)).alloc (.cells u3 t3)):=
 h _ (Gr.alloc (Gr.alloc (Gr.alloc (Gr.alloc (Gr.refl W) _) _) _) _) (Bk.alloc (Bk.alloc (Bk.alloc (Bk.made W t0 u0) _) _) _) (Bk.alloc (Bk.alloc (mkBk (by simp only[World.size_alloc]) t1 u1) _) _) (Bk.alloc (mkBk (by simp only[World.size_alloc]) t2 u2) _) (mkBk (by simp only[World.size_alloc]) t3 u3)
theorem nw4hc {t0 t1 t2 t3:TypeId} {u0 u1 u2 u3:Array Value} (h:∀W',Hid (Gr W W')→Hid (Bk W' (W.heap.size) t0 u0)→Hid (Bk W' (W.heap.size+1) t1 u1)→Hid (Bk W' (W.heap.size+1+1) t2 u2)→Hid (Bk W' (W.heap.size+1+1+1) t3 u3)→Calls P f args W' K):Calls P f args ((((W.alloc (.cells u0 t0)).alloc (.cells u1 t1)).alloc (.cells u2 t2)).alloc (.cells u3 t3)) K:=
 nw4h (G:=fun _ w=>Calls P f args w K) (A:=A0) h
end
end
theorem elem_of {t e size bytes:Nat} {z:Value} (hu:Tryz.prog.underlying t=some (.slice e)) (hi:(Tryz.prog.info? e).map (fun i=>(i.zero,i.size,i.bytes))=some (some z,size,bytes)) (hz:z.cells.size=size) (hp:0 < size):ElemS Tryz.prog t e size bytes:=by
 refine⟨hu,?_,hp⟩;obtain⟨i,hi,hz'⟩:=Option.map_eq_some_iff.1 hi;simp only[Prod.mk.injEq] at hz';exact⟨i,z,hi,hz'.1,hz'.2.1,hz'.2.2,hz⟩
theorem elemN:ElemS Tryz.prog 33 200 1 4:=elem_of (z:=.int .u32 0) (by kernel_rfl) (by kernel_rfl) rfl dx
theorem Sv.of_row {w:World} {B e k n:Nat} {v:Value} {xs:List Value} (h:w.ownsRow B e k v n xs) (hk:0 < k):∃y:Sv,v=y.v∧y.n=n∧y.Is w k xs∧y.Ty w e:=by
 obtain⟨hl,⟨rfl,rfl⟩ | ⟨g,cap,cur,rfl,hB,hh,hc,hx,hs,ht⟩⟩:=h
 ·rw[Nat.zero_mul] at hl;rw[List.length_eq_zero_iff.1 hl];exact⟨Sv.none,rfl,rfl,Sv.Is.none w k,fun ad h=>by cases h⟩
 ·refine⟨⟨some ⟨g,0,Option.none⟩,n,cap⟩,rfl,rfl,⟨hl,hc,hx,(fun e=>by cases e),?_⟩,fun ad ha _=>?_⟩
  ·have hb:Bk w g e cur:=hh;exact hb.sees ⟨cur.toList.drop (n*k),by rw[← ht,List.take_append_drop]⟩
  ·injection ha with ha;rw[← ha];exact⟨cur,(0,0),hh⟩
theorem Sv.Is.cells {w:World} {x:Sv} {k:Nat} {ds:List Value} (h:x.Is w k ds) {ad:Addr} (hA:x.A=some ad):∀j u,ds[j]?=some u→w.cell? (ad.add j)=some u:=fun j u hu=>by
 obtain⟨ad',e,_,hc⟩:=h.look hu;rw[hA] at e;injection e with e;subst e;exact hc
theorem Gr.of_own {w w1:World} {t:TypeId} {n:Nat} (h3:(w.alloc (.cells #[] t)).grownBy w1 (Value.slice (some ⟨w.heap.size,0,none⟩) n 0).ownBlock):Gr w w1:=
 Gr.of (((Below.refl _ w).alloc (nr _) _).grown h3 (by simp) fun k e=>by injection e with e;exact Nat.le_of_eq e)
section
attribute [local go_sem] Oper.semAt_some
theorem cloneN (w:World) (x:Sv) (ds:List Value) (h:x.Is w 1 ds) (h1:∀u∈ds,u.oneCell'=true) (hn:x.n≤1000000):
  Calls Tryz.prog 328 #[x.v] w fun e w'=>∃y:Sv,e=.returned y.v∧y.Is w' 1 ds∧y.Ty w' 200∧Gr w w':=by
 obtain⟨A,n,c⟩:=x;simp only at hn;have heq:=fun (W:World) (A:Option Addr) (n c:Nat)=>Lib.run_eql_slice_nil (P:=Tryz.prog) W 33 200 A n c 0 0 elemN.ht
 rcases A with _ | ad
 ·obtain⟨h9,rfl⟩:=h.mk0 rfl;injection h9 with _ h8 h7;subst h8 h7;go_enter Tryz.func328,Tryz.ntmps328;go_wp2;go_ret;exact⟨Sv.none,rfl,Sv.Is.none _ _,(fun ad h=>by cases h),Gr.refl w⟩
 ·have HO:Hid ((w.alloc (.cells #[] 200)).ownsRow w.heap.size 200 1 (.slice (some ⟨w.heap.size,0,none⟩) 0 0) 0 []):=⟨rfl,.inr ⟨w.heap.size,0,#[],rfl,nr _,Bk.made _ _ _,nr _,nq _,rfl,rfl⟩⟩;have HC:Hid (∀j u,ds[j]?=some u→(w.alloc (.cells #[] 200)).cell? (ad.add j)=some u):=(h.gr ((Gr.refl w).alloc _)).cells rfl;have HU:=I h1;have H1:=I h.len;simp only at H1;clear h h1;go_enter Tryz.func328,Tryz.ntmps328;go_wp2_with (at_builtin;refine wpList_appS elemN rfl _ _ rfl w.heap.size (.slice (some ⟨w.heap.size,0,none⟩) 0 0) 0 [] rfl HO.out ad n c ds rfl H1.out HC.out HU.out (by unfold maxLen;omega) om (by simp) ?_;intro v' w' h2 h3 h5);go_wp2;go_ret;rw[Nat.zero_add,List.nil_append] at h2;obtain⟨y,rfl,_,hy,hty⟩:=Sv.of_row h2 dx;exact⟨y,rfl,hy,hty,Gr.of_own h3⟩
theorem one_limbs (l:List Nat):∀u∈l.map lv,u.oneCell'=true:=by
 intro u hu;obtain⟨y,_,rfl⟩:=List.mem_map.1 hu;rfl
theorem make_any (w:World) (x:Sv) (l:List Nat) (h:x.Num w l) (hn:l.length≤1000000):
  Calls Tryz.prog 265 #[x.v] w fun e w'=>∃y:Sv,e=.returned y.v∧y.Num w' (limbs (val l))∧Gr w w':=by
 have H1:=I (trim_any w x l h);have HB:Hid ((limbs (val l)).length≤1000000):=by
  have h1:(limbs (val l)).length≤l.length:=limbs_len_le (val_lt h.lim);exact (nt h1 hn)
 clear h hn;go_enter Tryz.func265,Tryz.ntmps265;go_wp2_with fail;refine cm2 H1 fun u w1 hu G1=>?_
 have HG:=I G1;have H2:=I (cloneN w1 u _ hu.is (one_limbs _) (by rw[← hu.len];exact HB.out));clear hu H1;go_wp2_with fail;refine H2.mono ?_;rintro e w2 ⟨y,rfl,hy,hty,G2⟩;have HY:=I hy;have HT:=I hty;have HG2:=I (HG.trans G2);clear hy hty G2 HG H2;go_wp2;go_ret;exact⟨y,rfl,⟨HY.out,limbs_lim _,HT.out⟩,HG2.out⟩
end
theorem val_set:∀{o:List Nat} {j x:Nat} (v:Nat),o[j]?=some x→val (o.set j v)+B32 ^ j*x=val o+B32 ^ j*v
 | [],j,x,v,h=>by simp at h
 | y::o,0,x,v,h=>by
  simp at h;subst h;simp[val];omega
 | y::o,j+1,x,v,h=>by
  have ih:=val_set (o:=o) (j:=j) v (by simpa using h);rw[List.set_cons_succ,val,val,Nat.pow_succ,Nat.mul_comm (B32 ^ j) B32,Nat.mul_assoc,Nat.mul_assoc];have:B32*(val (o.set j v)+B32 ^ j*x)=B32*(val o+B32 ^ j*v):=by rw[ih]
  rw[Nat.mul_add,Nat.mul_add] at this;omega
theorem val_zeros (n:Nat):val (List.replicate n 0)=0:=val_zero fun x hx=>(List.mem_replicate.1 hx).2
theorem Lim.set {l:List Nat} (h:Lim l) (j:Nat) {v:Nat} (hv:v < B32):Lim (l.set j v):=fun y hy=>by
 rcases List.mem_or_eq_of_mem_set hy with h1 | h1
 ·exact h y h1
 ·rw[h1];exact hv
theorem Lim.zeros (n:Nat):Lim (List.replicate n 0):=fun y hy=>by rw[(List.mem_replicate.1 hy).2];decide
theorem val_take_all {l:List Nat} {n:Nat} (h:l.length≤n):val (l.take n)=val l:=by rw[List.take_of_length_le h]
theorem get_set_ne {o:List Nat} {i j v:Nat} (h:i≠j):(o.set i v)[j]?=o[j]?:=by rw[List.getElem?_set_ne h]
theorem get_zeros {n j:Nat} (h:j < n):(List.replicate n 0)[j]?=some 0:=by rw[List.getElem?_replicate,if_pos h]
def lim0 (l:List Nat) (i:Nat):Nat:=l.getD i 0
theorem lim0_at {l:List Nat} {i x:Nat} (h:l[i]?=some x):lim0 l i=x:=by rw[lim0,List.getD_eq_getElem?_getD,h];rfl
theorem lim0_past {l:List Nat} {i:Nat} (h:l.length≤i):lim0 l i=0:=by rw[lim0,List.getD_eq_getElem?_getD,List.getElem?_eq_none h];rfl
theorem lim0_lt {l:List Nat} (h:Lim l) (i:Nat):lim0 l i < B32:=by
 rcases Nat.lt_or_ge i l.length with hi | hi
 ·rw[lim0_at (List.getElem?_eq_getElem hi)];exact h _ (List.getElem_mem hi)
 ·rw[lim0_past hi];decide
theorem val_take_lim0 (l:List Nat) (i:Nat):val (l.take (i+1))=val (l.take i)+B32 ^ i*lim0 l i:=by
 rcases Nat.lt_or_ge i l.length with hi | hi
 ·rw[val_take_succ (List.getElem?_eq_getElem hi),lim0_at (List.getElem?_eq_getElem hi)]
 ·rw[lim0_past hi,List.take_of_length_le hi,List.take_of_length_le (by omega)];rfl
structure AddSt (a b o:List Nat) (i c m:Nat):Prop where
 len:o.length=m
 lim:Lim o
 car:c≤1
 sum:val o+B32 ^ i*c=val (a.take i)+val (b.take i)
 zer:∀j,i≤j→j < m→o[j]?=some 0
theorem AddSt.start (a b:List Nat) (m:Nat):AddSt a b (List.replicate m 0) 0 0 m:=
 ⟨by simp,Lim.zeros m,by omega,by rw[val_zeros];simp[val],fun j _ hj=>get_zeros hj⟩
theorem AddSt.step {a b o:List Nat} {i c m:Nat} (h:AddSt a b o i c m) (ha:Lim a) (hb:Lim b) (hi:i < m) {s:Nat} (hs:s=c+lim0 a i+lim0 b i):
  AddSt a b (o.set i (s % B32)) (i+1) (s / B32) m:=by
 have h1:=lim0_lt ha i;have h2:=lim0_lt hb i;have h3:=h.car;have h0:=h.zer i (Nat.le_refl _) hi;refine⟨by rw[List.length_set];exact h.len,h.lim.set i (Nat.mod_lt _ (by decide)),?_,?_,fun j hj hm=>by rw[get_set_ne (by omega)];exact h.zer j (by omega) hm⟩
 ·have:s < 2*B32:=by omega
  have:=Nat.div_lt_of_lt_mul (show s < B32*2 by omega);omega
 ·have e1:=val_set (s % B32) h0;have e2:=h.sum;have e3:=val_take_lim0 a i;have e4:=val_take_lim0 b i;have e5:B32 ^ i*(s % B32)+B32 ^ (i+1)*(s / B32)=B32 ^ i*s:=by
   rw[Nat.pow_succ,Nat.mul_assoc,← Nat.mul_add,Nat.mod_add_div]
  have e6:B32 ^ i*s=B32 ^ i*c+B32 ^ i*lim0 a i+B32 ^ i*lim0 b i:=by rw[hs,Nat.mul_add,Nat.mul_add]
  rw[Nat.mul_zero] at e1;omega
theorem AddSt.done {a b o:List Nat} {n c:Nat} (h:AddSt a b o n c (n+1)) (ha:a.length≤n) (hb:b.length≤n):
  val (o.set n c)=val a+val b∧Lim (o.set n c):=by
 have e1:=val_set c (h.zer n (Nat.le_refl _) (by omega));have e2:=h.sum;rw[val_take_all ha,val_take_all hb] at e2;rw[Nat.mul_zero] at e1;exact⟨by omega,h.lim.set n (by have:=h.car;have:=B32_eq;omega)⟩
structure SubSt (a b o:List Nat) (i c m:Nat):Prop where
 len:o.length=m
 lim:Lim o
 car:c≤1
 sum:val o+val (b.take i)=val (a.take i)+B32 ^ i*c
 zer:∀j,i≤j→j < m→o[j]?=some 0
theorem SubSt.start (a b:List Nat) (m:Nat):SubSt a b (List.replicate m 0) 0 0 m:=
 ⟨by simp,Lim.zeros m,by omega,by rw[val_zeros];simp[val],fun j _ hj=>get_zeros hj⟩
theorem SubSt.step {a b o:List Nat} {i c m:Nat} (h:SubSt a b o i c m) (ha:Lim a) (hb:Lim b) (hi:i < m) {x c':Nat} (hx:x < B32) (hc:c'≤1) (hs:x+c+lim0 b i=lim0 a i+B32*c'):
  SubSt a b (o.set i x) (i+1) c' m:=by
 have h0:=h.zer i (Nat.le_refl _) hi;refine⟨by rw[List.length_set];exact h.len,h.lim.set i hx,hc,?_,fun j hj hm=>by rw[get_set_ne (by omega)];exact h.zer j (by omega) hm⟩;have e1:=val_set x h0;have e2:=h.sum;have e3:=val_take_lim0 a i;have e4:=val_take_lim0 b i;have e5:B32 ^ i*(x+c+lim0 b i)=B32 ^ i*(lim0 a i+B32*c'):=by rw[hs]
 rw[Nat.mul_add,Nat.mul_add,Nat.mul_add] at e5;have e6:B32 ^ (i+1)*c'=B32 ^ i*(B32*c'):=by rw[Nat.pow_succ,Nat.mul_assoc]
 rw[Nat.mul_zero] at e1;omega
theorem SubSt.done {a b o:List Nat} {n c m:Nat} (h:SubSt a b o n c m) (ha:a.length≤n) (hb:b.length≤n) (hm:m≤n) (hv:val b≤val a):val o=val a - val b:=by
 have e2:=h.sum;rw[val_take_all ha,val_take_all hb] at e2;have h3:=val_lt h.lim;rw[h.len] at h3;have h4:B32 ^ m≤B32 ^ n:=Nat.pow_le_pow_right (by decide) hm;have h5:=h.car;rcases Nat.eq_zero_or_pos c with rfl | hc
 ·omega
 ·have:c=1:=by omega
  subst this;omega
structure MulSt (a b o:List Nat) (i:Nat):Prop where
 len:o.length=a.length+b.length
 lim:Lim o
 sum:val o=val (a.take i)*val b
 zer:∀j,i+b.length≤j→j < a.length+b.length→o[j]?=some 0
theorem MulSt.start (a b:List Nat):MulSt a b (List.replicate (a.length+b.length) 0) 0:=
 ⟨by simp,Lim.zeros _,by rw[val_zeros];simp[val],fun j _ hj=>get_zeros hj⟩
structure MulIn (a b o:List Nat) (i x k c:Nat):Prop where
 len:o.length=a.length+b.length
 lim:Lim o
 car:c < B32
 sum:val o+B32 ^ (i+k)*c=val (a.take i)*val b+B32 ^ i*(x*val (b.take k))
 zer:∀j,i+b.length≤j→j < a.length+b.length→o[j]?=some 0
theorem MulSt.into {a b o:List Nat} {i:Nat} (h:MulSt a b o i) (x:Nat):MulIn a b o i x 0 0:=
 ⟨h.len,h.lim,by decide,by rw[h.sum];simp[val],h.zer⟩
theorem MulIn.step {a b o:List Nat} {i x k c y z s:Nat} (h:MulIn a b o i x k c) (hi:i < a.length) (hx:x < B32) (hb:Lim b) (hy:b[k]?=some y) (hz:o[i+k]?=some z) (hs:s=c+(x*y+z)):
  MulIn a b (o.set (i+k) (s % B32)) i x (k+1) (s / B32):=by
 have hk:=(List.getElem?_eq_some_iff.1 hy).1;have h1:y < B32:=hb.at hy;have h2:z < B32:=h.lim.at hz;have h3:=h.car;have h4:x*y≤(B32 - 1)*(B32 - 1):=Nat.mul_le_mul (by omega) (by omega);have h5:s < B32*B32:=by
  have:(B32 - 1)*(B32 - 1)=18446744065119617025:=by decide
  have:B32*B32=18446744073709551616:=by decide
  have:=B32_eq;omega
 refine⟨by rw[List.length_set];exact h.len,h.lim.set _ (Nat.mod_lt _ (by decide)),Nat.div_lt_of_lt_mul h5,?_,fun j hj hm=>by rw[get_set_ne (by omega)];exact h.zer j hj hm⟩;have e1:=val_set (s % B32) hz;have e2:=h.sum;have e3:=val_take_succ hy;have e5:B32 ^ (i+k)*(s % B32)+B32 ^ (i+(k+1))*(s / B32)=B32 ^ (i+k)*s:=by
  rw[show i+(k+1)=(i+k)+1 by omega,Nat.pow_succ,Nat.mul_assoc,← Nat.mul_add,Nat.mod_add_div]
 have e6:B32 ^ (i+k)*s=B32 ^ (i+k)*c+B32 ^ (i+k)*(x*y)+B32 ^ (i+k)*z:=by rw[hs,Nat.mul_add,Nat.mul_add,Nat.add_assoc]
 have e7:B32 ^ i*(x*val (b.take (k+1)))=B32 ^ i*(x*val (b.take k))+B32 ^ (i+k)*(x*y):=by
  rw[e3,Nat.mul_add,Nat.mul_add,Nat.pow_add]
  congr 1
  simp only[Nat.mul_assoc,Nat.mul_left_comm,Nat.mul_comm]
 omega
theorem MulIn.done {a b o:List Nat} {i x c:Nat} (h:MulIn a b o i x b.length c) (ha:a[i]?=some x):MulSt a b (o.set (i+b.length) c) (i+1):=by
 have hi:=(List.getElem?_eq_some_iff.1 ha).1;have e1:=val_set c (h.zer (i+b.length) (Nat.le_refl _) (by omega));have e2:=h.sum;rw[List.take_length] at e2;refine⟨by rw[List.length_set];exact h.len,h.lim.set _ h.car,?_,fun j hj hm=>by rw[get_set_ne (by omega)];exact h.zer j (by omega) hm⟩;rw[val_take_succ ha,Nat.add_mul,Nat.mul_assoc];rw[Nat.mul_zero] at e1;omega
theorem MulSt.done {a b o:List Nat} (h:MulSt a b o a.length):val o=val a*val b:=by
 rw[h.sum,List.take_length]
structure DivSt (a o:List Nat) (d i r:Nat):Prop where
 len:o.length=a.length
 lim:Lim o
 rem:r < d
 sum:val o*d+B32 ^ i*r=B32 ^ i*val (a.drop i)
 zer:∀j,j < i→j < a.length→o[j]?=some 0
theorem DivSt.start (a:List Nat) {d:Nat} (hd:0 < d):DivSt a (List.replicate a.length 0) d a.length 0:=
 ⟨by simp,Lim.zeros _,hd,by rw[val_zeros,List.drop_length];simp[val],fun j _ hj=>get_zeros hj⟩
theorem DivSt.step {a o:List Nat} {d i r x s:Nat} (h:DivSt a o d (i+1) r) (ha:Lim a) (hx:a[i]?=some x) (hd:d < B32) (hs:s=r*B32+x):
  DivSt a (o.set i (s / d)) d i (s % d)∧s / d < B32:=by
 have hi:=(List.getElem?_eq_some_iff.1 hx).1;have h1:x < B32:=ha.at hx;have h2:=h.rem;have hq:s / d < B32:=by
  refine Nat.div_lt_of_lt_mul ?_;have:(r+1)*B32≤d*B32:=Nat.mul_le_mul_right _ h2;rw[Nat.add_mul] at this;omega
 refine⟨⟨by rw[List.length_set];exact h.len,h.lim.set _ hq,Nat.mod_lt _ (by omega),?_,fun j hj hm=>by rw[get_set_ne (by omega)];exact h.zer j (by omega) hm⟩,hq⟩;have e1:=val_set (s / d) (h.zer i (by omega) hi);have e2:=h.sum;have e3:val (a.drop i)=x+B32*val (a.drop (i+1)):=by
  obtain⟨h9,h8⟩:=List.getElem?_eq_some_iff.1 hx;rw[List.drop_eq_getElem_cons h9,h8,val]
 have e4:B32 ^ i*(s / d*d)+B32 ^ i*(s % d)=B32 ^ i*s:=by rw[← Nat.mul_add,Nat.div_add_mod' s d]
 have e5:B32 ^ i*s=B32 ^ (i+1)*r+B32 ^ i*x:=by
  rw[hs,Nat.mul_add,Nat.pow_succ,Nat.mul_comm r B32,Nat.mul_assoc]
 have e6:B32 ^ i*val (a.drop i)=B32 ^ i*x+B32 ^ (i+1)*val (a.drop (i+1)):=by
  rw[e3,Nat.mul_add,Nat.pow_succ,Nat.mul_assoc]
 rw[Nat.mul_zero,Nat.add_zero] at e1;rw[e1,Nat.add_mul,Nat.mul_assoc];omega
theorem DivSt.done {a o:List Nat} {d r:Nat} (h:DivSt a o d 0 r):val o=val a / d∧r=val a % d:=by
 have e:=h.sum;rw[Nat.pow_zero,Nat.one_mul,Nat.one_mul,List.drop_zero] at e;have h2:=h.rem
 constructor
 ·rw[← e,Nat.mul_comm,Nat.mul_add_div (by omega),Nat.div_eq_of_lt h2,Nat.add_zero]
 ·rw[← e,Nat.mul_comm,Nat.mul_add_mod,Nat.mod_eq_of_lt h2]
def Lb (w:World) (g:Nat) (o:List Nat):Prop:=Bk w g 200 (o.map lv).toArray
section
variable {w w':World} {g:Nat} {o:List Nat}
theorem Lb.put (h:Lb w g o) (i v:Nat):Lb (w.setCell ⟨g,i,none⟩ (lv v)) g (o.set i v):=by
 have:=Bk.put h i (lv v);unfold Lb;rw[List.map_set];simpa using this
theorem Lb.cell (h:Lb w g o) {i x:Nat} (hx:o[i]?=some x):w.cell? ⟨g,i,none⟩=some (.int .u32 (x:Int)):=by
 rw[Bk.cell h i];simp[hx]
theorem Lb.fz (h:Lb w g o) (i:Nat):w.frozen? ⟨g,i,none⟩=false:=Bk.frozen h i
theorem Lb.num (h:Lb w g o) (hl:Lim o) (hn:o.length≤9223372036854775807):Sv.Num w ⟨some ⟨g,0,none⟩,o.length,o.length⟩ o:=
 ⟨⟨by simp,nr _,hn,fun e=>(by cases e),Bk.sees h (by simp)⟩,hl,fun ad ha _=>by injection ha with ha;subst ha;exact⟨_,_,h⟩⟩
theorem lv_zeros (n:Nat):((List.replicate n 0).map lv).toArray=Array.replicate n (Value.int .u32 0):=by simp[lv]
theorem Lb.made (w:World) (n:Nat):Lb (w.alloc (.cells (Array.replicate n (.int .u32 0)) 200)) w.heap.size (List.replicate n 0):=by
 unfold Lb;rw[lv_zeros];exact Bk.made _ _ _
end
theorem made_u32 (n:Nat):madeCells #[Value.int .u32 0] n=Array.replicate n (Value.int .u32 0):=by
 apply Array.toList_inj.mp
 rw[toList_madeCells_one,Array.toList_replicate]
theorem info_u32:(Tryz.prog.info? 200).map (fun i=>(i.zero,i.size,i.bytes))=some (some (.int .u32 0),1,4):=by kernel_rfl
theorem makeN (n:Nat) (hn:n≤100000000) (w:World):(Instr.makeSlice 33 (.int .i64 n) (.int .i64 n)).run Tryz.prog w=.ok (.slice (some ⟨w.heap.size,0,none⟩) n n) (w.alloc (.cells (Array.replicate n (.int .u32 0)) 200)):=by
 obtain⟨i0,hi,hz0,hz1,hz2⟩:=info_parts info_u32;have:=run_make (P:=Tryz.prog) w 33 200 i0 _ elemN.ht hi hz0 .i64 .i64 n n om (Int.le_refl _) (by rw[hz2];omega) om;rw[hz1,Nat.mul_one,Int.toNat_natCast] at this;rw[← made_u32];exact this
theorem makeU (n:Nat) (hn:n≤100000000) (w:World):(Instr.makeSlice 32 (.int .i64 n) (.int .i64 n)).run Tryz.prog w=.ok (.slice (some ⟨w.heap.size,0,none⟩) n n) (w.alloc (.cells (Array.replicate n (.int .u32 0)) 200)):=by
 obtain⟨i0,hi,hz0,hz1,hz2⟩:=info_parts info_u32;have:=run_make (P:=Tryz.prog) w 32 200 i0 _ (by kernel_rfl) hi hz0 .i64 .i64 n n om (Int.le_refl _) (by rw[hz2];omega) om;rw[hz1,Nat.mul_one,Int.toNat_natCast] at this;rw[← made_u32];exact this
section
attribute [local go_sem] Oper.semAt_some
def cmpN (a b:Nat):Int:=if a < b then -1 else if b < a then 1 else 0
theorem cmpN_lt {a b:Nat} (h:a < b):cmpN a b=-1:=by rw[cmpN,if_pos h]
theorem cmpN_gt {a b:Nat} (h:b < a):cmpN a b=1:=by rw[cmpN,if_neg om,if_pos h]
theorem cmpN_eq (a:Nat):cmpN a a=0:=by rw[cmpN,if_neg om,if_neg om]
theorem drop_step {a b:List Nat} {i y:Nat} (hd:a.drop (i+1)=b.drop (i+1)) (ha:a[i]?=some y) (hb:b[i]?=some y):a.drop i=b.drop i:=by
 obtain⟨h9,h8⟩:=gs ha;obtain⟨k9,k8⟩:=gs hb;rw[List.drop_eq_getElem_cons h9,List.drop_eq_getElem_cons k9,h8,k8,hd]
theorem cmp_any (w:World) (x y:Sv) (a b:List Nat) (hx:x.Num w a) (hy:y.Num w b):
  Calls Tryz.prog 178 #[x.v,y.v] w fun e w'=>e=.returned (.int .i64 (cmpN (val a) (val b)))∧Gr w w':=by
 have H1:=I (trim_any w x a hx);have HY:=I hy;clear hx hy;go_enter Tryz.func178,Tryz.ntmps178;go_wp2_with fail;refine cm1 H1 fun u w1 HU G1=>?_
 have HG1:=I G1;have H2:=I (trim_any w1 y b (HY.gr G1));clear H1 HY;go_wp2_with fail;refine cm1 H2 fun v w2 HV G2=>?_
 have HG2:=I (HG1.trans G2);have HU2:=I (HU.gr G2);clear HG1 HU H2;obtain⟨A,n,c⟩:=u;obtain⟨B,m,d⟩:=v;have hn:(limbs (val a)).length=n:=HU2.len;have hm:(limbs (val b)).length=m:=HV.len;have hnc:n≤c:=HU2.is.cap;have hc9:c≤9223372036854775807:=HU2.is.max;have hmd:m≤d:=HV.is.cap;have hd9:d≤9223372036854775807:=HV.is.max;have HN:=I hn;have HM:=I hm;clear hn hm;simp only[Sv.v] at*;by_cases hnm:n=m
 ·subst hnm;have hnn:((n:Int) != n)=false:=by simp
  go_wp2;go_loopw [5] (fun s wr=>∃k:Nat,s=.int .i64 ((k:Int) - 1)∧k≤n∧Hid ((limbs (val a)).drop k=(limbs (val b)).drop k)∧Hid (Gr w wr)∧Hid (Gr w2 wr)) (fun s _=>(intOf s+1).toNat)
  case atStart=>
   refine⟨n,?_,nr _,?_,HG2,Gr.refl _⟩
   ·rfl
   ·exact (show (limbs (val a)).drop n=(limbs (val b)).drop n by
     rw[List.drop_of_length_le (by rw[HN.out];exact nr _),List.drop_of_length_le (by rw[HM.out];exact nr _)])
  case round=>
   obtain⟨k,rfl,hk,hD,hG,hG2⟩:=hrel;cases k with
   | zero=>
    have hE:Hid (cmpN (val a) (val b)=0):=by
     have h:=hD.out;rw[List.drop_zero,List.drop_zero] at h;rw[limbs_inj h];exact cmpN_eq _
    have h0:((0:Nat):Int) - 1=-1:=rfl;rw[h0];clear hD;go_wp2;go_ret;exact⟨by rw[hE.out];rfl,hG.out⟩
   | succ j=>
    have hj:(((j+1:Nat):Int) - 1)=(j:Int):=by omega
    rw[hj];obtain⟨p,ad,hp,hp9,hA,hb,d1⟩:=(HU2.gr hG2).at (i:=j) hk;obtain⟨q,ad2,hq,hq9,hB,hb2,d2⟩:=(HV.gr hG2).at (i:=j) hk;simp only at hA hB;subst hA hB;have e1:wr.drew.cell? (ad.add j)=some (.int .u32 p):=d1;have e2:wr.drew.cell? (ad2.add j)=some (.int .u32 q):=d2;have HL:Hid (p < q→val a < val b):=fun h=>by
     have:=val_lt_at (limbs_lim _) (limbs_lim _) hp hq hD h;rwa [vl,vl] at this
    have HR:Hid (q < p→val b < val a):=fun h=>by
     have:=val_lt_at (limbs_lim _) (limbs_lim _) hq hp hD.symm h;rwa [vl,vl] at this
    have HS:Hid (p=q→(limbs (val a)).drop j=(limbs (val b)).drop j):=fun h=>drop_step hD hp (h▸hq)
    have hG3:Hid (Gr w wr.drew):=hG.drew;have hG4:Hid (Gr w wr.drew.drew):=hG3.drew;have hG5:Hid (Gr w2 wr.drew):=hG2.drew;clear hp hq hb hb2 hp9 hq9 hD;by_cases hpq:p=q
    ·subst hpq;have HSS:=I (HS.out rfl);clear HL HR HS;go_wp2;go_region
     all_goals go_wp2
     all_goals go_roundw
     all_goals first
      | (refine⟨j,?_,by omega,HSS,hG3,hG5⟩;first | rfl | (go_num;done) | (rw[wi _ om];done))
      | (simp[intOf];done)
      | (simp[intOf];omega)
    ·rcases Nat.lt_or_ge p q with hlt | hge
     ·have hC:=I (cmpN_lt (HL.out hlt));have hpd:((p:Int) != q)=true:=by simp;omega
      have hpl:decide ((p:Int) < q)=true:=by simp;omega
      clear HL HR HS;go_wp2;go_region
      all_goals go_wp2
      all_goals go_region
      all_goals go_wp2
      all_goals go_ret
      all_goals exact⟨by rw[hC.out];rfl,hG4.out⟩
     ·have hC:=I (cmpN_gt (HR.out om));have hpd:((p:Int) != q)=true:=by simp;omega
      have hpl:decide ((p:Int) < q)=false:=by simp;omega
      clear HL HR HS;go_wp2;go_region
      all_goals go_wp2
      all_goals go_region
      all_goals go_wp2
      all_goals go_ret
      all_goals exact⟨by rw[hC.out];rfl,hG4.out⟩
 ·have HC:Hid (cmpN (val a) (val b)=if n < m then -1 else 1):=by
   by_cases h:n < m
   ·rw[if_pos h];exact cmpN_lt (lt_of_len (by rw[HN.out,HM.out];exact h))
   ·rw[if_neg h];exact cmpN_gt (lt_of_len (by rw[HN.out,HM.out];omega))
  have hnn:((n:Int) != m)=true:=by simp;omega
  by_cases h:n < m
  ·rw[if_pos h] at HC;have hd:decide ((n:Int) < m)=true:=by simp;omega
   go_wp2;go_ret;exact⟨by rw[HC.out];rfl,HG2.out⟩
  ·rw[if_neg h] at HC;have hd:decide ((n:Int) < m)=false:=by simp;omega
   go_wp2;go_ret;exact⟨by rw[HC.out];rfl,HG2.out⟩
theorem add_any (w:World) (x y:Sv) (a b:List Nat) (hx:x.Num w a) (hy:y.Num w b) (ha:a.length≤1000000) (hb:b.length≤1000000):
  Calls Tryz.prog 338 #[x.v,y.v] w fun e w'=>∃z:Sv,e=.returned z.v∧z.Num w' (limbs (val a+val b))∧Gr w w':=by
 have H1:=I (trim_any w x a hx);have HY:=I hy;have HA:Hid ((limbs (val a)).length≤1000000):=nt (limbs_len_le (val_lt hx.lim)) ha;have HB:Hid ((limbs (val b)).length≤1000000):=nt (limbs_len_le (val_lt hy.lim)) hb;clear hx hy ha hb;go_enter Tryz.func338,Tryz.ntmps338;go_wp2_with fail;refine cm1 H1 fun u w1 HU G1=>?_
 have HG1:=I G1;have H2:=I (trim_any w1 y b (HY.gr G1));clear H1 HY;go_wp2_with fail;refine cm1 H2 fun v w2 HV G2=>?_
 have HG2:=I (HG1.trans G2);have HU2:=I (HU.gr G2);clear HG1 HU H2;obtain⟨A,n,c⟩:=u;obtain⟨B,m,d⟩:=v;have HN:=I HU2.len;have HM:=I HV.len;have VA:=I (vl (val a));have VB:=I (vl (val b));simp only[Sv.v] at*;have hn9:n≤1000000:=by rw[← HN.out];exact HA.out
 have hm9:m≤1000000:=by rw[← HM.out];exact HB.out
 generalize limbs (val a)=la at*;generalize limbs (val b)=lb at*;by_cases hnm:n < m
 ·have hd:decide ((n:Int) < m)=true:=by simp;omega
  have hw0:IntKind.i64.wrap ((m:Int)+1)=(m:Int)+1:=wi _ om;have hmk:=makeN (m+1) om w2;rw[show (((m+1:Nat)):Int)=(m:Int)+1 by omega] at hmk;have HR0:=I (Lb.made w2 (m+1));have HG3:Hid (Gr w (w2.alloc (.cells (Array.replicate (m+1) (.int .u32 0)) 200))):=HG2.alloc _;have HGs:Hid (Gr w2 (w2.alloc (.cells (Array.replicate (m+1) (.int .u32 0)) 200))):=(Gr.refl w2).alloc _;have HS0:=I (AddSt.start lb la (m+1));have hg0:Hid (w.heap.size≤w2.heap.size):=HG2.size;go_wp2;clear hmk hw0;generalize hge:w2.heap.size=g at*;have HGE:=I hge;clear hge;go_loopw [6,26] (fun s6 i wr=>∃(t cr:Nat) (o:List Nat),i=.int .i64 t∧s6=.int .u64 cr∧t≤m∧cr≤1∧Hid (AddSt lb la o t cr (m+1))∧Hid (Lb wr g o)∧Hid (Gr w wr)∧Hid (Gr w2 wr)) (fun _ i _=>m - (intOf i).toNat)
  case atStart=>exact⟨0,0,_,rfl,rfl,nq _,by omega,HS0,HR0,HG3,HGs⟩
  case round=>
   obtain⟨t,cr,o,rfl,rfl,ht,hcr,hS,hR,hG,hGG⟩:=hrel;have fz:=hR.fz;by_cases htn:t < m
   ·obtain⟨p,ad,hp,hp9,hAe,hbl,d1⟩:=(HV.gr hGG).at (i:=t) htn;simp only at hAe;subst hAe;have HP:=I (lim0_at hp);have q0:=hR.cell (hS.zer t (nr _) om);have hB:=B32_eq;rw[hB] at hp9;by_cases htm:t < n
    ·obtain⟨q,ad2,hq,hq9,hBe,hbl2,d2⟩:=(HU2.gr hGG).at (i:=t) htm;simp only at hBe;subst hBe;rw[hB] at hq9;obtain⟨s,hs⟩:∃s,s=cr+p+q:=⟨_,rfl⟩;have HST:=I (hS.step HV.lim HU2.lim om (s:=s) (by rw[HP.out,lim0_at hq,hs]));obtain⟨lo,hlo⟩:∃lo,lo=s % B32:=⟨_,rfl⟩;obtain⟨hi,hhi⟩:∃hi,hi=s / B32:=⟨_,rfl⟩;rw[← hlo,← hhi] at HST;have hhi1:hi≤1:=HST.car;have E1:Hid (((cr:Int)+p+q) % 4294967296=lo):=by rw[hB] at hlo;exact (by omega:((cr:Int)+p+q) % 4294967296=lo)
     have E2:Hid (((cr:Int)+p+q) / 4294967296=hi):=by rw[hB] at hhi;exact (by omega:((cr:Int)+p+q) / 4294967296=hi)
     have HL2:=I (hR.put t lo);have HG4:=I (hG.set (p:=⟨g,t,none⟩) hg0 (lv lo));have HG5:=I (hGG.set (p:=⟨g,t,none⟩) (by rw[HGE.out];exact nr _) (lv lo));clear hp hq hbl hbl2 hlo hhi hs;go_wp2;go_roundw
     case rel=>
      rw[E1.out,E2.out];exact⟨t+1,hi,_,by go_num,rfl,by omega,hhi1,HST,HL2,HG4,HG5⟩
     case measure=>simp[intOf];omega
    ·obtain⟨s,hs⟩:∃s,s=cr+p:=⟨_,rfl⟩;have HST:=I (hS.step HV.lim HU2.lim om (s:=s) (by rw[HP.out,lim0_past (by rw[HU2.len];simp only;omega),hs];rfl));obtain⟨lo,hlo⟩:∃lo,lo=s % B32:=⟨_,rfl⟩;obtain⟨hi,hhi⟩:∃hi,hi=s / B32:=⟨_,rfl⟩;rw[← hlo,← hhi] at HST;have hhi1:hi≤1:=HST.car;have E1:Hid (((cr:Int)+p) % 4294967296=lo):=by rw[hB] at hlo;exact (by omega:((cr:Int)+p) % 4294967296=lo)
     have E2:Hid (((cr:Int)+p) / 4294967296=hi):=by rw[hB] at hhi;exact (by omega:((cr:Int)+p) / 4294967296=hi)
     have HL2:=I (hR.put t lo);have HG4:=I (hG.set (p:=⟨g,t,none⟩) hg0 (lv lo));have HG5:=I (hGG.set (p:=⟨g,t,none⟩) (by rw[HGE.out];exact nr _) (lv lo));clear hp hbl hlo hhi hs;go_wp2;go_roundw
     case rel=>
      rw[E1.out,E2.out];exact⟨t+1,hi,_,by go_num,rfl,by omega,hhi1,HST,HL2,HG4,HG5⟩
     case measure=>simp[intOf];omega
   ·obtain rfl:t=m:=by omega
    have q0:=hR.cell (hS.zer t (nr _) om);obtain⟨e1,e2⟩:=hS.done (by rw[HV.len];exact nr _) (by rw[HU2.len];simp only;omega);have HL2:=I (hR.put t cr);have HG4:=I (hG.set (p:=⟨g,t,none⟩) hg0 (lv cr));have hlen:(o.set t cr).length=t+1:=by rw[List.length_set];exact hS.len
    have HT:=I (trim_any (wr.setCell ⟨g,t,none⟩ (lv cr)) ⟨some ⟨g,0,none⟩,t+1,t+1⟩ (o.set t cr) (by rw[← hlen];exact HL2.num e2 om));rw[e1,VB.out,VA.out] at HT;clear e1 e2 hlen;go_wp2_with fail;refine cm1 HT fun z w5 HZ G5=>?_
    have HG6:=I (HG4.trans G5);clear HT;go_wp2;go_ret;exact⟨z,rfl,by rw[Nat.add_comm];exact HZ.out,HG6.out⟩
 ·have hd:decide ((n:Int) < m)=false:=by simp;omega
  have hw0:IntKind.i64.wrap ((n:Int)+1)=(n:Int)+1:=wi _ om;have hmk:=makeN (n+1) om w2;rw[show (((n+1:Nat)):Int)=(n:Int)+1 by omega] at hmk;have HR0:=I (Lb.made w2 (n+1));have HG3:Hid (Gr w (w2.alloc (.cells (Array.replicate (n+1) (.int .u32 0)) 200))):=HG2.alloc _;have HGs:Hid (Gr w2 (w2.alloc (.cells (Array.replicate (n+1) (.int .u32 0)) 200))):=(Gr.refl w2).alloc _;have HS0:=I (AddSt.start la lb (n+1));have hg0:Hid (w.heap.size≤w2.heap.size):=HG2.size;go_wp2;clear hmk hw0;generalize hge:w2.heap.size=g at*;have HGE:=I hge;clear hge;go_loopw [6,26] (fun s6 i wr=>∃(t cr:Nat) (o:List Nat),i=.int .i64 t∧s6=.int .u64 cr∧t≤n∧cr≤1∧Hid (AddSt la lb o t cr (n+1))∧Hid (Lb wr g o)∧Hid (Gr w wr)∧Hid (Gr w2 wr)) (fun _ i _=>n - (intOf i).toNat)
  case atStart=>exact⟨0,0,_,rfl,rfl,nq _,by omega,HS0,HR0,HG3,HGs⟩
  case round=>
   obtain⟨t,cr,o,rfl,rfl,ht,hcr,hS,hR,hG,hGG⟩:=hrel;have fz:=hR.fz;by_cases htn:t < n
   ·obtain⟨p,ad,hp,hp9,hAe,hbl,d1⟩:=(HU2.gr hGG).at (i:=t) htn;simp only at hAe;subst hAe;have HP:=I (lim0_at hp);have q0:=hR.cell (hS.zer t (nr _) om);have hB:=B32_eq;rw[hB] at hp9;by_cases htm:t < m
    ·obtain⟨q,ad2,hq,hq9,hBe,hbl2,d2⟩:=(HV.gr hGG).at (i:=t) htm;simp only at hBe;subst hBe;rw[hB] at hq9;obtain⟨s,hs⟩:∃s,s=cr+p+q:=⟨_,rfl⟩;have HST:=I (hS.step HU2.lim HV.lim om (s:=s) (by rw[HP.out,lim0_at hq,hs]));obtain⟨lo,hlo⟩:∃lo,lo=s % B32:=⟨_,rfl⟩;obtain⟨hi,hhi⟩:∃hi,hi=s / B32:=⟨_,rfl⟩;rw[← hlo,← hhi] at HST;have hhi1:hi≤1:=HST.car;have E1:Hid (((cr:Int)+p+q) % 4294967296=lo):=by rw[hB] at hlo;exact (by omega:((cr:Int)+p+q) % 4294967296=lo)
     have E2:Hid (((cr:Int)+p+q) / 4294967296=hi):=by rw[hB] at hhi;exact (by omega:((cr:Int)+p+q) / 4294967296=hi)
     have HL2:=I (hR.put t lo);have HG4:=I (hG.set (p:=⟨g,t,none⟩) hg0 (lv lo));have HG5:=I (hGG.set (p:=⟨g,t,none⟩) (by rw[HGE.out];exact nr _) (lv lo));clear hp hq hbl hbl2 hlo hhi hs;go_wp2;go_roundw
     case rel=>
      rw[E1.out,E2.out];exact⟨t+1,hi,_,by go_num,rfl,by omega,hhi1,HST,HL2,HG4,HG5⟩
     case measure=>simp[intOf];omega
    ·obtain⟨s,hs⟩:∃s,s=cr+p:=⟨_,rfl⟩;have HST:=I (hS.step HU2.lim HV.lim om (s:=s) (by rw[HP.out,lim0_past (by rw[HV.len];simp only;omega),hs];rfl));obtain⟨lo,hlo⟩:∃lo,lo=s % B32:=⟨_,rfl⟩;obtain⟨hi,hhi⟩:∃hi,hi=s / B32:=⟨_,rfl⟩;rw[← hlo,← hhi] at HST;have hhi1:hi≤1:=HST.car;have E1:Hid (((cr:Int)+p) % 4294967296=lo):=by rw[hB] at hlo;exact (by omega:((cr:Int)+p) % 4294967296=lo)
     have E2:Hid (((cr:Int)+p) / 4294967296=hi):=by rw[hB] at hhi;exact (by omega:((cr:Int)+p) / 4294967296=hi)
     have HL2:=I (hR.put t lo);have HG4:=I (hG.set (p:=⟨g,t,none⟩) hg0 (lv lo));have HG5:=I (hGG.set (p:=⟨g,t,none⟩) (by rw[HGE.out];exact nr _) (lv lo));clear hp hbl hlo hhi hs;go_wp2;go_roundw
     case rel=>
      rw[E1.out,E2.out];exact⟨t+1,hi,_,by go_num,rfl,by omega,hhi1,HST,HL2,HG4,HG5⟩
     case measure=>simp[intOf];omega
   ·obtain rfl:t=n:=by omega
    have q0:=hR.cell (hS.zer t (nr _) om);obtain⟨e1,e2⟩:=hS.done (by rw[HU2.len];exact nr _) (by rw[HV.len];simp only;omega);have HL2:=I (hR.put t cr);have HG4:=I (hG.set (p:=⟨g,t,none⟩) hg0 (lv cr));have hlen:(o.set t cr).length=t+1:=by rw[List.length_set];exact hS.len
    have HT:=I (trim_any (wr.setCell ⟨g,t,none⟩ (lv cr)) ⟨some ⟨g,0,none⟩,t+1,t+1⟩ (o.set t cr) (by rw[← hlen];exact HL2.num e2 om));rw[e1,VA.out,VB.out] at HT;clear e1 e2 hlen;go_wp2_with fail;refine cm1 HT fun z w5 HZ G5=>?_
    have HG6:=I (HG4.trans G5);clear HT;go_wp2;go_ret;exact⟨z,rfl,HZ.out,HG6.out⟩
theorem num_of_row {w:World} {g:Nat} {o:List Nat} {n:Nat} (h:Lb w g o) (hl:Lim o) (hn:o.length=n) (hm:n≤9223372036854775807):Sv.Num w ⟨some ⟨g,0,none⟩,n,n⟩ o:=by
 have:=h.num hl om;rw[hn] at this;exact this
theorem one_any (w:World):Calls Tryz.prog 269 #[] w fun e w'=>∃z:Sv,e=.returned z.v∧z.Num w' (limbs 1)∧Gr w w':=by
 have HR:Hid (Lb (w.alloc (.cells #[.int .u32 1] 200)) w.heap.size [1]):=Bk.made w 200 #[.int .u32 1];have HG:=I ((Gr.refl w).alloc (.cells #[.int .u32 1] 200));go_enter Tryz.func269,Tryz.ntmps269;go_wp2;go_ret;exact⟨⟨some ⟨w.heap.size,0,none⟩,1,1⟩,rfl,by rw[limbs_one dx dx];exact num_of_row HR (Lim.one dx) rfl dx,HG.out⟩
theorem unit_any (w:World) (x:Sv) (m:Nat) (hx:x.Num w (limbs m)):Calls Tryz.prog 266 #[x.v] w fun e w'=>e=.returned (.bool (decide (m=1)))∧Gr w w':=by
 obtain⟨A,n,c⟩:=x;have hn:(limbs m).length=n:=hx.len;by_cases h1:n=1
 ·subst h1;obtain⟨y,ad,hy,hy9,hA,hb,d⟩:=hx.at (i:=0) Nat.one_pos;simp only at hA;subst hA;have hl:limbs m=[y]:=by
   match hh:limbs m,hn with
   | [z],_=>rw[hh] at hy;simpa using hy
  have hv:m=y:=by rw[← vl m,hl];simp[val]
  have HD:Hid (((y:Int) == 1)=decide (m=1)):=by
   rw[hv];exact (by by_cases h:y=1<;>simp[h];omega:((y:Int) == 1)=decide (y=1))
  rw[add_zero] at d;clear hx hn hy hl hv hy9 hb;go_enter Tryz.func266,Tryz.ntmps266;go_wp2;go_ret;exact⟨by rw[← HD.out];rfl,Gr.refl w⟩
 ·have hd:((n:Int) == 1)=false:=by simp;omega
  have HD:Hid (decide (m=1)=false):=by
   have:decide (m=1)=false:=by
    rw[decide_eq_false_iff_not];rintro rfl;rw[limbs_one dx dx] at hn;exact h1 hn.symm
   exact this
  clear hx hn;go_enter Tryz.func266,Tryz.ntmps266;go_wp2;go_ret;exact⟨by rw[HD.out];rfl,Gr.refl w⟩
theorem of_any (w:World) (x:Nat) (hx:x < 18446744073709551616):Calls Tryz.prog 272 #[.int .u64 x] w fun e w'=>∃z:Sv,e=.returned z.v∧z.Num w' (limbs x)∧Gr w w':=by
 obtain⟨lo,hi,hlo,hhi,e⟩:∃lo hi,lo < B32∧hi < B32∧x=lo+B32*hi:=⟨x % B32,x / B32,Nat.mod_lt _ dx,Nat.div_lt_of_lt_mul (by rw[B32_eq];omega),(Nat.mod_add_div x B32).symm⟩;have E1:(x:Int) % 4294967296=lo:=by rw[B32_eq] at e hlo;omega
 have E2:(x:Int) / 4294967296=hi:=by rw[B32_eq] at e hlo hhi;omega
 have HR:Hid (Lb (w.alloc (.cells #[.int .u32 lo,.int .u32 hi] 200)) w.heap.size [lo,hi]):=Bk.made w 200 #[.int .u32 lo,.int .u32 hi];have HG:=I ((Gr.refl w).alloc (.cells #[.int .u32 lo,.int .u32 hi] 200));have HT:=I (trim_any _ ⟨some ⟨w.heap.size,0,none⟩,2,2⟩ [lo,hi] (num_of_row HR (fun y hy=>by simp at hy;rcases hy with rfl | rfl<;>assumption) rfl dx));rw[show val [lo,hi]=x by rw[e];simp[val]] at HT;clear e;go_enter Tryz.func272,Tryz.ntmps272;go_wp2_with fail;refine cm1 HT fun z w1 HZ G1=>?_
 have HG1:=I (HG.trans G1);clear HT;go_wp2;go_ret;exact⟨z,rfl,HZ.out,HG1.out⟩
theorem or_up {r p:Nat} (hr:r < B32) (hp:p < B32):bits .or .u64 ((r:Int)*4294967296) (p:Int)=((r*B32+p:Nat):Int):=by
 rw[B32_eq] at*;rw[show (r:Int)*4294967296=((r*4294967296:Nat):Int) by omega,u64_or_nat _ _ om om];have:=Nat.shiftLeft_add_eq_or_of_lt (i:=32) hp r;rw[Nat.shiftLeft_eq] at this;exact congrArg _ this.symm
theorem low_u64 {q:Nat} (h:q < 4294967296):IntKind.u64.wrap (q:Int) % 4294967296=(q:Int):=by rw[IntWalk.u64_in _ om];omega
theorem tmod_nat (a b:Nat):(a:Int).tmod b=((a % b:Nat):Int):=(Int.ofNat_tmod a b).symm
theorem tdiv_nat (a b:Nat):(a:Int).tdiv b=((a / b:Nat):Int):=(Int.ofNat_tdiv a b).symm
theorem short_any (w:World) (x:Sv) (a:List Nat) (d:Nat) (hx:x.Num w a) (ha:a.length≤1000000) (hd0:0 < d) (hd:d < B32):
  Calls Tryz.prog 330 #[x.v,.int .u32 d] w fun e w'=>∃y z:Sv,e=.returned (.tuple #[y.v,z.v])∧y.Num w' (limbs (val a / d))∧z.Num w' (limbs (val a % d))∧Gr w w':=by
 obtain⟨A,n,c⟩:=x;have hn:a.length=n:=hx.len;have HN:=I hn;have HX:=I hx;have hn9:n≤1000000:=by rw[← hn];exact ha
 have hmk:=makeN n om w;have HR0:=I (Lb.made w n);have HG0:Hid (Gr w (w.alloc (.cells (Array.replicate n (.int .u32 0)) 200))):=(Gr.refl w).alloc _;have HS0:=I (DivSt.start a hd0);rw[HN.out] at HS0;have hg0:Hid (w.heap.size≤w.heap.size):=nr _;have hd9:d < 4294967296:=hd;clear hx ha hn hd;(try simp only)
 go_enter Tryz.func330,Tryz.ntmps330;go_wp2;clear hmk;generalize hge:w.heap.size=g at*;have HGE:=I hge;clear hge;go_loopw [7,8] (fun s7 i wr=>∃(k r:Nat) (o:List Nat),i=.int .i64 ((k:Int) - 1)∧s7=.int .u64 r∧k≤n∧Hid (DivSt a o d k r)∧Hid (Lb wr g o)∧Hid (Gr w wr)) (fun _ i _=>(intOf i+1).toNat)
 case atStart=>exact⟨n,0,_,rfl,rfl,nr _,HS0,HR0,HG0⟩
 case round=>
  obtain⟨k,r,o,rfl,rfl,hk,hS,hR,hG⟩:=hrel;have fz:=hR.fz;have hr9:r < d:=hS.rem;cases k with
  | zero=>
   obtain⟨e1,e2⟩:=hS.done;have hlen:o.length=n:=by rw[hS.len,HN.out]
   have HT:=I (trim_any wr ⟨some ⟨g,0,none⟩,n,n⟩ o (num_of_row hR hS.lim hlen om));have HO:=I (fun W=>of_any W r (by have:=hd9;omega));rw[e1] at HT;rw[e2] at HO;have HE2:=I e2;clear e1 e2 hlen;have h0:((0:Nat):Int) - 1=-1:=rfl;rw[h0];go_wp2_with fail;refine cm1 HT fun y w5 HY G5=>?_
   have HG5:=I (hG.trans G5);clear HT;rw[HE2.out];go_wp2_with fail;refine cm1 (HO.out w5) fun z w6 HZ G6=>?_
   have HY6:=I (HY.gr G6);have HG6:=I (HG5.trans G6);clear HO;go_wp2;go_returns;exact⟨y,z,rfl,HY6.out,HZ.out,HG6.out⟩
  | succ j=>
   have hj:(((j+1:Nat):Int) - 1)=(j:Int):=by omega
   rw[hj];obtain⟨p,ad,hp,hp9,hAe,hbl,d1⟩:=(HX.gr hG).at (i:=j) hk;(try simp only at hAe)
   subst hAe;have hB:=B32_eq;rw[hB] at hp9;have q0:=hR.cell (hS.zer j om (by rw[HN.out];omega));have hrB:r < B32:=by rw[hB];omega
   obtain⟨s,hs⟩:∃s,s=r*B32+p:=⟨_,rfl⟩;obtain⟨hST,hq9⟩:=hS.step HX.lim hp (by rw[hB];exact hd9) hs;have HST:=I hST;have E0:=I (or_up hrB (by rw[hB];exact hp9));rw[← hs] at E0;have E1:=I (tmod_nat s d);have E2:Hid (IntKind.u64.wrap ((s:Int).tdiv d) % 4294967296=((s / d:Nat):Int)):=by
    rw[tdiv_nat];exact low_u64 (by rw[hB] at hq9;exact hq9)
   have HL2:=I (hR.put j (s / d));have HG5:=I (hG.set (p:=⟨g,j,none⟩) (by rw[HGE.out];exact nr _) (lv (s / d)));clear hp hbl hs hST hq9 hrB hS;generalize s / d=qu at*;generalize s % d=re at*;go_wp2;go_roundw
   case rel=>
    rw[E0.out,E1.out,E2.out];exact⟨j,re,_,rfl,rfl,by omega,HST,HL2,HG5⟩
   case measure=>first | (simp[intOf];done) | (simp[intOf];omega)
theorem or_zero {p:Nat} (hp:p < 4294967296):bits .or .u64 0 (p:Int)=(p:Int):=by
 have:=u64_or_nat 0 p om om;rw[Nat.zero_or] at this;exact this
theorem or_top {v p:Nat} (hv:v < 4294967296) (hp:p < 4294967296):bits .or .u64 (v:Int) ((p:Int)*4294967296)=((v+B32*p:Nat):Int):=by
 rw[B32_eq,show (p:Int)*4294967296=((p*4294967296:Nat):Int) by omega,u64_or_nat _ _ om om];have:=Nat.shiftLeft_add_eq_or_of_lt (i:=32) hv p;rw[Nat.shiftLeft_eq,Nat.or_comm] at this;rw[← this,Nat.mul_comm,Nat.add_comm]
theorem uint_any (w:World) (x:Sv) (m:Nat) (hx:x.Num w (limbs m)) (hm:m < 18446744073709551616):
  Calls Tryz.prog 329 #[x.v] w fun e w'=>e=.returned (.tuple #[.int .u64 m,.bool true])∧Gr w w':=by
 have H1:=I (trim_any w x _ hx);rw[vl] at H1;have hl2:(limbs m).length≤2:=limbs_len_le (by rw[B32_eq];exact hm);clear hx;go_enter Tryz.func329,Tryz.ntmps329;go_wp2_with fail;refine cm1 H1 fun u w1 HU G1=>?_
 have HG1:=I G1;clear H1;obtain⟨A,n,c⟩:=u;have HN:=I HU.len;simp only[Sv.v] at*;have hn2:n≤2:=by rw[← HN.out];exact hl2
 have V0:Hid (val ((limbs m).take 0)=0):=by rw[List.take_zero];exact rfl
 have VN:Hid (val ((limbs m).take n)=m):=by
  rw[List.take_of_length_le (by rw[HN.out];exact nr _)];exact vl m
 clear hl2;go_wp2;go_loopw [4,14] (fun s4 i wr=>∃t v:Nat,i=.int .i64 t∧s4=.int .u64 v∧t≤n∧Hid (val ((limbs m).take t)=v)∧Hid (Gr w wr)∧Hid (Gr w1 wr)) (fun _ i _=>n - (intOf i).toNat)
 case atStart=>exact⟨0,0,rfl,rfl,nq _,V0,HG1,Gr.refl _⟩
 case round=>
  obtain⟨t,v,rfl,rfl,ht,hV,hG,hGG⟩:=hrel;by_cases htn:t < n
  ·obtain⟨p,ad,hp,hp9,hAe,hbl,d1⟩:=(HU.gr hGG).at (i:=t) htn;simp only at hAe;subst hAe;have hVS:=val_take_succ hp;have hvl:v < B32 ^ t:=by
    rw[← hV.out];have:=val_lt ((limbs_lim m).take t);rw[List.length_take,HN.out,Nat.min_eq_left ht] at this;exact this
   rw[hV.out] at hVS;rw[B32_eq] at hp9;rcases (show t=0∨t=1 by omega) with rfl | rfl
   ·have hv0:v=0:=by simpa using hvl
    subst hv0;rw[add_zero] at d1;have E0:=I (or_zero hp9);have HV2:Hid (val ((limbs m).take 1)=p):=by
     rw[hVS,Nat.pow_zero,Nat.one_mul,Nat.zero_add];exact rfl
    clear hVS hvl hp hbl;go_wp2;go_roundw
    case rel=>
     rw[E0.out];exact⟨1,p,rfl,rfl,by omega,HV2,hG,hGG⟩
    case measure=>simp[intOf];omega
   ·have d2:wr.cell? ⟨ad.block,ad.off+1,none⟩=some (.int .u32 (p:Int)):=d1;clear d1;obtain rfl:n=2:=by omega
    rw[Nat.pow_one] at hVS hvl;have E0:=I (or_top (by rw[B32_eq] at hvl;exact hvl) hp9);have HV2:=I hVS;generalize v+B32*p=v2 at*;clear hVS hvl hp hbl;go_wp2;go_roundw
    case rel=>
     rw[E0.out];exact⟨2,v2,rfl,rfl,by omega,HV2,hG,hGG⟩
    case measure=>simp[intOf]
  ·obtain rfl:t=n:=by omega
   have HE:=I (hV.symm.trans VN);go_wp2;go_returns;exact⟨by rw[HE.out];rfl,hG.out⟩
theorem bitLen_bd {x:Nat} (h:0 < x) (hx:x < B32):0 < Lib.bitLen x∧Lib.bitLen x≤32:=by
 obtain⟨h1,h2,_⟩:=Lib.bitLenAux_bounds 64 x (nm hx dx) om;refine⟨h1,Nat.le_of_not_lt fun h3=>?_⟩;have h4:2 ^ 32≤2 ^ (Lib.bitLenAux 64 x - 1):=Nat.pow_le_pow_right dx (by unfold Lib.bitLen at h3;omega);rw[B32_eq] at hx;omega
theorem bits_any (w:World) (x:Sv) (l:List Nat) (hx:x.Num w l) (hl:l.length≤1000000):
  Calls Tryz.prog 220 #[x.v] w fun e w'=>(∃r:Nat,e=.returned (.int .i64 r)∧r≤100000000∧((r:Int) == 0)=decide (val l=0))∧Gr w w':=by
 have H1:=I (trim_any w x l hx);have HA:Hid ((limbs (val l)).length≤1000000):=nt (limbs_len_le (val_lt hx.lim)) hl;clear hx hl;go_enter Tryz.func220,Tryz.ntmps220;go_wp2_with fail;refine cm2 H1 fun u w1 hu G1=>?_
 obtain⟨A,n,c⟩:=u;have HN:=I hu.len;have hn9:n≤1000000:=nt (Nat.le_of_eq HN.symm) HA;have HU:=I hu;have HG1:=I G1;clear hu H1;simp only[Sv.v] at*;by_cases h0:n=0
 ·have HZ:Hid (val l=0):=limbs_len0.1 (HN.trans h0);have hd:((n:Int) == 0)=true:=by simp[h0]
  go_wp2;go_ret;exact⟨⟨0,rfl,by omega,by rw[HZ.out];rfl⟩,HG1.out⟩
 ·have HZ:Hid (decide (val l=0)=false):=by
   have h:¬val l=0:=fun h=>h0 (HN.symm.trans (limbs_len0.2 h))
   exact df h
  have hd:((n:Int) == 0)=false:=by simp;omega
  obtain⟨j,rfl⟩:∃j,n=j+1:=⟨n - 1,by omega⟩;obtain⟨p,ad,hp,hp9,hAe,hbl,d1⟩:=HU.at (i:=j) (Nat.lt_succ_self j);simp only at hAe;subst hAe;have hp0:p≠0:=by
   have:=limbs_cano (val l) p;rw[List.getLast?_eq_getElem?,HN.out] at this;exact this hp
  obtain⟨hpos,hpos2⟩:=bitLen_bd (x:=p) om hp9;have HL:=I (fun W=>Tryz.bits_Len32 (p:Int) W om (by rw[B32_eq] at hp9;omega));clear hp hbl hp0;have hj:((j+1:Nat):Int) - 1=j:=by omega
  rw[Int.toNat_natCast] at HL;generalize Lib.bitLen p=q at*;go_wp2_with fail;refine (HL.out w1).mono ?_;rintro e w2 ⟨rfl,rfl⟩;clear HL;have hw:IntKind.i64.wrap (32*(j:Int)+q)=32*(j:Int)+q:=wi _ om;go_wp2;go_ret;exact⟨⟨32*j+q,by go_num,by omega,by rw[HZ.out];simp;omega⟩,HG1.out⟩
theorem under_any (w:World) (x:Rv) (q:Q) (hx:x.Is w q) (hl:(limbs q.den).length≤1000000):
  Calls Tryz.prog 217 #[x.v] w fun e w'=>∃y:Sv,e=.returned y.v∧y.Num w' (limbs q.un)∧Gr w w':=by
 obtain⟨s,num,den⟩:=x;have b1:=Bk.made w 35 #[.bool s,num.v,den.v];have HG1:=I ((Gr.refl w).alloc (.cells #[.bool s,num.v,den.v] 35));have HB:=I b1;have HD:=I (hx.den.gr HG1);have H1:=I (bits_any _ den _ HD hl);have HO:=I one_any;rw[vl] at H1;have c2:=b1.cell 2;clear hx hl b1;simp only[Rv.v] at*;go_enter Tryz.func217,Tryz.ntmps217;go_wp2_with fail;refine H1.mono ?_;rintro e w1 ⟨⟨r,rfl,hr,hr0⟩,G1⟩;have HG2:=I (HG1.trans G1);have HD2:=I (HD.gr G1);have c3:=(G1.bk HB).cell 2;clear G1 H1 HB c2;by_cases h0:q.den=0
 ·have HU:Hid (q.un=1):=by unfold Q.un;exact if_pos h0
  rw[dt h0] at hr0;go_wp2_with fail;refine cm1 (HO.out w1) fun y w2 HY G2=>?_
  have HG3:=I (HG2.trans G2)

  go_wp2;go_ret;exact⟨y,rfl,by rw[HU.out];exact HY.out,HG3.out⟩
 ·have HU:Hid (q.un=q.den):=by unfold Q.un;exact if_neg h0
  rw[df h0] at hr0;go_wp2;go_ret;exact⟨den,rfl,by rw[HU.out];exact HD2.out,HG2.out⟩
theorem lz_shift {x:Nat} (h:0 < x) (hx:x < B32):2147483648≤x*2 ^ (32 - Lib.bitLen x)∧x*2 ^ (32 - Lib.bitLen x) < B32:=by
 obtain⟨h1,h2,h3⟩:=Lib.bitLenAux_bounds 64 x (nm hx dx) om;obtain⟨p1,p2⟩:=bitLen_bd h hx;unfold Lib.bitLen at*;generalize Lib.bitLenAux 64 x=q at*;have e1:(2:Nat) ^ (q - 1)*2 ^ (32 - q)=2 ^ 31:=by rw[← Nat.pow_add];congr 1;omega
 have e2:(2:Nat) ^ q*2 ^ (32 - q)=2 ^ 32:=by rw[← Nat.pow_add];congr 1;omega
 have m1:2 ^ (q - 1)*2 ^ (32 - q)≤x*2 ^ (32 - q):=Nat.mul_le_mul_right _ (by assumption);have m2:x*2 ^ (32 - q) < 2 ^ q*2 ^ (32 - q):=Nat.mul_lt_mul_of_pos_right (by assumption) (Nat.two_pow_pos _);rw[B32_eq];omega
theorem lz_any (w:World) (x:Nat) (h:0 < x) (hx:x < B32):
  Calls Tryz.prog 331 #[.int .u32 (x:Int)] w fun e w'=>e=.returned (.int .i64 ((32 - Lib.bitLen x:Nat):Int))∧Gr w w':=by
 obtain⟨hpos,hpos2⟩:=bitLen_bd h hx;have HL:=I (fun W=>Tryz.bits_Len32 (x:Int) W om (by rw[B32_eq] at hx;omega));rw[Int.toNat_natCast] at HL;generalize Lib.bitLen x=q at*;clear h hx;have hc:(32:Int) - (q:Int)=((32 - q:Nat):Int):=by omega
 have HC:=I hc;clear hc;go_enter Tryz.func331,Tryz.ntmps331;go_wp2_with fail;refine (HL.out w).mono ?_;rintro e w2 ⟨rfl,rfl⟩;clear HL;go_wp2;rw[HC.out];go_ret;exact⟨rfl,Gr.refl _⟩
theorem trim2_any (w:World) (x:Sv) (l:List Nat) (h:x.Num w l) (h0:val l≠0):
  Calls Tryz.prog 218 #[x.v] w fun e w'=>e=.returned (.slice x.A (limbs (val l)).length x.c)∧Gr w w':=by
 obtain⟨A,n,c⟩:=x;have HI:=I h;have hn:=h.is.cap;have hc:=h.is.max;have HL:=I h.len;have H0:=I h0;simp only at hn hc HL ⊢;clear h h0;go_enter Tryz.func218,Tryz.ntmps218;go_wp2;go_loopw [3] (fun s wr=>∃k:Nat,s=.int .i64 k∧k≤n∧Hid (∀i x,k≤i→l[i]?=some x→x=0)∧Hid (Gr w wr)) (fun s _=>(intOf s).toNat)
 case atStart=>exact⟨n,rfl,nr _,(fun i x hi hx=>by rw[List.getElem?_eq_none (by rw[HL.out];exact hi)] at hx;cases hx),Gr.refl w⟩
 case round=>
  obtain⟨k,rfl,hk,hZ,hG⟩:=hrel;cases k with
  | zero=>exact absurd (by have e:=val_take (l:=l) (k:=0) hZ;rw[← e];rfl) H0
  | succ j=>
   obtain⟨y,ad,hy,hy9,hA,hb,d⟩:=(HI.gr hG).at (i:=j) hk;simp only at hA;subst hA;have hw1:IntKind.i64.wrap ((j:Int)+1 - 1)=(j:Int):=by rw[wi _ om];omega
   have hw2:IntKind.i64.wrap (((j+1:Nat):Int) - 1)=(j:Int):=by rw[wi _ om];omega
   by_cases hy0:y=0
   ·subst hy0;have HZ:=I (zero_down hZ hy);clear hy hy9 hb hZ;go_wp2;go_roundw
    case rel=>exact⟨j,by go_num,by omega,HZ,hG⟩
    case measure=>first | (simp[intOf];done) | (simp[intOf];omega)
   ·have HT:=I (trimmed (k:=j+1) HI.lim (by rw[HL.out];exact hk) hZ (fun x _ hx=>by
     rw[Nat.add_sub_cancel,hy] at hx;injection hx with hx;omega))
    have HK:Hid ((limbs (val l)).length=j+1):=by
     have h:(limbs (val l)).length=j+1:=by rw[← HT.out,List.length_take,HL.out];exact Nat.min_eq_left hk
     exact h
    clear hy hy9 hb hZ;go_wp2;go_ret;exact⟨by rw[HK.out];rfl,hG.out⟩
end
structure Half (K M:Nat):Prop where
 prod:M*K=B32
 k0:0 < K
 m0:0 < M
theorem half_of {k:Nat} (h:k≤32):Half (2 ^ k) (2 ^ (32 - k)):=
 ⟨by rw[← Nat.pow_add,show 32 - k+k=32 by omega],Nat.two_pow_pos _,Nat.two_pow_pos _⟩
section
variable {K M p z:Nat}
theorem Half.low (h:Half K M):p*K % B32=p % M*K:=by rw[← h.prod];exact Nat.mul_mod_mul_right K p M
theorem Half.high (h:Half K M):p*K / B32=p / M:=by rw[← h.prod];exact Nat.mul_div_mul_right p M h.k0
theorem Half.lt (h:Half K M) (hp:p < B32):p / M < K:=Nat.div_lt_of_lt_mul (by rw[h.prod];exact hp)
theorem Half.fits (h:Half K M) (hz:z < K):z+p % M*K < B32:=by
 have h1:p % M+1≤M:=Nat.mod_lt _ h.m0;have h2:=Nat.mul_le_mul_right K h1;rw[h.prod,Nat.add_mul,Nat.one_mul] at h2;omega
end
theorem or_low {k p z:Nat} (hk:k≤32) (hz:z < 2 ^ k):bits .or .u32 (z:Int) ((p*2 ^ k % B32:Nat):Int)=((z+p*2 ^ k % B32:Nat):Int):=by
 have H:=half_of hk;have h1:z+p*2 ^ k % B32 < B32:=by rw[H.low];exact H.fits hz
 have hB:=B32_eq;rw[u32_or_nat _ _ (by omega) (by omega),Nat.or_comm,nat_join k _ _ (by rw[H.low];exact Nat.mul_mod_left _ _) hz,Nat.add_comm]
structure LefSt (a o:List Nat) (i k:Nat):Prop where
 len:o.length=a.length+1
 lim:Lim o
 sum:val o=val (a.take i)*2 ^ k
 low:∀z,o[i]?=some z→z < 2 ^ k
 zer:∀j,i < j→j < a.length+1→o[j]?=some 0
theorem LefSt.start (a:List Nat) (k:Nat):LefSt a (List.replicate (a.length+1) 0) 0 k:=
 ⟨by simp,Lim.zeros _,by rw[val_zeros];simp[val],fun z hz=>by rw[get_zeros (Nat.succ_pos _)] at hz;cases hz;exact Nat.two_pow_pos k,fun j _ hj=>get_zeros hj⟩
theorem LefSt.step {a o:List Nat} {i k p z:Nat} (h:LefSt a o i k) (ha:Lim a) (hk:k≤32) (hp:a[i]?=some p) (hz:o[i]?=some z):
  LefSt a ((o.set i (z+p*2 ^ k % B32)).set (i+1) (p*2 ^ k / B32)) (i+1) k:=by
 have H:=half_of hk;have hi:i < a.length:=(List.getElem?_eq_some_iff.1 hp).1;have hp9:=ha.at hp;have hz9:=h.low z hz;have h1:o[i+1]?=some 0:=h.zer (i+1) (by omega) (by omega);have h2:(o.set i (z+p*2 ^ k % B32))[i+1]?=some 0:=by rw[get_set_ne (by omega)];exact h1
 have hlo:z+p*2 ^ k % B32 < B32:=by rw[H.low];exact H.fits hz9
 have hhi:p*2 ^ k / B32 < 2 ^ k:=by rw[H.high];exact H.lt hp9
 have hKB:2 ^ k≤B32:=by rw[← H.prod];exact Nat.le_mul_of_pos_left _ H.m0
 refine⟨by rw[List.length_set,List.length_set];exact h.len,(h.lim.set i hlo).set (i+1) (Nat.lt_of_lt_of_le hhi hKB),?_,fun y hy=>?_,fun j hj hm=>?_⟩
 ·have e1:=val_set (z+p*2 ^ k % B32) hz;have e2:=val_set (p*2 ^ k / B32) h2;have e3:=val_take_succ hp;rw[e3,Nat.add_mul];have e4:B32 ^ i*p*2 ^ k=B32 ^ i*(p*2 ^ k % B32)+B32 ^ (i+1)*(p*2 ^ k / B32):=by
   rw[Nat.pow_succ,Nat.mul_assoc (B32 ^ i) B32,← Nat.mul_add,Nat.mod_add_div,Nat.mul_assoc]
  have e5:=h.sum;rw[Nat.mul_add] at e1;rw[Nat.mul_zero] at e2;omega
 ·rw[List.getElem?_set_self (by rw[List.length_set,h.len];omega)] at hy;cases hy;exact hhi
 ·rw[get_set_ne (by omega),get_set_ne (by omega)];exact h.zer j (by omega) hm
theorem LefSt.done {a o:List Nat} {k:Nat} (h:LefSt a o a.length k):val o=val a*2 ^ k:=by
 rw[h.sum,List.take_length]
section
attribute [local go_sem] Oper.semAt_some
theorem shl_step {p k:Nat} (hp:p < B32) (hk:k≤32):IntKind.u64.wrap (IntKind.u64.wrap (p:Int)*2 ^ k)=((p*2 ^ k:Nat):Int):=by
 have hB:=B32_eq;rw[hB] at hp;have h1:(2:Nat) ^ k≤4294967296:=Nat.pow_le_pow_right (n:=2) dx hk;have h2:p*2 ^ k≤4294967295*4294967296:=Nat.mul_le_mul om h1;rw[IntWalk.u64_in (p:Int) om,show (p:Int)*2 ^ k=((p*2 ^ k:Nat):Int) by push_cast;rfl,IntWalk.u64_in _ om]
theorem left_any (w:World) (x:Sv) (a:List Nat) (k:Nat) (hx:x.Num w a) (ha:a.length≤1000000) (hk:k≤31):
  Calls Tryz.prog 332 #[x.v,.int .i64 (k:Int)] w fun e w'=>∃(g:Nat) (o:List Nat),e=.returned (.slice (some ⟨g,0,none⟩) o.length o.length)∧o.length=a.length+1∧Lim o∧val o=val a*2 ^ k∧(∀z,o[a.length]?=some z→z < 2 ^ k)∧Lb w' g o∧w.heap.size≤g∧Gr w w':=by
 obtain⟨A,n,c⟩:=x;have hn:a.length=n:=hx.len;have HN:=I hn;have HX:=I hx;have hn9:n≤1000000:=by rw[← hn];exact ha
 have hmk:=makeN (n+1) om w;rw[show (((n+1:Nat)):Int)=(n:Int)+1 by omega] at hmk;have HR0:=I (Lb.made w (n+1));have HG0:Hid (Gr w (w.alloc (.cells (Array.replicate (n+1) (.int .u32 0)) 200))):=(Gr.refl w).alloc _;have HS0:=I (LefSt.start a k);rw[HN.out] at HS0;have HK:=I hk;have hk0:(0:Int)≤(k:Int):=by omega
 have hk9:(k:Int)≤64:=by omega
 clear hx ha hn hk;(try simp only)
 go_enter Tryz.func332,Tryz.ntmps332;go_wp2;clear hmk;generalize hge:w.heap.size=g at*;have HGE:=I hge;clear hge;go_loopw [15] (fun i wr=>∃(t:Nat) (o:List Nat),i=.int .i64 t∧t≤n∧Hid (LefSt a o t k)∧Hid (Lb wr g o)∧Hid (Gr w wr)) (fun i _=>n - (intOf i).toNat)
 case atStart=>exact⟨0,_,rfl,nq _,HS0,HR0,HG0⟩
 case round=>
  obtain⟨t,o,rfl,ht,hS,hR,hG⟩:=hrel;have fz:=hR.fz;have hlen:o.length=n+1:=by rw[hS.len,HN.out]
  by_cases htn:t < n
  ·obtain⟨p,ad,hp,hp9,hAe,hbl,d1⟩:=(HX.gr hG).at (i:=t) htn;(try simp only at hAe)
   subst hAe;obtain⟨z,hz⟩:∃z,o[t]?=some z:=⟨_,ge om⟩;obtain⟨y,hy⟩:∃y,o[t+1]?=some y:=⟨_,ge om⟩;have q0:=hR.cell hz;have q1:=hR.cell hy;have HST:=I (hS.step HX.lim (by have:=HK.out;omega) hp hz);have E0:=I (shl_step hp9 (by have:=HK.out;omega:k≤32));have E1:=I (or_low (k:=k) (p:=p) (by have:=HK.out;omega:k≤32) (hS.low z hz));have EM:Hid (((p*2 ^ k:Nat):Int) % 4294967296=((p*2 ^ k % B32:Nat):Int)):=by rw[B32_eq];exact (Int.natCast_emod _ _).symm
   have ED:Hid (((p*2 ^ k:Nat):Int) / 4294967296 % 4294967296=((p*2 ^ k / B32:Nat):Int)):=by
    have h9:=(half_of (k:=k) (by have:=HK.out;omega)).lt hp9;rw[← (half_of (k:=k) (by have:=HK.out;omega)).high] at h9;have h1:(2:Nat) ^ k≤2 ^ 31:=Nat.pow_le_pow_right (n:=2) dx HK;have h3:((p*2 ^ k:Nat):Int) / 4294967296=((p*2 ^ k / B32:Nat):Int):=by rw[B32_eq];exact (Int.natCast_ediv _ _).symm
    show ((p*2 ^ k:Nat):Int) / 4294967296 % 4294967296=((p*2 ^ k / B32:Nat):Int);rw[h3];generalize p*2 ^ k / B32=v at*;omega
   have HL1:=I (hR.put t (z+p*2 ^ k % B32));have HL2:=I (HL1.put (t+1) (p*2 ^ k / B32));have HG5:=I ((hG.set (p:=⟨g,t,none⟩) (by rw[HGE.out];exact nr _) (lv (z+p*2 ^ k % B32))).set (p:=⟨g,t+1,none⟩) (by rw[HGE.out];exact nr _) (lv (p*2 ^ k / B32)));clear hp hbl hz hy hS hlen;go_wp2;go_roundw
   case rel=>
    rw[E0.out,EM.out,E1.out,ED.out];exact⟨t+1,_,by go_num,by omega,HST,HL2,HG5⟩
   case measure=>simp[intOf];omega
  ·obtain rfl:t=n:=by omega
   have h9:=hS.out;rw[← HN.out] at h9;have HV:=I h9.done;have HLM:=I h9.lim;have HLW:=I h9.low;have HLE:=I h9.len;have hg0:Hid (w.heap.size≤g):=by rw[HGE.out];exact nr _
   clear h9 hS;go_wp2;go_ret;exact⟨g,o,by rw[hlen];rfl,HLE.out,HLM.out,HV.out,HLW.out,hR.out,hg0.out,hG.out⟩
end
theorem val_low {l:List Nat} {k:Nat} (hl:Lim l) (hz:∀j x,k≤j→l[j]?=some x→x=0):val l < B32 ^ k:=by
 rw[← val_take hz];refine Nat.lt_of_lt_of_le (val_lt (hl.take k)) (Nat.pow_le_pow_right (by decide) ?_);rw[List.length_take];exact Nat.min_le_left _ _
structure RedSt (p v o:List Nat) (q t i c b:Nat):Prop where
 len:o.length=p.length
 lim:Lim o
 car:c < B32
 bor:b≤1
 sum:val o+B32 ^ t*(q*val (v.take i))=val p+B32 ^ (t+i)*(c+b)
 rest:∀j,(j < t∨t+i≤j)→o[j]?=p[j]?
theorem RedSt.start {p v:List Nat} (hp:Lim p) (q t:Nat):RedSt p v p q t 0 0 0:=
 ⟨rfl,hp,by decide,Nat.zero_le _,by simp[val],fun _ _=>rfl⟩
theorem RedSt.step {p v o:List Nat} {q t i c b d u s x b':Nat} (h:RedSt p v o q t i c b) (hv:Lim v) (hq:q < B32) (hd:v[i]?=some d) (hu:o[t+i]?=some u) (hs:s=c+q*d)
  (hx:x < B32) (hb:b'≤1) (e:x+s % B32+b=u+B32*b'):RedSt p v (o.set (t+i) x) q t (i+1) (s / B32) b':=by
 have hd9:=hv.at hd;refine⟨by rw[List.length_set];exact h.len,h.lim.set _ hx,?_,hb,?_,fun j hj=>?_⟩
 ·have h1:=h.car;have h2:q*d≤(B32 - 1)*(B32 - 1):=Nat.mul_le_mul (by omega) (by omega);refine Nat.div_lt_of_lt_mul ?_;rw[hs];have h3:(B32 - 1)*(B32 - 1)+(B32 - 1) < B32*B32:=by decide
  omega
 ·have e1:=val_set x hu;have e2:=h.sum;rw[val_take_succ hd,Nat.mul_add,Nat.mul_add];have e3:B32 ^ t*(q*(B32 ^ i*d))=B32 ^ (t+i)*(q*d):=by
   rw[Nat.pow_add,Nat.mul_left_comm q,Nat.mul_assoc]
  have e4:B32 ^ (t+i)*(c+b)+B32 ^ (t+i)*(q*d)+B32 ^ (t+i)*x=B32 ^ (t+(i+1))*(s / B32+b')+B32 ^ (t+i)*u:=by
   have e5:c+b+q*d+x=B32*(s / B32+b')+u:=by
    have:=Nat.mod_add_div s B32;rw[Nat.mul_add];omega
   rw[← Nat.mul_add,← Nat.mul_add,e5,Nat.mul_add,← Nat.add_assoc t i 1,Nat.pow_succ,Nat.mul_assoc]
  omega
 ·rw[get_set_ne (by omega)];exact h.rest j (by omega)
theorem RedSt.fine {p v o:List Nat} {q t n c b u x:Nat} (h:RedSt p v o q t n c b) (hn:v.length=n) (hu:o[t+n]?=some u) (hx:x < B32) (e:x+c+b=u):
  val (o.set (t+n) x)+B32 ^ t*(q*val v)=val p:=by
 have e1:=val_set x hu;have e2:=h.sum;rw[← hn,List.take_length] at e2;rw[hn] at e2;have e3:B32 ^ (t+n)*(c+b)+B32 ^ (t+n)*x=B32 ^ (t+n)*u:=by rw[← Nat.mul_add];congr 1;omega
 omega
theorem RedSt.over {p v o:List Nat} {q t n c b u x:Nat} (h:RedSt p v o q t n c b) (hn:v.length=n) (hu:o[t+n]?=some u) (hx:x < B32) (e:x+c+b=u+B32):
  val (o.set (t+n) x)+B32 ^ t*(q*val v)=val p+B32 ^ (t+n+1):=by
 have e1:=val_set x hu;have e2:=h.sum;rw[← hn,List.take_length] at e2;rw[hn] at e2;have e3:B32 ^ (t+n)*(c+b)+B32 ^ (t+n)*x=B32 ^ (t+n)*u+B32 ^ (t+n+1):=by rw[← Nat.mul_add,Nat.pow_succ,← Nat.mul_add];congr 1;omega
 omega
structure BackSt (p v o:List Nat) (t i c:Nat):Prop where
 len:o.length=p.length
 lim:Lim o
 car:c≤1
 sum:val o+B32 ^ (t+i)*c=val p+B32 ^ t*val (v.take i)
 rest:∀j,(j < t∨t+i≤j)→o[j]?=p[j]?
theorem BackSt.start {p v:List Nat} (hp:Lim p) (t:Nat):BackSt p v p t 0 0:=
 ⟨rfl,hp,by decide,by simp[val],fun _ _=>rfl⟩
theorem BackSt.step {p v o:List Nat} {t i c d u s:Nat} (h:BackSt p v o t i c) (hv:Lim v) (hd:v[i]?=some d) (hu:o[t+i]?=some u) (hs:s=c+(u+d)):
  BackSt p v (o.set (t+i) (s % B32)) t (i+1) (s / B32):=by
 have hd9:=hv.at hd;have hu9:=h.lim.at hu;have h1:=h.car;refine⟨by rw[List.length_set];exact h.len,h.lim.set _ (Nat.mod_lt _ (by decide)),?_,?_,fun j hj=>?_⟩
 ·have:s / B32 < 2:=Nat.div_lt_of_lt_mul (by omega);omega
 ·have e1:=val_set (s % B32) hu;have e2:=h.sum;rw[val_take_succ hd,Nat.mul_add];have e3:B32 ^ t*(B32 ^ i*d)=B32 ^ (t+i)*d:=by rw[Nat.pow_add,Nat.mul_assoc]
  have e4:B32 ^ (t+i)*(s % B32)+B32 ^ (t+(i+1))*(s / B32)=B32 ^ (t+i)*c+(B32 ^ (t+i)*u+B32 ^ (t+i)*d):=by
   rw[← Nat.add_assoc t i 1,Nat.pow_succ,Nat.mul_assoc,← Nat.mul_add,← Nat.mul_add,← Nat.mul_add,Nat.mod_add_div,hs]
  omega
 ·rw[get_set_ne (by omega)];exact h.rest j (by omega)
theorem BackSt.done {p v o:List Nat} {t n c u:Nat} (h:BackSt p v o t n c) (hn:v.length=n) (hu:o[t+n]?=some u):
  ∃k,k≤1∧val (o.set (t+n) ((u+c) % B32))+B32 ^ (t+n+1)*k=val p+B32 ^ t*val v:=by
 have hu9:=h.lim.at hu;have h1:=h.car;refine⟨(u+c) / B32,?_,?_⟩
 ·have:(u+c) / B32 < 2:=Nat.div_lt_of_lt_mul (by omega);omega
 ·have e1:=val_set ((u+c) % B32) hu;have e2:=h.sum;rw[← hn,List.take_length] at e2;rw[hn] at e2;have e4:B32 ^ (t+n)*((u+c) % B32)+B32 ^ (t+n+1)*((u+c) / B32)=B32 ^ (t+n)*u+B32 ^ (t+n)*c:=by
   rw[Nat.pow_succ,Nat.mul_assoc,← Nat.mul_add,← Nat.mul_add,Nat.mod_add_div]
  omega
theorem red_fine {U V D q r:Nat} (hD:0 < D) (hV:0 < V) (hq:U / (D*V)≤q) (e:r+D*(q*V)=U):q=U / (D*V)∧r=U % (D*V):=by
 have e1:q*(D*V)=D*(q*V):=Nat.mul_left_comm q D V;have h1:q≤U / (D*V):=(Nat.le_div_iff_mul_le (Nat.mul_pos hD hV)).2 (by rw[e1];omega);have h2:q=U / (D*V):=Nat.le_antisymm h1 hq;refine⟨h2,?_⟩;have h3:=Nat.mod_add_div U (D*V);rw[← h2,Nat.mul_comm (D*V),e1] at h3;omega
theorem red_over {U V D q r E o k:Nat} (hD:0 < D) (hV:0 < V) (hq:q≤U / (D*V)+1) (hU:U < E) (e:o+D*(q*V)=U+E) (ho:o < E) (hr:r < E) (hk:k≤1) (e2:r+E*k=o+D*V):q=U / (D*V)+1∧r=U % (D*V):=by
 have e1:q*(D*V)=D*(q*V):=Nat.mul_left_comm q D V;have h0:=Nat.mul_pos hD hV;have h1:U / (D*V) < q:=by
  refine Nat.lt_of_not_le fun h=>?_
  have:=(Nat.le_div_iff_mul_le h0).1 h;rw[e1] at this;omega
 have h2:q=U / (D*V)+1:=by omega
 refine⟨h2,?_⟩;have h3:=Nat.mod_add_div U (D*V);have h4:=Nat.mod_lt U h0;have h5:D*(q*V)=D*V*(U / (D*V))+D*V:=by rw[← e1,h2,Nat.add_mul,Nat.one_mul,Nat.mul_comm]
 rcases Nat.lt_or_ge k 1 with hk0 | hk1
 ·have:k=0:=by omega
  subst this;rw[Nat.mul_zero] at e2;omega
 ·have:k=1:=by omega
  subst this;omega
end Go.Proofs.YtbhbainhmfjpdaaGreatDoor
