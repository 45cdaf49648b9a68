/- Walks of the search and of what it calls, part 3. -/
import Derived.Test.YtbhbainhmfjpdaaGreatDoorMb
import Derived.Test.YtbhbainhmfjpdaaGreatDoorChecked
import Derived.Deep.RegionHeld3
import Derived.Deep.WholeRow
import Derived.Laws.Tables
set_option linter.unusedVariables false
set_option linter.unusedSimpArgs false
set_option maxRecDepth 100000
set_option maxHeartbeats 8000000
namespace Go.RowKit
theorem Hid.sy {a b:Nat} (h:Hid (¬a=b)):Hid (¬b=a):=fun e=>h.out e.symm
theorem Hid.nb {a c n:Nat} (h:Hid (a < n)) (k:n≤c):Hid (¬a=c):=fun e=>Nat.lt_irrefl _ (Nat.lt_of_lt_of_le h (e▸k))
end Go.RowKit
namespace Go.Proofs.YtbhbainhmfjpdaaGreatDoor
open Go.RowKit
section
section runs
variable {P:Program} {w:World} {t:Nat} {d:TypeDesc}
theorem ke {n:Nat} (h:(P.info? t).map (·.size)=some n):(sizeOf t).run P w=.ok n w:=by
 cases hq:P.info? t with
 | none=>rw[hq] at h;cases h
 | some i=>rw[hq] at h;injection h with h;simp[sizeOf,typeInfo,hq,← h]
theorem ragg {b:Bool} (h:P.underlying t=some d) (hb:d.isRow=b):(isAgg t).run P w=.ok b w:=by
 subst hb;unfold isAgg;rw[Sem.run_bind,run_underlying h w];cases d<;>rfl
theorem a34 {z:Value} (h:(P.info? t).bind (·.zero)=some z):(zeroValue t).run P w=.ok z w:=by
 cases hq:P.info? t with
 | none=>rw[hq] at h;cases h
 | some i=>rw[hq] at h;have:i.zero=some z:=h;simp[zeroValue,typeInfo,hq,this]
theorem iw {a:Addr} {v:Value} (hu:P.underlying t=some d) (hd:d.isRow=false) (h:w.cell? a=some v):(loadVar t a).run P w=.ok v w:=by
 simp[loadVar,Sem.run_bind,ragg hu hd,h]
theorem mi {n:Nat} {a:Addr} {us:List Value} (hu:P.underlying t=some d) (hd:d.isRow=true) (hi:(P.info? t).map (·.size)=some us.length) (h:∀j v,us[j]?=some v→w.cell? (a.add j)=some v):(loadVar t a).run P w=.ok (.agg us.toArray) w:=by
 simp[loadVar,Sem.run_bind,ragg hu hd,ke hi,run_loadCells_list (P:=P) w a us h]
theorem agh:∀(vs:List Value) (i off g:Nat) (t:Nat) (w:World) (cs:List Value),Bk w g t cs.toArray→off+i+vs.length≤cs.length→(∀v∈vs,v.oneCell'=true)→
  ∃w',(storeCells ⟨g,off,none⟩ vs i).run P w=.ok () w'∧Bk w' g t (spl cs (off+i) vs).toArray∧Fr (fun b=>b=g) w w'
 | [],i,off,g,t,w,cs,hb,_,_=>⟨w,rfl,hb,Fr.refl _ _⟩
 | v::vs,i,off,g,t,w,cs,hb,hl,h1=>by
  rw[zW] at hl;have hc:w.cell? ((⟨g,off,none⟩:Addr).add i)=some (cs[off+i]'om):=by
   rw[ij,hb.cell];simp
  have hf:w.frozen? ((⟨g,off,none⟩:Addr).add i)=false:=by rw[ij];exact hb.frozen _
  have hb':Bk (w.setCell ((⟨g,off,none⟩:Addr).add i) v) g t (cs.set (off+i) v).toArray:=by
   rw[ij];have:=hb.put (off+i) v;simpa using this
  obtain⟨w',h2,h3,h4⟩:=agh vs (i+1) off g t _ (cs.set (off+i) v) hb' (by rw[List.length_set];omega) fun u hu=>h1 u (zC _ hu)
  refine⟨w',?_,h3,(Fr.set w _ v (by rw[dq])).trans h4⟩;have:=h1 v (mf ..);simp only[storeCells,Sem.run_bind,run_store P w _ v .plain this,hc,hf,Bool.false_eq_true,if_false,Result.andThen_ok,h2]
theorem a14 {α β:Type} {f:α→Sem β} {g:α→β}:∀(l:List α),(∀x∈l,(f x).run P w=.ok (g x) w)→(l.mapM f).run P w=.ok (l.map g) w
 | [],_=>rfl
 | x::l,h=>by
  rw[List.mapM_cons,Sem.run_bind,h x (mf ..),Result.andThen_ok,Sem.run_bind,a14 l fun y hy=>h y (zC _ hy),Result.andThen_ok,Sem.run_pure,List.map_cons]
theorem a8i {α β:Type} {f:α→Sem β} {g:α→β} (xs:Array α) (h:∀x∈xs,(f x).run P w=.ok (g x) w):(xs.mapM f).run P w=.ok (xs.map g) w:=by
 rw[Array.mapM_eq_mapM_toList,map_eq_pure_bind,Sem.run_bind,a14 xs.toList fun x hx=>h x (by simpa using hx),Result.andThen_ok,Sem.run_pure]
 congr 1
 rw[← Array.toList_map,Array.toArray_toList]
end runs
theorem a88 {α:Type}:∀(cs:List α) (k:Nat) (l:List α),(spl l k cs).length=l.length
 | [],k,l=>rfl
 | c::cs,k,l=>by rw[spl,a88 cs,List.length_set]
theorem a89 {α:Type}:∀(cs l m:List α),m.length+cs.length=l.length→l.take m.length=m→spl l m.length cs=m++cs
 | [],l,m,h,hm=>by
  rw[spl,List.append_nil];rw[← List.take_length (l:=l),← h];simpa using hm
 | c::cs,l,m,h,hm=>by
  rw[spl];have:=a89 cs (l.set m.length c) (m++[c]) (by simp at h ⊢;omega) (by
   rw[zI,List.length_singleton,List.take_add_one,List.take_set_of_le (nr _),hm,List.getElem?_set_self (by simp at h;omega)];rfl)
  rw[zI,List.length_singleton] at this;rw[this,List.append_assoc];rfl
theorem a5i {l cs:List SV} {k:Nat}:over l k cs=spl l k cs:=by
 unfold over;rw[a8a];cases h:Nat.beq k 0&&Nat.beq cs.length l.length with
 | false=>rfl
 | true=>
  simp only[be] at h;obtain rfl:=zF h.1;have h2:=zF h.2;have:=a89 cs l [] (by simpa using h2) rfl;simpa using this.symm
section
variable {w:World} {X:Nat→Prop} {B:Nat→Nat} {T:Nat→Sv} {v:Value}
theorem SV.RepL.spl':∀{ds cs:List SV} {us vs:List Value} {k:Nat},SV.RepL w X B T cs us→SV.RepL w X B T ds vs→SV.RepL w X B T (spl cs k ds) (spl us k vs)
 | [],cs,us,vs,k,h,h2=>by rw[SV.RepL] at h2;subst h2;exact h
 | d::ds,cs,us,vs,k,h,h2=>by
  rw[SV.RepL] at h2;obtain⟨v,vs',rfl,h3,h4⟩:=h2;exact SV.RepL.spl' (cs:=cs.set k d) (us:=us.set k v) (k:=k+1) (h.set h3) h4
theorem a0d:∀{ps:List PV} {i:Nat},i∈SV.idsL (ps.map .pv)→False
 | [],i,h=>by rw[List.map_nil,SV.idsL] at h;cases h
 | p::ps,i,h=>by
  rw[List.map_cons,SV.idsL] at h;rcases zJ.1 h with h | h
  ·cases (show i∈([]:List Nat) from h)
  ·exact a0d h
theorem gz:∀{cs:List SV} {c:SV} {i:Nat},c∈cs→i∈c.ids→i∈SV.idsL cs
 | [],c,i,h,_=>by cases h
 | d::cs,c,i,h,hi=>by
  rw[SV.idsL];rcases zP.1 h with e | e
  ·exact zL _ (e▸hi)
  ·exact zV _ (gz e hi)
theorem wz:∀{cs:List SV} {i:Nat},i∈SV.idsL cs→∃c∈cs,i∈c.ids
 | [],i,h=>by rw[SV.idsL] at h;cases h
 | d::cs,i,h=>by
  rw[SV.idsL] at h;rcases zJ.1 h with h | h
  ·exact⟨d,mf ..,h⟩
  ·obtain⟨c,hc,hi⟩:=wz h;exact⟨c,zC _ hc,hi⟩
theorem ajm {α:Type} {l:List α} {k:Nat} {c x:α} (h:x∈l.set k c):x∈l∨x=c:=List.mem_or_eq_of_mem_set h
theorem a0c:∀{ds cs:List SV} {k i:Nat},i∈SV.idsL (spl cs k ds)→i∈SV.idsL cs∨i∈SV.idsL ds
 | [],cs,k,i,h=>.inl h
 | d::ds,cs,k,i,h=>by
  rw[spl] at h;rcases a0c h with h | h
  ·obtain⟨c,hc,hi⟩:=wz h;rcases ajm hc with h2 | h2
   ·exact .inl (gz h2 hi)
   ·refine .inr ?_;rw[SV.idsL];exact zL _ (h2▸hi)
  ·refine .inr ?_;rw[SV.idsL];exact zV _ h
theorem PV.cell_one {p:PV} (h:p.Rep w X v) (hc:p.cell=true):v.oneCell'=true:=by
 cases p with
 | raw u=>rw[PV.Rep] at h;subst h;exact hc
 | nat n=>rw[PV.Rep] at h;obtain⟨x,rfl,_⟩:=h;rfl
 | rows e k ts xs=>rw[PV.Rep] at h;obtain⟨x,us,rfl,_⟩:=h;rfl
 | ptr e cs=>rw[PV.Rep] at h;obtain⟨ad,us,rfl,_⟩:=h;rfl
 | fn f cs=>rw[PV.Rep] at h;obtain⟨us,rfl,_⟩:=h;rfl
 | agg cs=>cases hc
 | tup cs=>cases hc
theorem SV.cell_one {s:SV} (h:s.Rep w X B T v) (hc:s.cell=true):v.oneCell'=true:=by
 cases s with
 | pv p=>rw[SV.Rep] at h;exact PV.cell_one h hc
 | any=>cases hc
 | emp=>rw[SV.Rep] at h;subst h;rfl
 | nil e k ts=>rw[SV.Rep] at h;subst h;rfl
 | tok i=>rw[SV.Rep] at h;subst h;rfl
 | box i o=>rw[SV.Rep] at h;subst h;unfold hnd;cases Nat.blt o 1000000<;>cases Nat.beq o 1000000<;>rfl
 | elt i o=>cases hc
 | ref e cs=>rw[SV.Rep] at h;obtain⟨ad,us,rfl,_⟩:=h;rfl
 | agg cs=>cases hc
 | tup cs=>cases hc
 | fn f cs=>rw[SV.Rep] at h;obtain⟨us,rfl,_⟩:=h;rfl
theorem SV.RepL.one:∀{cs:List SV} {us:List Value},SV.RepL w X B T cs us→cs.all SV.cell=true→∀v∈us,v.oneCell'=true
 | [],us,h,_,v,hv=>by rw[SV.RepL] at h;subst h;cases hv
 | c::cs,us,h,hc,v,hv=>by
  rw[SV.RepL] at h;obtain⟨u,us',rfl,h1,h2⟩:=h;rw[List.all_cons,be] at hc;rcases zP.1 hv with e | e
  ·rw[e];exact SV.cell_one h1 hc.1
  ·exact SV.RepL.one h2 hc.2 v e
theorem jm (h:v.oneCell'=true):v.cells=#[v]:=by cases v<;>first | rfl | cases h
theorem a2k {s:SV} {cs:List SV} (h:s.Rep w X B T v) (hc:s.cl=some cs):∃us,v.cells=us.toArray∧SV.RepL w X B T cs us∧(∀i,i∈SV.idsL cs→i∈s.ids)∧cs.all SV.cell=true:=by
 have one:s.cell=true→∃us,v.cells=us.toArray∧SV.RepL w X B T [s] us∧(∀i,i∈SV.idsL [s]→i∈s.ids)∧[s].all SV.cell=true:=fun h1=>by
  refine⟨[v],jm (SV.cell_one h h1),SV.RepL.cons h (by rw[SV.RepL]),fun i hi=>?_,by simp[h1]⟩;rw[SV.idsL,SV.idsL,List.append_nil] at hi;exact hi
 unfold SV.cl at hc;split at hc
 ·rename_i l
  cases hh:l.all SV.cell with
  | false=>rw[hh] at hc;cases hc
  | true=>
   rw[hh] at hc;injection hc with hc;subst hc;rw[SV.Rep] at h;obtain⟨us,rfl,h⟩:=h;exact⟨us,rfl,h,fun i hi=>by rw[SV.ids];exact hi,hh⟩
 ·rename_i ps
  cases hh:ps.all PV.cell with
  | false=>rw[hh] at hc;cases hc
  | true=>
   rw[hh] at hc;injection hc with hc;subst hc;rw[SV.Rep,PV.Rep] at h;obtain⟨us,rfl,h⟩:=h;refine⟨us,rfl,SV.RepL.pv h,fun i hi=>(a0d hi).elim,?_⟩;rw[List.all_map];rw[zG] at hh ⊢;exact hh
 ·cases hh:s.cell with
  | false=>rw[hh] at hc;cases hc
  | true=>
   rw[hh] at hc;injection hc with hc;subst hc;exact one hh
end
theorem amv {w:World} {X:Nat→Prop} {B:Nat→Nat} {T:Nat→Sv} (s:SV):s.nl.Rep w X B T (.slice none 0 0)∧s.nl.ids=[]:=by
 unfold SV.nl;split
 ·exact⟨by rw[SV.Rep],rfl⟩
 ·exact⟨by rw[SV.Rep,PV.Rep];exact⟨Sv.none,rfl,by rw[al];exact Sv.Num.none w,fun ad h=>by cases h⟩,rfl⟩
 ·exact⟨by rw[SV.Rep],rfl⟩
theorem a6y {tab:Tab} {t:Nat} {w:World} {X:Nat→Prop} {B:Nat→Nat} {T:Nat→Sv} {s:SV} {v:Value} (h:s.Rep w X B T v):(a4t tab t s).Rep w X B T v∧∀i∈(a4t tab t s).ids,i∈s.ids:=by
 unfold a4t;split
 ·rw[SV.Rep] at h;subst h;split
  ·obtain⟨h1,h2⟩:=amv (w:=w) (X:=X) (B:=B) (T:=T) (Zk.sv ‹_›);exact⟨h1,fun i hi=>by rw[h2] at hi;cases hi⟩
  ·exact⟨by rw[SV.Rep],fun i hi=>hi⟩
 ·exact⟨h,fun i hi=>hi⟩
theorem a48:∀{zs:List Zk} {i:Nat},i∈SV.idsL (zs.map Zk.sv)→False
 | [],i,h=>by rw[List.map_nil,SV.idsL] at h;cases h
 | z::zs,i,h=>by
  rw[List.map_cons,SV.idsL] at h;rcases zJ.1 h with h | h
  ·cases z<;>cases (show i∈([]:List Nat) from h)
  ·exact a48 h
theorem a0v {w:World} {X:Nat→Prop} {B:Nat→Nat} {T:Nat→Sv}:∀{zs:List Zk},SV.RepL w X B T (zs.map Zk.sv) (zs.map Zk.val)
 | []=>by simp[SV.RepL]
 | z::zs=>by
  refine SV.RepL.cons ?_ a0v;cases z with
  | raw v=>rw[Zk.sv,SV.Rep,PV.Rep];rfl
  | nat=>rw[Zk.sv,SV.Rep,PV.Rep];exact⟨Sv.none,rfl,by rw[al];exact Sv.Num.none w,fun ad h=>by cases h⟩
  | rows e k ts=>rw[Zk.sv,SV.Rep];rfl
section
variable {C:Cx} {tys:List Nat} {o:Oper} {st:St} {e:Eff}
theorem az {a:Act} {w:World} {B:Nat→Nat} {T:Nat→Sv} (h:InvB C st a w B T) {x:Operand} {s:SV} (hx:ev st x=some s):s.Rep w (Own0 C st B T) B T (a.eval x)∧∀i∈s.ids,(st.res i).isSome=true:=by
 unfold ev at hx;split at hx
 ·rename_i t
  split at hx
  ·rename_i e cs hs
   injection hx with hx;subst hx;have h1:=h.slot t _ hs;rw[SV.Rep,PV.Rep] at h1;exact⟨by rw[SV.Rep];exact h1,fun i hi=>by cases (show i∈([]:List Nat) from hi)⟩
  ·exact⟨h.slot t s hx,h.live t s hx⟩
 ·rename_i v
  injection hx with hx;subst hx;unfold aha;split
  ·exact⟨by rw[SV.Rep];rfl,fun i hi=>by cases (show i∈([]:List Nat) from hi)⟩
  ·exact⟨by rw[SV.Rep,PV.Rep];rfl,fun i hi=>by cases (show i∈([]:List Nat) from hi)⟩
 ·rename_i f
  injection hx with hx;subst hx;exact⟨by rw[SV.Rep,PV.Rep];rfl,fun i hi=>by cases (show i∈([]:List Nat) from hi)⟩
 ·cases hx
def Agree (o:Oper) (rb:List Nat) (st st1:St):Prop:=(∀t∈mo o,st1.slot t=st.slot t)∧∀i∈rb,st1.res i=st.res i
theorem Agree.ev {rb:List Nat} {st st1:St} (h:Agree o rb st st1) {x:Operand} (hx:x∈o.op.operands):ev st1 x=ev st x:=by
 cases x with
 | tmp t=>
  have:=h.1 t (List.mem_filterMap.2 ⟨.tmp t,by simpa using hx,rfl⟩);simp only[Go.Proofs.YtbhbainhmfjpdaaGreatDoor.ev,this]
 | _=>rfl
theorem bj {s:SV} {rb:List Nat} (hd:∀d,o.dst=some d→C.dk d) (h:∀st1,Agree o (rb++[]) st st1→∀a w B T,InvB C st1 a w B T→∃v,(execOp a.eval o).run C.P w=.ok (.value v) w∧s.Rep w (Own0 C st1 B T) B T v∧∀i∈s.ids,(st1.res i).isSome=true):OpE C tys o st (valE s rb):=by
 refine⟨fun i r e=>(by cases e),fun st1 h1 h2 _ a w ⟨B,T,hi⟩=>?_⟩;obtain⟨v,hr,hs,hl⟩:=h st1 ⟨h1,h2⟩ a w B T hi;exact cd hr (ow hi (Gr.refl w) hs hl hd)
theorem a67 {cs:List SV} {n k i:Nat} (h:i∈SV.idsL ((cs.drop k).take n)):i∈SV.idsL cs:=by
 obtain⟨c,hc,hi⟩:=wz h;exact gz (List.mem_of_mem_drop (List.mem_of_mem_take hc)) hi
theorem pw {P:Program} {w:World} {t n off:Nat} {d:TypeDesc} {us:List Value} (hu:P.underlying t=some d) (hs:(P.info? t).map (·.size)=some n):
  (d.isRow=false→∀v,us[off]?=some v→(part t us.toArray off).run P w=.ok v w)∧(d.isRow=true→(part t us.toArray off).run P w=.ok (.agg ((us.drop off).take n).toArray) w):=by
 constructor
 ·intro hd v hv;simp[part,Sem.run_bind,ragg hu hd,hv]
 ·intro hd;simp[part,Sem.run_bind,ragg hu hd,ke hs]
theorem r5 {tab:Tab} (hT:ie C.P tab) (hd:∀d,o.dst=some d→C.dk d) (h:evalOp tab o st=some e):OpE C st.tys o st e:=by
 have mem0:∀{x:Operand} {op:Op},o.op=op→x∈op.operands→x∈o.op.operands:=fun e h=>by rw[e];exact h
 unfold evalOp at h;split at h
 iterate 2
  ·rename_i x ho
   split at h
   ·rename_i hx
    injection h with h;subst h;refine bj hd fun st1 ag a w B T hi=>?_
    rw[← ag.ev (mem0 ho (by simp[Op.operands]))] at hx;obtain⟨h1,h2⟩:=az hi hx;obtain⟨h3,h4⟩:=a6y (tab:=tab) (t:=o.type) h1;exact⟨_,by simp only[execOp,ho];rfl,h3,fun i hi=>h2 i (h4 i hi)⟩
   ·rename_i s hx hne
    injection h with h;subst h;refine bj hd fun st1 ag a w B T hi=>?_
    rw[← ag.ev (mem0 ho (by simp[Op.operands]))] at hne;obtain⟨h1,h2⟩:=az hi hne;exact⟨_,by simp only[execOp,ho];rfl,h1,h2⟩
   ·cases h
 ·-- pick
  rename_i c x y ho
  have pk:∀{z:Operand} {b:Bool} {s:SV},ev st c=some (.pv (.raw (.bool b)))→ev st (if b then x else y)=some s→OpE C st.tys o st (valE s []):=fun {z b s} hc hx=>by
   refine bj hd fun st1 ag a w B T hi=>?_
   rw[← ag.ev (mem0 ho (by simp[Op.operands]))] at hc;rw[← ag.ev (mem0 ho (by cases b<;>simp[Op.operands]))] at hx;obtain⟨h1,h2⟩:=az hi hx;have h3:=(az hi hc).1;rw[SV.Rep,PV.Rep] at h3;refine⟨_,?_,h1,h2⟩;simp only[execOp,ho,h3,asBool];cases b<;>rfl
  split at h
  ·rename_i hc
   split at h
   ·rename_i s hx
    injection h with h;subst h;exact pk (z:=x) hc hx
   ·cases h
  ·rename_i hc
   split at h
   ·rename_i s hx
    injection h with h;subst h;exact pk (z:=x) hc hx
   ·cases h
  ·cases h
 ·-- extract
  rename_i x i ho
  split at h
  ·rename_i cs hx
   split at h
   ·rename_i s hs
    injection h with h;subst h;refine bj hd fun st1 ag a w B T hi=>?_
    rw[← ag.ev (mem0 ho (by simp[Op.operands]))] at hx;obtain⟨h1,h2⟩:=az hi hx;rw[SV.Rep] at h1;obtain⟨us,hv,h1⟩:=h1;obtain⟨u,hu,hr⟩:=h1.at hs;refine⟨u,?_,hr,fun j hj=>h2 j (by rw[SV.ids];exact gz (mg hs) hj)⟩;simp[execOp,ho,hv,Instr.extract,hu]
   ·cases h
  ·rename_i ps hx
   split at h
   ·rename_i s hs
    injection h with h;subst h;refine bj hd fun st1 ag a w B T hi=>?_
    rw[← ag.ev (mem0 ho (by simp[Op.operands]))] at hx;obtain⟨h1,h2⟩:=az hi hx;rw[SV.Rep,PV.Rep] at h1;obtain⟨us,hv,h1⟩:=h1;obtain⟨u,hu,hr⟩:=PV.RepL.at h1 hs;refine⟨u,?_,by rw[SV.Rep];exact hr,fun j hj=>by cases (show j∈([]:List Nat) from hj)⟩;simp[execOp,ho,hv,Instr.extract,hu]
   ·cases h
  ·cases h
 ·-- field
  rename_i t x j ho
  split at h
  ·rename_i l hl
   have lk:=Tab.get_ok hT hl;split at h
   ·rename_i off n hf
    obtain⟨fs,f,d,hu,hfs,ho1,hs1,hu1,hd1,h0,h1',hle⟩:=lk.flds j off n false hf;split at h
    ·rename_i cs hx
     split at h
     ·rename_i s hs
      injection h with h;subst h;refine bj hd fun st1 ag a w B T hi=>?_
      rw[← ag.ev (mem0 ho (by simp[Op.operands]))] at hx;obtain⟨h1,h2⟩:=az hi hx;rw[SV.Rep] at h1;obtain⟨us,hv,h1⟩:=h1;obtain⟨u,hu2,hr⟩:=h1.at hs;refine⟨u,?_,hr,fun j hj=>h2 j (by rw[SV.ids];exact gz (mg hs) hj)⟩;have:=(pw (P:=C.P) (w:=w) (us:=us) (off:=off) hu1 hs1).1 hd1 u hu2;simp[execOp,ho,hv,Instr.field,run_underlying hu,hfs,asAgg,ho1,this]
     ·cases h
    ·rename_i ps hx
     split at h
     ·rename_i s hs
      injection h with h;subst h;refine bj hd fun st1 ag a w B T hi=>?_
      rw[← ag.ev (mem0 ho (by simp[Op.operands]))] at hx;obtain⟨h1,h2⟩:=az hi hx;rw[SV.Rep,PV.Rep] at h1;obtain⟨us,hv,h1⟩:=h1;obtain⟨u,hu2,hr⟩:=PV.RepL.at h1 hs;refine⟨u,?_,by rw[SV.Rep];exact hr,fun j hj=>by cases (show j∈([]:List Nat) from hj)⟩;have:=(pw (P:=C.P) (w:=w) (us:=us) (off:=off) hu1 hs1).1 hd1 u hu2;simp[execOp,ho,hv,Instr.field,run_underlying hu,hfs,asAgg,ho1,this]
     ·cases h
    ·cases h
   ·rename_i off n hf
    obtain⟨fs,f,d,hu,hfs,ho1,hs1,hu1,hd1,h0,h1',hle⟩:=lk.flds j off n true hf;split at h
    ·rename_i cs hx
     injection h with h;subst h;refine bj hd fun st1 ag a w B T hi=>?_
     rw[← ag.ev (mem0 ho (by simp[Op.operands]))] at hx;obtain⟨h1,h2⟩:=az hi hx;rw[SV.Rep] at h1;obtain⟨us,hv,h1⟩:=h1;refine⟨.agg ((us.drop off).take n).toArray,?_,?_,fun j hj=>h2 j (by rw[SV.ids] at hj ⊢;exact a67 hj)⟩
     ·have:=(pw (P:=C.P) (w:=w) (us:=us) (off:=off) hu1 hs1).2 hd1;simp[execOp,ho,hv,Instr.field,run_underlying hu,hfs,asAgg,ho1,this]
     ·rw[SV.Rep];exact⟨_,rfl,(h1.drop off).take n⟩
    ·rename_i ps hx
     injection h with h;subst h;refine bj hd fun st1 ag a w B T hi=>?_
     rw[← ag.ev (mem0 ho (by simp[Op.operands]))] at hx;obtain⟨h1,h2⟩:=az hi hx;rw[SV.Rep,PV.Rep] at h1;obtain⟨us,hv,h1⟩:=h1;refine⟨.agg ((us.drop off).take n).toArray,?_,?_,fun j hj=>by cases (show j∈([]:List Nat) from hj)⟩
     ·have:=(pw (P:=C.P) (w:=w) (us:=us) (off:=off) hu1 hs1).2 hd1;simp[execOp,ho,hv,Instr.field,run_underlying hu,hfs,asAgg,ho1,this]
     ·rw[SV.Rep,PV.Rep];exact⟨_,rfl,(PV.RepL.drop off h1).take n⟩
    ·cases h
   ·cases h
  ·cases h
 ·-- fieldAddr
  rename_i t x j ho
  split at h
  ·rename_i l hl
   have lk:=Tab.get_ok hT hl;split at h
   ·rename_i off n ag' hf
    obtain⟨fs,f,d,hu,hfs,ho1,hs1,hu1,hd1,h0,h1',hle⟩:=lk.flds j off n ag' hf;have hrun:∀(w:World) (ad:Addr),(Instr.fieldAt t (.pointer (some ad)) j).run C.P w=.ok (.pointer (some (ad.add off))) w:=fun w ad=>by
     have:=ke (w:=w) hs1;have hn:¬n=0:=by omega
     simp[Instr.fieldAt,run_underlying hu,hfs,Instr.sureAddr,fieldPlace,this,ho1,hn]
    split at h
    ·rename_i id o' hx
     split at h
     ·rename_i hoo
      injection h with h;subst h;refine bj hd fun st1 ag a w B T hi=>?_
      rw[← ag.ev (mem0 ho (by simp[Op.operands]))] at hx;obtain⟨h1,h2⟩:=az hi hx;have ho':Nat.blt o' 1000000=true:=Nat.ble_eq_true_of_le (nj (Nat.le_add_right o' off) (zD hoo));rw[SV.Rep,mw ho'] at h1;refine⟨_,by simp only[execOp,ho,h1,Sem.run_bind,hrun];rfl,by rw[SV.Rep,mw hoo,ij],h2⟩
     ·cases h
    ·rename_i id o' hx
     injection h with h;subst h;refine bj hd fun st1 ag a w B T hi=>?_
     rw[← ag.ev (mem0 ho (by simp[Op.operands]))] at hx;obtain⟨h1,h2⟩:=az hi hx;rw[SV.Rep] at h1;obtain⟨g,h3,h4⟩:=h1;refine⟨.pointer (some ((⟨g,o',none⟩:Addr).add off)),by simp only[execOp,ho,h4,Sem.run_bind,hrun];rfl,by rw[SV.Rep,ij];exact⟨g,h3,rfl⟩,h2⟩
    ·rename_i e' cs hx
     injection h with h;subst h;refine bj hd fun st1 ag a w B T hi=>?_
     rw[← ag.ev (mem0 ho (by simp[Op.operands]))] at hx;obtain⟨h1,h2⟩:=az hi hx;rw[SV.Rep] at h1;obtain⟨ad,us,hv,h3,h4,h5⟩:=h1;refine⟨.pointer (some (ad.add off)),by simp only[execOp,ho,hv,Sem.run_bind,hrun];rfl,?_,fun j hj=>by cases (show j∈([]:List Nat) from hj)⟩;rw[SV.Rep];refine⟨ad.add off,us.drop off,rfl,PV.RepL.drop off h3,fun hc=>?_,fun j u hu=>?_⟩
     ·have:=h4 (fun e=>hc (by rw[e,List.drop_nil]));rw[dq];exact this
     ·rw[sr];exact h5 (off+j) u (by rw[List.getElem?_drop] at hu;exact hu)
    ·cases h
   ·cases h
  ·cases h
 ·-- load
  rename_i t x ho
  split at h
  ·rename_i l hl
   have lk:=Tab.get_ok hT hl;obtain⟨d,hu,hdr⟩:=lk.agg;split at h
   ·rename_i id off hx
    split at h
    ·rename_i ty cs hres
     have fin:∀{s:SV},(∀(a:Act) (w:World) (us:List Value) (b:Nat),w.heap[b]?=some (.cells us.toArray ty)→us.length=cs.length→∀X B T,SV.RepL w X B T cs us→∃v,(loadVar t ⟨b,off,none⟩).run C.P w=.ok v w∧s.Rep w X B T v)→(∀i∈s.ids,i∈SV.idsL cs)→OpE C st.tys o st (valE s [id]):=fun {s} hf hids=>by
      refine bj hd fun st1 ag a w B T hi=>?_
      rw[← ag.ev (mem0 ho (by simp[Op.operands]))] at hx;obtain⟨hres,hof,hty⟩:=yi hres;rw[← ag.2 id (zL _ (zH.2 rfl))] at hres;obtain⟨h1,h2⟩:=az hi hx;rw[SV.Rep,mw hof] at h1;obtain⟨h3,us,h4,h5⟩:=hi.inn id _ hres;have h4:=h4.bk hty;obtain⟨v,hv,hs⟩:=hf a w us (B id) h4 h5.len _ _ _ h5;exact⟨v,by simp only[execOp,ho,h1,Instr.loadAt,Instr.sureAddr,Sem.run_bind,Sem.run_pure,Result.andThen_ok,hv],hs,fun i hi2=>hi.alive id _ hres i (hids i hi2)⟩
     split at h
     ·rename_i hag
      split at h
      ·rename_i s hs
       injection h with h;subst h;refine fin (fun a w us b hb hl X B T hr=>?_) fun i hi=>gz (mg hs) hi
       obtain⟨u,hu2,hr2⟩:=hr.at hs;exact⟨u,iw hu (hdr.trans hag) (by rw[cell_of_row w b off _ ty (0,0) hb];simpa using hu2),hr2⟩
      ·cases h
     ·rename_i hag
      have many:∀{k:Nat} {ds:List SV},off+l.zero.length≤cs.length→OpE C st.tys o st (valE (.agg ((cs.drop off).take l.zero.length)) [id]):=fun {k ds} hle=>by
       refine fin (fun a w us b hb hl2 X B T hr=>?_) fun i hi=>by rw[SV.ids] at hi;exact a67 hi
       refine⟨.agg ((us.drop off).take l.zero.length).toArray,mi (n:=l.zero.length) hu (hdr.trans hag) (by rw[lk.size,List.length_take,List.length_drop,hl2];congr 1;omega) fun j v hv=>?_,by rw[SV.Rep];exact⟨_,rfl,(hr.drop off).take _⟩⟩;rw[ij,cell_of_row w b _ _ ty (0,0) hb];rw[List.getElem?_take] at hv;split at hv
       ·rw[List.getElem?_drop] at hv;simpa using hv
       ·cases hv
      split at h
      ·rename_i hb
       injection h with h;subst h;simp only[be] at hb;obtain rfl:=zF hb.1;have hle:=zF hb.2;have:=many (k:=0) (ds:=[]) om;rwa [List.drop_zero,← hle,List.take_length] at this
      ·cases hb:Nat.ble (off+l.zero.length) cs.length with
       | false=>rw[hb] at h;cases h
       | true=>
        rw[hb] at h;injection h with h;subst h;exact many (k:=0) (ds:=[]) (zD hb)
    ·cases h
   ·rename_i e' cs hx
    have fin:∀{s:SV},s.ids=[]→(∀(w:World) (us:List Value) (ad:Addr) X B T,PV.RepL w X cs us→(∀j u,us[j]?=some u→w.cell? (ad.add j)=some u)→∃v,(loadVar t ad).run C.P w=.ok v w∧s.Rep w X B T v)→OpE C st.tys o st (valE s []):=fun {s} hids hf=>by
     refine bj hd fun st1 ag a w B T hi=>?_
     rw[← ag.ev (mem0 ho (by simp[Op.operands]))] at hx;obtain⟨h1,h2⟩:=az hi hx;rw[SV.Rep] at h1;obtain⟨ad,us,hv,h3,h4,h5⟩:=h1;obtain⟨v,hr,hs⟩:=hf w us ad _ B T h3 h5;exact⟨v,by simp only[execOp,ho,hv,Instr.loadAt,Instr.sureAddr,Sem.run_bind,Sem.run_pure,Result.andThen_ok,hr],hs,fun i hi2=>by rw[hids] at hi2;cases hi2⟩
    split at h
    ·rename_i hag
     split at h
     ·rename_i p hp
      injection h with h;subst h;refine fin rfl fun w us ad X B T hr hc=>?_
      obtain⟨u,hu2,hr2⟩:=hr.at hp;refine⟨u,iw hu (hdr.trans hag) (by have:=hc 0 u hu2;rwa [add_zero] at this),by rw[SV.Rep];exact hr2⟩
     ·cases h
    ·rename_i hag
     have many:l.zero.length≤cs.length→OpE C st.tys o st (valE (.pv (.agg (cs.take l.zero.length))) []):=fun hle=>by
      refine fin rfl fun w us ad X B T hr hc=>?_
      have hl2:=hr.len;refine⟨.agg (us.take l.zero.length).toArray,mi (n:=l.zero.length) hu (hdr.trans hag) (by rw[lk.size,List.length_take,hl2];congr 1;omega) fun j v hv=>?_,by rw[SV.Rep,PV.Rep];exact⟨_,rfl,hr.take _⟩⟩;rw[List.getElem?_take] at hv;split at hv
      ·exact hc j v hv
      ·cases hv
     split at h
     ·rename_i hb
      injection h with h;subst h;have hle:=zF hb;have:=many om;rwa [← hle,List.take_length] at this
     ·cases hb:Nat.ble l.zero.length cs.length with
      | false=>rw[hb] at h;cases h
      | true=>
       rw[hb] at h;injection h with h;subst h;exact many (zD hb)
   ·cases h
  ·cases h
 ·-- alloc
  rename_i t ho
  split at h
  ·rename_i l d hl hdst
   have lk:=Tab.get_ok hT hl;split at h
   ·rename_i hres
    cases hb:st.tys.contains t&&Nat.blt t 1000000 with
    | false=>rw[hb] at h;cases h
    | true=>
     rw[hb] at h;injection h with h;subst h;rw[be] at hb;obtain⟨hb,hbt⟩:=hb;refine⟨fun i r e=>by injection e with e;injection e with e1 e2;subst e1 e2;exact⟨zH.2 rfl,zE.1 hb⟩,fun st1 h1 h2 _ a w ⟨B,T,hi⟩=>?_⟩;rw[← h2 d (zH.2 rfl)] at hres;have zr:∀(zs:List Zk) X,SV.RepL w X B T (zs.map Zk.sv) (zs.map Zk.val):=fun zs X=>a0v
     have hz:∃z:Value,(C.P.info? t).bind (·.zero)=some z∧z.cells=(l.zero.map Zk.val).toArray:=by
      refine⟨_,lk.zero,?_⟩;cases hag:l.agg with
      | true=>rfl
      | false=>
       have:=lk.one hag;obtain⟨z,hz⟩:=List.length_eq_one_iff.1 this;rw[hz];exact jm (lk.cel z (by rw[hz];exact zH.2 rfl))
     obtain⟨z,hz1,hz2⟩:=hz;have run:(execOp a.eval o).run C.P w=.ok (.value (.pointer (some ⟨w.heap.size,0,none⟩))) (w.alloc (.cells (l.zero.map Zk.val).toArray t)):=by
      simp[execOp,ho,Instr.alloc,a34 hz1,newVar,newRow,hz2]
     refine cd run ?_;have:=a07 (dst:=o.dst) (id:=d) (ty:=t) (rb:=[d]) hi hres (C.hF d (hd d hdst).1) hbt (zr l.zero _) (fun i hi=>(a48 hi).elim) hd;exact this
   ·cases h
  ·cases h
 ·-- box
  rename_i t x ho
  split at h
  ·rename_i d hdst
   split at h
   ·rename_i hres
    split at h
    ·rename_i s hx
     split at h
     ·rename_i cs hcl
      cases hb:st.tys.contains t&&Nat.blt t 1000000 with
      | false=>rw[hb] at h;cases h
      | true=>
       rw[hb] at h;injection h with h;subst h;rw[be] at hb;obtain⟨hb,hbt⟩:=hb;refine⟨fun i r e=>by injection e with e;injection e with e1 e2;subst e1 e2;exact⟨mf ..,zE.1 hb⟩,fun st1 h1 h2 _ a w ⟨B,T,hi⟩=>?_⟩;rw[← h2 d (mf ..)] at hres;rw[← Agree.ev ⟨h1,h2⟩ (mem0 ho (by simp[Op.operands]))] at hx;obtain⟨h3,h4⟩:=az hi hx;obtain⟨us,h5,h6,h7,_⟩:=a2k h3 hcl;have run:(execOp a.eval o).run C.P w=.ok (.value (.pointer (some ⟨w.heap.size,0,none⟩))) (w.alloc (.cells us.toArray t)):=by
        simp[execOp,ho,Instr.box,newVar,newRow,h5]
       exact cd run (a07 hi hres (C.hF d (hd d hdst).1) hbt h6 (fun i hi2=>h4 i (h7 i hi2)) hd)
     ·cases h
    ·cases h
   ·cases h
  ·cases h
 ·-- build
  rename_i t parts ho
  split at h
  ·rename_i l hl
   have lk:=Tab.get_ok hT hl;split at h
   ·rename_i hag
    obtain⟨fs,hu,hfsz⟩:=lk.flda fun e=>by rw[e] at hag;cases hag
    -- what the parts come to
    have key:∀(ps:List (Nat×Operand)) (cs:List SV),evalOp.fillS l st cs ps=some e→cs.length=l.zero.length→(∀p∈ps,p.2∈o.op.operands)→∃cs',e=valE (.agg cs') []∧(∀st1,Agree o e.rb st st1→∀a w B T,InvB C st1 a w B T→(∀i∈SV.idsL cs,(st1.res i).isSome=true)→∀us,SV.RepL w (Own0 C st1 B T) B T cs us→∀(place:Nat→Option (Nat×Nat)),(∀i off n ag,l.flds[i]?=some (off,n,ag)→place i=some (off,n))→
      ∃us',Instr.fill place us.toArray (ps.map fun p=>(p.1,a.eval p.2))=some us'.toArray∧SV.RepL w (Own0 C st1 B T) B T cs' us'∧∀i∈SV.idsL cs',(st1.res i).isSome=true):=by
     intro ps
     induction ps with
     | nil=>
      intro cs hf _ _;simp only[evalOp.fillS] at hf;injection hf with hf;exact⟨cs,hf.symm,fun st1 ag a w B T hi hal us hr place hp=>⟨us,rfl,hr,hal⟩⟩
     | cons p ps ih=>
      intro cs hf hcs hmem;obtain⟨i,x⟩:=p;simp only[evalOp.fillS] at hf;split at hf
      ·rename_i off n ag' hfl
       split at hf
       ·rename_i s hx
        split at hf
        ·rename_i ds hcl
         cases hb:Nat.beq ds.length n with
         | false=>rw[hb] at hf;cases hf
         | true=>
          rw[hb] at hf;have hn:=zF hb;obtain⟨fs,f,d',hu',hfs,ho1,hs1,hu1,hd1,h0,h1',hle⟩:=lk.flds i off n ag' hfl;simp only[cond_true,x6] at hf;rw[a5i] at hf;obtain⟨cs',he,hs⟩:=ih (spl cs off ds) hf (by rw[a88];exact hcs) (fun q hq=>hmem q (zC _ hq));refine⟨cs',he,fun st1 ag a w B T hi hal us hr place hp=>?_⟩;have hx':=hx;rw[← ag.ev (hmem (i,x) (mf ..))] at hx';obtain⟨h3,h4⟩:=az hi hx';obtain⟨vs,h5,h6,h7,_⟩:=a2k h3 hcl;have hr':SV.RepL w (Own0 C st1 B T) B T (spl cs off ds) (spl us off vs):=hr.spl' h6;obtain⟨us',g1,g2,g3⟩:=hs st1 ag a w B T hi (fun j hj=>(a0c hj).elim (hal j) fun h=>h4 j (h7 j h)) _ hr' place hp;refine⟨us',?_,g2,g3⟩;have hlv:vs.length=n:=by rw[h6.len,hn]
          have hfold:∀(vs:List Value) (k:Nat) (us:List Value),((vs.zipIdx k).foldl (fun (cs:Array Value) (p:Value×Nat)=>cs.setIfInBounds (off+p.2) p.1) us.toArray)=(spl us (off+k) vs).toArray:=by
           intro vs
           induction vs with
           | nil=>intro k us;rfl
           | cons v vs ih2=>
            intro k us;rw[spl,Nat.add_assoc,← ih2,List.zipIdx_cons,List.foldl_cons];simp
          simp only[List.map_cons,Instr.fill,hp i off n ag' hfl,h5,List.size_toArray,hlv];have hul:us.length=l.zero.length:=by rw[hr.len,hcs]
          rw[if_neg (by simp;omega)];have:=hfold vs 0 us;rw[Nat.add_zero] at this;rw[← g1,← this,← Array.foldl_toList,Array.toList_zipIdx]
        ·cases hf
       ·cases hf
      ·cases hf
    have hpm:∀p∈parts.toList,p.2∈o.op.operands:=fun p hp=>by
     rw[ho];simp only[Op.operands,List.mem_toArray,List.mem_map];exact⟨p,hp,rfl⟩
    obtain⟨cs',he,hs⟩:=key parts.toList _ h (by simp) hpm;subst he;refine bj hd fun st1 ag a w B T hi=>?_
    have zr:∀(zs:List Zk) X,SV.RepL w X B T (zs.map Zk.sv) (zs.map Zk.val):=fun zs X=>a0v
    obtain⟨us',g1,g2,g3⟩:=hs st1 ag a w B T hi (fun i hi=>(a48 hi).elim) _ (zr l.zero _) (fun i=>(fs[i]?).map fun (f:Field)=>(f.offset,((C.P.info? f.type).map (·.size)).getD 0)) (fun i off n ag' hfl=>by
     obtain⟨fs',f,d',hu',hfs,ho1,hs1,_⟩:=lk.flds i off n ag' hfl;rw[hu] at hu';injection hu' with hu';injection hu' with hu';subst hu';rw[hfs,Option.map_some,ho1,hs1];rfl)
    refine⟨.agg us'.toArray,?_,by rw[SV.Rep];exact⟨_,rfl,g2⟩,fun i hi=>g3 i (by rw[SV.ids] at hi;exact hi)⟩;have places:(fs.mapM fun (f:Field)=>do pure (f.offset,← sizeOf f.type):Sem (Array (Nat×Nat))).run C.P w=.ok (fs.map fun (f:Field)=>(f.offset,((C.P.info? f.type).map (·.size)).getD 0)) w:=by
     refine a8i fs fun f hf=>?_
     obtain⟨j,hj,hjf⟩:=Array.mem_iff_getElem.1 hf;have hj':j < l.flds.length:=by rw[← hfsz];exact hj
     obtain⟨⟨off,n,ag'⟩,hp⟩:∃p,l.flds[j]?=some p:=⟨_,ge hj'⟩;obtain⟨fs',f',d',hu',hfs,ho1,hs1,_⟩:=lk.flds j off n ag' hp;rw[hu] at hu';injection hu' with hu';injection hu' with hu';subst hu';rw[Array.getElem?_eq_getElem hj,hjf] at hfs;injection hfs with hfs;subst hfs;simp[Sem.run_bind,ke hs1,hs1]
    have hag2:l.agg=true:=by
     obtain⟨d,hd1,hd2⟩:=lk.agg;rw[hu] at hd1;injection hd1 with hd1;rw[← hd2,← hd1]
    have hz:=lk.zero;rw[hag2,if_pos rfl] at hz;have hpl:(fun i=>(fs.map fun (f:Field)=>(f.offset,((C.P.info? f.type).map (·.size)).getD 0))[i]?)=fun i=>(fs[i]?).map fun (f:Field)=>(f.offset,((C.P.info? f.type).map (·.size)).getD 0):=funext fun i=>Array.getElem?_map
    simp only[execOp,ho,Instr.build,Sem.run_bind,a34 hz,Result.andThen_ok,run_underlying hu,places,Value.cells];rw[hpl,show (parts.map fun x=>match x with | (i,x)=>(i,a.eval x)).toList=parts.toList.map fun p=>(p.1,a.eval p.2) from by rw[Array.toList_map]];rw[g1];rfl
   ·cases h
  ·cases h
 ·-- store
  rename_i t x y ho
  split at h
  ·rename_i l hl
   have lk:=Tab.get_ok hT hl;split at h
   ·rename_i id off hx
    split at h
    ·rename_i ty cs hres
     split at h
     ·rename_i s hy
      split at h
      ·rename_i ds hcl
       split at h
       ·rename_i hb
        rw[x6] at h;injection h with h;subst h;simp only[be] at hb;obtain⟨⟨⟨hb1,hb2⟩,hb3⟩,hb4,hb5⟩:=hb;have hn:=zF hb1;have hle:=zD hb2;have hdst:o.dst=none:=Option.isNone_iff_eq_none.1 hb4;refine⟨fun i r e=>by injection e with e;injection e with e1 e2;subst e1 e2;exact⟨mf ..,zE.1 hb5⟩,fun st1 h1 h2 _ a w ⟨B,T,hi⟩=>?_⟩;have ag:Agree o (id::SV.idsL ds) st st1:=⟨h1,h2⟩;obtain⟨hres,hof,hty⟩:=yi hres;rw[← h2 id (mf ..)] at hres;rw[← ag.ev (mem0 ho (by simp[Op.operands]))] at hx hy;obtain⟨x1,x2⟩:=az hi hx;obtain⟨y1,y2⟩:=az hi hy;rw[SV.Rep,mw hof] at x1;obtain⟨h3,us,h4,h5⟩:=hi.inn id _ hres;obtain⟨vs,v1,v2,v3,_⟩:=a2k y1 hcl;obtain⟨w',r1,r2,r3⟩:=agh (P:=C.P) vs 0 off (B id) ty w us (h4.bk hty) (by rw[h5.len,v2.len];omega) (v2.one hb3);have run:(execOp a.eval o).run C.P w=.ok .skip w':=by
         have hsz:¬(a.eval y).cells.size≠l.zero.length:=by rw[v1];simp[v2.len,hn]
         simp only[execOp,ho,x1,Instr.storeAt,Instr.sureAddr,Sem.run_bind,Sem.run_pure,Result.andThen_ok,storeVar,ke lk.size,if_neg hsz];rw[v1];simp[r1]
        unfold dj;rw[run,hdst,a5i];exact a2b hi hres (Bl.of hty (by rw[Nat.add_zero] at r2;exact r2)) r3 (h5.spl' v2) (fun i hi2=>(a0c hi2).elim (hi.alive id _ hres i) fun h=>y2 i (v3 i h))
       ·cases h
      ·cases h
     ·cases h
    ·cases h
   ·cases h
  ·cases h
 ·-- len
  rename_i c ho
  split at h
  ·rename_i x t hc ha ht
   split at h
   ·rename_i l hl
    have lk:=Tab.get_ok hT hl;cases hb:Nat.beq l.esz 0 with
    | true=>rw[hb] at h;cases h
    | false=>
     rw[hb] at h;obtain⟨hu,_⟩:=lk.elem (Nat.ne_of_beq_eq_false hb);simp only[cond_false] at h;have hmem:x∈o.op.operands:=by
      rw[ho];simp only[Op.operands,Call.operands,hc];have:=Array.mem_of_getElem? ha;simpa using this
     have run:∀(a:Act) (w:World) (A:Option Addr) (n k:Nat),a.eval x=.slice A n k→(execOp a.eval o).run C.P w=.ok (.value (.int .i64 (n:Int))) w:=fun a w A n k hv=>by
      simp only[execOp,ho,resolve,hc,Sem.run_bind,Sem.run_pure,Result.andThen_ok,invoke,builtin,Builtin.len_];have h1:(c.args.map a.eval)[0]?=some (.slice A n k):=by rw[Array.getElem?_map,ha,← hv];rfl
      simp[h1,ht,run_underlying hu,goInt]
     split at h
     ·rename_i e k ts xs hx
      injection h with h;subst h;refine bj hd fun st1 ag a w B T hi=>?_
      rw[← ag.ev hmem] at hx;obtain⟨x1,x2⟩:=az hi hx;rw[SV.Rep,PV.Rep] at x1;obtain⟨y,us,hv,hn,_⟩:=x1;exact⟨_,run a w _ _ _ hv,by rw[SV.Rep,PV.Rep,hn],fun i hi=>by cases (show i∈([]:List Nat) from hi)⟩
     ·rename_i m hx
      injection h with h;subst h;refine bj hd fun st1 ag a w B T hi=>?_
      rw[← ag.ev hmem] at hx;obtain⟨x1,x2⟩:=az hi hx;rw[SV.Rep,PV.Rep] at x1;obtain⟨y,hv,hn,_⟩:=x1;exact⟨_,run a w _ _ _ hv,by rw[SV.Rep,PV.Rep,hn.len],fun i hi=>by cases (show i∈([]:List Nat) from hi)⟩
     ·rename_i hx
      injection h with h;subst h;refine bj hd fun st1 ag a w B T hi=>?_
      rw[← ag.ev hmem] at hx;obtain⟨x1,x2⟩:=az hi hx;rw[SV.Rep] at x1;exact⟨_,run a w _ _ _ x1,by rw[SV.Rep,PV.Rep];rfl,fun i hi=>by cases (show i∈([]:List Nat) from hi)⟩
     ·rename_i e0 k0 ts0 hx
      injection h with h;subst h;refine bj hd fun st1 ag a w B T hi=>?_
      rw[← ag.ev hmem] at hx;obtain⟨x1,x2⟩:=az hi hx;rw[SV.Rep] at x1;exact⟨_,run a w _ _ _ x1,by rw[SV.Rep,PV.Rep];rfl,fun i hi=>by cases (show i∈([]:List Nat) from hi)⟩
     ·rename_i id hx
      split at h
      ·rename_i e k ts xs hres
       injection h with h;subst h;refine bj hd fun st1 ag a w B T hi=>?_
       rw[← ag.ev hmem] at hx;rw[← ag.2 id (zL _ (zH.2 rfl))] at hres;obtain⟨x1,x2⟩:=az hi hx;rw[SV.Rep] at x1;obtain⟨us,h1,h2,h3,h4,h5⟩:=hi.inn id _ hres;exact⟨_,run a w _ _ _ x1,by rw[SV.Rep,PV.Rep,h4],fun i hi=>by cases (show i∈([]:List Nat) from hi)⟩
      ·cases h
     ·cases h
   ·cases h
  ·cases h
 ·-- buildSlice
  rename_i t parts ho
  split at h
  ·rename_i l d hl hdst
   have lk:=Tab.get_ok hT hl;split at h
   ·rename_i hres
    cases hb:Nat.beq l.esz 0||!st.tys.contains l.elem||!parts.isEmpty with
    | true=>rw[hb] at h;cases h
    | false=>
     rw[hb] at h;injection h with h;subst h;simp only[Bool.or_eq_false_iff,Bool.not_eq_false'] at hb;have hk:=Nat.ne_of_beq_eq_false hb.1.1;obtain⟨hu,hsz⟩:=lk.elem hk;have hp:parts=#[]:=Array.isEmpty_iff.1 hb.2;subst hp;refine⟨fun i r e=>by injection e with e;injection e with e1 e2;subst e1 e2;exact⟨zH.2 rfl,zE.1 hb.1.2⟩,fun st1 h1 h2 _ a w ⟨B,T,hi⟩=>?_⟩;rw[← h2 d (zH.2 rfl)] at hres;have run:(execOp a.eval o).run C.P w=.ok (.value (.slice (some ⟨w.heap.size,0,none⟩) 0 0)) (w.alloc (.cells #[] l.elem)):=by
      simp[execOp,ho,Instr.buildSlice,run_underlying hu,ke hsz,Instr.fill,newRow];rw[show Array.range 0=#[] from rfl,Array.map_empty]
     refine cd run ?_;refine a05 (y:=⟨some ⟨w.heap.size,0,none⟩,0,0⟩) (us:=[]) (own:=none) hi (fun r hr=>by rw[hres] at hr;cases hr) (fun _=>rfl) ⟨rfl,rfl,rfl,by simp,fun k hk _=>Below.heap_alloc w _ k hk⟩ ⟨by simp,.inr ⟨w.heap.size,0,#[],rfl,nq _,heap_alloc_new w _,nr _,nq _,by simp,by simp⟩⟩ (.inr (.inl rfl)) PV.RepLL.nil (fun r hr=>by cases hr) rfl (Nat.pos_of_ne_zero hk) hd
   ·cases h
  ·cases h
 ·-- nilCheck
  rename_i x ho
  have run:∀(a:Act) (w:World) (ad:Addr),a.eval x=.pointer (some ad)→(execOp a.eval o).run C.P w=.ok (.value (.pointer (some ad))) w:=fun a w ad he=>by
   simp only[execOp,ho,he];first | rfl | simp
  split at h
  ·rename_i id o' hx
   split at h
   ·rename_i hoo
    injection h with h;subst h;refine bj hd fun st1 ag a w B T hi=>?_
    rw[← ag.ev (mem0 ho (by simp[Op.operands]))] at hx;obtain⟨h1,h2⟩:=az hi hx;have h3:=h1;rw[SV.Rep,mw hoo] at h3;exact⟨_,run a w _ h3,by rw[SV.Rep,mw hoo],h2⟩
   ·cases h
  ·rename_i id o' hx
   injection h with h;subst h;refine bj hd fun st1 ag a w B T hi=>?_
   rw[← ag.ev (mem0 ho (by simp[Op.operands]))] at hx;obtain⟨h1,h2⟩:=az hi hx;have h3:=h1;rw[SV.Rep] at h3;obtain⟨g,h4,h5⟩:=h3;exact⟨_,run a w _ h5,by rw[SV.Rep];exact⟨g,h4,rfl⟩,h2⟩
  ·rename_i e' cs hx
   injection h with h;subst h;refine bj hd fun st1 ag a w B T hi=>?_
   rw[← ag.ev (mem0 ho (by simp[Op.operands]))] at hx;obtain⟨h1,h2⟩:=az hi hx;have h3:=h1;rw[SV.Rep] at h3;obtain⟨ad,us,h4,h5⟩:=h3;exact⟨_,run a w _ h4,by rw[SV.Rep];exact⟨ad,us,rfl,h5⟩,h2⟩
  ·cases h
 ·-- not
  rename_i t x ho
  split at h
  ·rename_i b hx
   injection h with h;subst h;refine bj hd fun st1 ag a w B T hi=>?_
   rw[← ag.ev (mem0 ho (by simp[Op.operands]))] at hx;obtain⟨x1,x2⟩:=az hi hx;rw[SV.Rep,PV.Rep] at x1;exact⟨_,by simp only[execOp,ho,x1,Op.unary];rfl,by rw[SV.Rep,PV.Rep],fun i hi=>by cases (show i∈([]:List Nat) from hi)⟩
  ·cases h
 ·cases h
end
end
def mz (ops:Array Oper) (i:Nat):Bool:=match ops[i]? with
 | none=>false
 | some o=>(List.range ops.size).all fun k=>k == i||o.after.any fun e=>Region.binds .any e&&e.on == k
section
variable {P:Program} {ops:Array Oper} {Q:Exit→Act→World→Prop} {S:World→Prop}
def anyE (P:Program) (ops:Array Oper) (Q:Exit→Act→World→Prop) (S:World→Prop):Nat→Array Bool→Act→World→Prop
 | 0,l,a,w=>Region.ready .any ops l=[]∧Q .normal a w
 | n+1,l,a,w=>(Region.ready .any ops l=[]→Q .normal a w)∧∀i∈Region.ready .any ops l,wpOp P ops Q i (fun a' w'=>(S w'∨mz ops i=true)∧anyE P ops Q S n (l.setIfInBounds i true) a' w') a w
theorem anyE.any:∀{n:Nat} {l:Array Bool} {a:Act} {w:World},anyE P ops Q S n l a w→wpAny P .any ops Q n l a w
 | 0,_,_,_,h=>h
 | n+1,_,_,_,h=>⟨h.1,fun i hi=>wpOp_mono (fun _ _ k=>anyE.any k.2) (h.2 i hi)⟩
theorem anyE.first {i:Nat} {oi:Oper} {v:Value} (hi:ops[i]?=some oi) (hn:Region.noSelect ops=true) (hQ:∀c a w,Q (.panic c) (a.put oi.dst v) w→Q (.panic c) a w):
  ∀(n:Nat) (l:Array Bool) (a:Act) (w:World),(∀j oj,ops[j]?=some oj→j≠i→l.getD j true=false→(∀e∈oj.after,Region.binds .any e=true→e.on≠i)→oi.apart ops oj=true)→
   i∈Region.ready .any ops l→YieldsIf P ops S oi v a→S w→anyE P ops Q S n (l.setIfInBounds i true) (a.put oi.dst v) w→anyE P ops Q S (n+1) l a w:=by
 intro n
 induction n with
 | zero=>
  intro l a w _ hr hy hS H;refine⟨fun h=>(by rw[h] at hr;cases hr),fun j hj=>?_⟩;by_cases e:j=i
  ·rw[e];exact hy.wpOp hi hS ⟨.inl hS,H⟩
  ·have:=ready_mono hj e;rw[H.1] at this;cases this
 | succ n ih=>
  intro l a w hap hr hy hS H;refine⟨fun h=>(by rw[h] at hr;cases hr),fun j hj=>?_⟩;by_cases e:j=i
  ·rw[e];exact hy.wpOp hi hS ⟨.inl hS,H⟩
  ·have later:=H.2 j (ready_mono hj e);obtain⟨hun,oj,hoj,hall⟩:=mem_ready.1 hj;have li:l.getD i true=false:=(mem_ready.1 hr).1;have hno:∀e∈oj.after,Region.binds .any e=true→e.on≠i:=fun e he hb heq=>by
    have h1:=hall e he hb;rw[heq] at h1;rcases zU i l.size with h' | h'
    ·simp[h'] at li h1;rw[li] at h1;cases h1
    ·simp[zR h'] at h1
   have swapped:=wpOp_putIf hoj (hap j oj hoj e hun hno) (fun cs b=>Region.noSelect_spec hn i oi cs b hi) (fun cs b=>Region.noSelect_spec hn j oj cs b hoj) hQ hy later;refine wpOp_mono (fun a' w' ⟨hy',hS',H'⟩=>?_) swapped;have hS2:S w':=by
    rcases hS' with h | h
    ·exact h
    ·exfalso
     unfold mz at h;rw[hoj] at h;have hlt:=(Array.getElem?_eq_some_iff.1 hi).1;have:=zG.1 h i (List.mem_range.2 hlt);rw[Bool.or_eq_true] at this;rcases this with h1 | h1
     ·exact e (by simpa using (beq_iff_eq.1 h1).symm)
     ·obtain⟨x,hx,h2⟩:=Array.any_eq_true'.1 h1;simp only[be,beq_iff_eq] at h2;exact hno x hx h2.1 h2.2
   refine⟨.inl hS2,ih _ a' w' (fun k ok hk hki hl hw=>hap k ok hk hki ?_ hw) (ready_mono hr (Ne.symm e)) hy' hS2 ?_⟩
   ·by_cases ejk:j=k
    ·rw[← ejk];exact hun
    ·rw[getD_set_ne true ejk] at hl;exact hl
   ·rw[Array.setIfInBounds_comm _ _ e];exact H'
theorem anyE.take {i:Nat} {oi:Oper} {v:Value} {n:Nat} {listed:Array Bool} {a:Act} {w:World} (hi:ops[i]?=some oi) (hs:Region.noSelect ops=true) (hf:Region.free .any ops listed i=true) (hr:(Region.ready .any ops listed).contains i=true)
  (hQ:∀c a w,Q (.panic c) (a.put oi.dst v) w→Q (.panic c) a w) (hy:YieldsIf P ops S oi v a) (hS:S w) (h:anyE P ops Q S n (listed.setIfInBounds i true) (a.put oi.dst v) w):anyE P ops Q S (n+1) listed a w:=
 anyE.first hi hs hQ n listed a w (Region.free_spec hi hf) (by simpa using hr) hy hS h
theorem anyE.takeL {i:Nat} {oi:Oper} {v:Value} {n:Nat} {listed:Array Bool} {a:Act} {w:World} {l:List Oper} (hi:l[i]?=some oi) (hs:Region.noSelect l.toArray=true) (hf:Region.free .any l.toArray listed i=true) (hr:(Region.ready .any l.toArray listed).contains i=true)
  (hQ:∀c a w,Q (.panic c) (a.put oi.dst v) w→Q (.panic c) a w) (hy:YieldsIf P l.toArray S oi v a) (hS:S w) (h:anyE P l.toArray Q S n (listed.setIfInBounds i true) (a.put oi.dst v) w):anyE P l.toArray Q S (n+1) listed a w:=
 anyE.take (by rw[List.getElem?_toArray];exact hi) hs hf hr hQ hy hS h
theorem anyE.one {n:Nat} {listed:Array Bool} {a:Act} {w:World} {l:List Oper} (k:Nat) {o:Oper} (ho:l[k]?=some o) (hr:Region.ready .any l.toArray listed=[k]) (hw:Region.wanted o (yielded l.toArray a.tmps)=true)
  (h:∀K:Act→World→Prop,Shut (∀a w,(S w∨mz l.toArray k=true)∧anyE P l.toArray Q S n (listed.setIfInBounds k true) a w→K a w)→o.wp P a w K Q):anyE P l.toArray Q S (n+1) listed a w:=
 ⟨fun h0=>by (rw[hr] at h0;cases h0),fun i hi=>by
  rw[hr] at hi;obtain rfl:=mj hi;unfold wpOp;rw[List.getElem?_toArray,ho];simp only[hw,if_true];exact .inl (h _ fun _ _ h=>h)⟩
theorem anyE.two {n:Nat} {listed:Array Bool} {a:Act} {w:World} {l:List Oper} (k k':Nat) {o o':Oper} (ho:l[k]?=some o) (ho':l[k']?=some o') (hr:Region.ready .any l.toArray listed=[k,k']) (hw:Region.wanted o (yielded l.toArray a.tmps)=true) (hw':Region.wanted o' (yielded l.toArray a.tmps)=true)
  (h:∀K:Act→World→Prop,Shut (∀a w,(S w∨mz l.toArray k=true)∧anyE P l.toArray Q S n (listed.setIfInBounds k true) a w→K a w)→o.wp P a w K Q)
  (h':∀K:Act→World→Prop,Shut (∀a w,(S w∨mz l.toArray k'=true)∧anyE P l.toArray Q S n (listed.setIfInBounds k' true) a w→K a w)→o'.wp P a w K Q):anyE P l.toArray Q S (n+1) listed a w:=
 ⟨fun h0=>by (rw[hr] at h0;cases h0),fun i hi=>by
  rw[hr] at hi;rcases zP.1 hi with e | hi
  ·subst e;unfold wpOp;rw[List.getElem?_toArray,ho];simp only[hw,if_true];exact .inl (h _ fun _ _ h=>h)
  ·obtain rfl:=mj hi;unfold wpOp;rw[List.getElem?_toArray,ho'];simp only[hw',if_true];exact .inl (h' _ fun _ _ h=>h)⟩
theorem anyE.done {listed:Array Bool} {a:Act} {w:World} (hr:Region.ready .any ops listed=[]) (h:Q .normal a w):anyE P ops Q S 0 listed a w:=⟨hr,h⟩
end
def a4a (T:List Nat) (ops:Array Oper) (i:Nat):Bool:=match ops[i]? with
 | none=>false
 | some o=>T.all fun k=>k == i||o.after.any fun e=>Region.binds .any e&&e.on == k
section
variable {T:List Nat} {P:Program} {ops:Array Oper} {Q:Exit→Act→World→Prop} {S0 S1:World→Prop}
def anyT (T:List Nat) (P:Program) (ops:Array Oper) (Q:Exit→Act→World→Prop) (S0 S1:World→Prop):Nat→Array Bool→Act→World→Prop
 | 0,l,a,w=>Region.ready .any ops l=[]∧Q .normal a w
 | n+1,l,a,w=>(Region.ready .any ops l=[]→Q .normal a w)∧∀i∈Region.ready .any ops l,wpOp P ops Q i (fun a' w'=>(S0 w'∧(S1 w→S1 w'∨a4a T ops i=true))∧anyT T P ops Q S0 S1 n (l.setIfInBounds i true) a' w') a w
theorem anyT.any:∀{n:Nat} {l:Array Bool} {a:Act} {w:World},anyT T P ops Q S0 S1 n l a w→wpAny P .any ops Q n l a w
 | 0,_,_,_,h=>h
 | n+1,_,_,_,h=>⟨h.1,fun i hi=>wpOp_mono (fun _ _ k=>anyT.any k.2) (h.2 i hi)⟩
theorem anyT.first {i:Nat} {oi:Oper} {v:Value} (hi:ops[i]?=some oi) (hn:Region.noSelect ops=true) (hQ:∀c a w,Q (.panic c) (a.put oi.dst v) w→Q (.panic c) a w) (S:World→Prop) (hS0:∀w,S w→S0 w)
  (hSS:∀w w' j oj,ops[j]?=some oj→j≠i→(∀e∈oj.after,Region.binds .any e=true→e.on≠i)→S w→S0 w'∧(S1 w→S1 w'∨a4a T ops j=true)→S w'):
  ∀(n:Nat) (l:Array Bool) (a:Act) (w:World),(∀j oj,ops[j]?=some oj→j≠i→l.getD j true=false→(∀e∈oj.after,Region.binds .any e=true→e.on≠i)→oi.apart ops oj=true)→
   i∈Region.ready .any ops l→YieldsIf P ops S oi v a→S w→anyT T P ops Q S0 S1 n (l.setIfInBounds i true) (a.put oi.dst v) w→anyT T P ops Q S0 S1 (n+1) l a w:=by
 intro n
 induction n with
 | zero=>
  intro l a w _ hr hy hS H;refine⟨fun h=>(by rw[h] at hr;cases hr),fun j hj=>?_⟩;by_cases e:j=i
  ·rw[e];exact hy.wpOp hi hS ⟨⟨hS0 w hS,fun h=>.inl h⟩,H⟩
  ·have:=ready_mono hj e;rw[H.1] at this;cases this
 | succ n ih=>
  intro l a w hap hr hy hS H;refine⟨fun h=>(by rw[h] at hr;cases hr),fun j hj=>?_⟩;by_cases e:j=i
  ·rw[e];exact hy.wpOp hi hS ⟨⟨hS0 w hS,fun h=>.inl h⟩,H⟩
  ·have later:=H.2 j (ready_mono hj e);obtain⟨hun,oj,hoj,hall⟩:=mem_ready.1 hj;have li:l.getD i true=false:=(mem_ready.1 hr).1;have hno:∀e∈oj.after,Region.binds .any e=true→e.on≠i:=fun e he hb heq=>by
    have h1:=hall e he hb;rw[heq] at h1;rcases zU i l.size with h' | h'
    ·simp[h'] at li h1;rw[li] at h1;cases h1
    ·simp[zR h'] at h1
   have swapped:=wpOp_putIf hoj (hap j oj hoj e hun hno) (fun cs b=>Region.noSelect_spec hn i oi cs b hi) (fun cs b=>Region.noSelect_spec hn j oj cs b hoj) hQ hy later;refine wpOp_mono (fun a' w' ⟨hy',hD,H'⟩=>?_) swapped;refine⟨hD,ih _ a' w' (fun k ok hk hki hl hw=>hap k ok hk hki ?_ hw) (ready_mono hr (Ne.symm e)) hy' (hSS w w' j oj hoj e hno hS hD) ?_⟩
   ·by_cases ejk:j=k
    ·rw[← ejk];exact hun
    ·rw[getD_set_ne true ejk] at hl;exact hl
   ·rw[Array.setIfInBounds_comm _ _ e];exact H'
theorem anyT.takeL {i:Nat} {oi:Oper} {v:Value} {n:Nat} {listed:Array Bool} {a:Act} {w:World} {l:List Oper} (hi:l[i]?=some oi) (hs:Region.noSelect l.toArray=true) (hf:Region.free .any l.toArray listed i=true) (hr:(Region.ready .any l.toArray listed).contains i=true)
  (hQ:∀c a w,Q (.panic c) (a.put oi.dst v) w→Q (.panic c) a w) (hy:YieldsIf P l.toArray S0 oi v a) (hS:S0 w) (h:anyT T P l.toArray Q S0 S1 n (listed.setIfInBounds i true) (a.put oi.dst v) w):anyT T P l.toArray Q S0 S1 (n+1) listed a w:=
 have hi':l.toArray[i]?=some oi:=by rw[List.getElem?_toArray];exact hi
 anyT.first hi' hs hQ S0 (fun _ h=>h) (fun _ _ _ _ _ _ _ _ h=>h.1) n listed a w (Region.free_spec hi' hf) (by simpa using hr) hy hS h
theorem anyT.one {n:Nat} {listed:Array Bool} {a:Act} {w:World} {l:List Oper} (k:Nat) {o:Oper} (ho:l[k]?=some o) (hr:Region.ready .any l.toArray listed=[k]) (hw:Region.wanted o (yielded l.toArray a.tmps)=true)
  (h:∀K:Act→World→Prop,Shut (∀a w',(S0 w'∧(S1 w→S1 w'∨a4a T l.toArray k=true))∧anyT T P l.toArray Q S0 S1 n (listed.setIfInBounds k true) a w'→K a w')→o.wp P a w K Q):anyT T P l.toArray Q S0 S1 (n+1) listed a w:=
 ⟨fun h0=>by (rw[hr] at h0;cases h0),fun i hi=>by
  rw[hr] at hi;obtain rfl:=mj hi;unfold wpOp;rw[List.getElem?_toArray,ho];simp only[hw,if_true];exact .inl (h _ fun _ _ h=>h)⟩
theorem anyT.done {listed:Array Bool} {a:Act} {w:World} (hr:Region.ready .any ops listed=[]) (h:Q .normal a w):anyT T P ops Q S0 S1 0 listed a w:=⟨hr,h⟩
end
section
variable {w w':World} {p t:Nat}
theorem Bk.cell_in {cs:Array Value} (h:Bk w p t cs) {a:Addr} (ha:a.block=p) {u:Value} (hu:w.cell? a=some u):u∈cs.toList:=by
 unfold World.cell? at hu;rw[ha,show w.heap[p]?=some (.cells cs t (0,0)) from h] at hu;simp only at hu;split at hu
 ·cases hu
 ·rw[← Array.getElem?_toList] at hu;exact mg hu
theorem Sees.fr {A:Option Addr} {xs:List Value} {cs:Array Value} (h:Sees w w.heap.size A xs) (F:Fr (fun b=>b=p) w w') (hb:Bk w p t cs) (hd:∀u,u∈xs→u ∉ cs.toList):Sees w' w'.heap.size A xs:=fun i u hu=>by
 obtain⟨ad,e,hl,hc⟩:=h i u hu;have hne:ad.block≠p:=fun e2=>hd u (mg hu) (hb.cell_in (by rw[dq];exact e2) hc)
 exact⟨ad,e,nk hl F.size,(World.cell?_of_block (F.keep _ (by rw[dq];exact hl) (by rw[dq];exact hne))).trans hc⟩
theorem Sv.Is.fr {x:Sv} {k:Nat} {ds:List Value} {cs:Array Value} (h:x.Is w k ds) (F:Fr (fun b=>b=p) w w') (hb:Bk w p t cs) (hd:∀u,u∈ds→u ∉ cs.toList):x.Is w' k ds:=⟨h.len,h.cap,h.max,h.nil,h.see.fr F hb hd⟩
def a2z (cs:Array Value):Prop:=∀y:Nat,Value.int .u32 (y:Int) ∉ cs.toList
theorem Sv.Num.fr {x:Sv} {l:List Nat} {cs:Array Value} (h:x.Num w l) (F:Fr (fun b=>b=p) w w') (hb:Bk w p t cs) (hd:a2z cs):x.Num w' l:=⟨h.is.fr F hb fun u hu=>by
 obtain⟨y,_,rfl⟩:=List.mem_map.1 hu;exact hd y,h.lim,h.ty.keep fun ad ha hn=>by
  obtain⟨y,ad',_,_,ha',hl,hc⟩:=h.at hn;rw[ha] at ha';injection ha' with ha';subst ha';refine F.keep _ hl fun e=>hd y (hb.cell_in ?_ hc)
  rw[dq];exact e⟩
theorem Sv.Num.tf {x:Sv} {l:List Nat} {X:Nat→Prop} (h:x.Num w l) (F:Fr X w w') (hX:∀b cs fr,X b→w.heap[b]?≠some (.cells cs 200 fr)):x.Num w' l:=by
 have hk:∀ad,x.A=some ad→0 < x.n→w'.heap[ad.block]?=w.heap[ad.block]?∧ad.block < w.heap.size:=fun ad ha hn=>by
  obtain⟨cs,fr,hh⟩:=h.ty ad ha hn;have hlt:ad.block < w.heap.size:=by
   rcases zU ad.block w.heap.size with h1 | h1
   ·exact h1
   ·rw[zR h1] at hh;cases hh
  exact⟨F.keep _ hlt fun hx=>hX _ cs fr hx hh,hlt⟩
 refine⟨⟨h.is.len,h.is.cap,h.is.max,h.is.nil,fun i u hu=>?_⟩,h.lim,h.ty.keep fun ad ha hn=>(hk ad ha hn).1⟩;obtain⟨ad,e,hl,hc⟩:=h.is.see i u hu;have hn:0 < x.n:=by
  have h1:=(gs hu).1;have h2:=h.is.len;omega
 exact⟨ad,e,nk hl F.size,(World.cell?_of_block (by rw[dq];exact (hk ad e hn).1)).trans hc⟩
theorem Rv.Is.tf {x:Rv} {q:Q} {X:Nat→Prop} (h:x.Is w q) (F:Fr X w w') (hX:∀b cs fr,X b→w.heap[b]?≠some (.cells cs 200 fr)):x.Is w' q:=⟨h.neg,h.num.tf F hX,h.den.tf F hX⟩
theorem Bk.not_ty {cs:Array Value} {e:TypeId} (h:Bk w p t cs) (hne:t≠e):∀cs' fr,w.heap[p]?≠some (.cells cs' e fr):=fun cs' fr hh=>by
 unfold Bk at h;rw[h] at hh;injection hh with hh;injection hh with _ h2;exact hne h2
theorem Iv.Is.fr {x:Iv} {s:Bool} {m:Nat} {cs:Array Value} (h:x.Is w s m) (F:Fr (fun b=>b=p) w w') (hb:Bk w p t cs) (hd:a2z cs):x.Is w' s m:=⟨h.neg,h.mag.fr F hb hd⟩
theorem Rv.Is.fr {x:Rv} {q:Q} {cs:Array Value} (h:x.Is w q) (F:Fr (fun b=>b=p) w w') (hb:Bk w p t cs) (hd:a2z cs):x.Is w' q:=⟨h.neg,h.num.fr F hb hd,h.den.fr F hb hd⟩
theorem b7 (s:Bool) (A B:Option Addr) (n c m d:Nat):a2z #[.bool s,.slice A n c,.slice B m d]:=fun z h=>by simp at h
theorem bf (s:Bool) (A:Option Addr) (n c:Nat):a2z #[.bool s,.slice A n c]:=fun z h=>by simp at h
theorem Bk.put2 {a b:Value} (h:Bk w p t #[a,b]) (x y:Value):
  Bk ((w.setCell ⟨p,0,none⟩ x).setCell ⟨p,1,none⟩ y) p t #[x,y]∧Fr (fun b=>b=p) w ((w.setCell ⟨p,0,none⟩ x).setCell ⟨p,1,none⟩ y):=by
 refine⟨?_,Fr.trans (Fr.set w ⟨p,0,none⟩ x rfl) (Fr.set _ ⟨p,1,none⟩ y rfl)⟩;have:=(Bk.put h 0 x).put 1 y;simpa using this
theorem Bk.c2 {a b:Value} (h:Bk w p t #[a,b]):w.cell? ⟨p,0,none⟩=some a∧w.cell? ⟨p,1,none⟩=some b:=⟨h.cell 0,h.cell 1⟩
theorem Bk.c3 {a b c:Value} (h:Bk w p t #[a,b,c]):w.cell? ⟨p,0,none⟩=some a∧w.cell? ⟨p,1,none⟩=some b∧w.cell? ⟨p,2,none⟩=some c:=⟨h.cell 0,h.cell 1,h.cell 2⟩
theorem Bk.c4 {a b c d:Value} (h:Bk w p t #[a,b,c,d]):w.cell? ⟨p,0,none⟩=some a∧w.cell? ⟨p,1,none⟩=some b∧w.cell? ⟨p,2,none⟩=some c∧w.cell? ⟨p,3,none⟩=some d:=⟨h.cell 0,h.cell 1,h.cell 2,h.cell 3⟩
theorem Gr.fr_at {w0:World} (G:Gr w0 w) (F:Fr (fun b=>b=p) w w') (hp:w0.heap.size≤p):Gr w0 w':=G.step F fun b _ e=>by rw[e];exact hp
end
section
variable {P:Program} {ops:Array Oper} {R:World→World→Prop} {W0:World} {Φ:Nat→Option (Value→World→Prop)} {D:Nat→List Nat} {Q:Act→World→Prop}
end
section
variable {P:Program}
end
section
section
variable {P:Program} {R:World→World→Prop} {W0:World} {Φ:Nat→Option (Value→World→Prop)} {D:Nat→List Nat} {Q:Act→World→Prop}
theorem Walk.tk {l:List Oper} {k:Nat} {rest:List Nat} {F:List (Nat×(World→Prop))} {a a':Act} {o:Oper} {v:Value} (h:Walk P l.toArray R W0 Φ D Q rest F a')
  (ho:l[k]?=some o:=by exact rfl) (hΦ:Φ k=none:=by exact rfl)
  (hy:YieldsIf P l.toArray (R W0) o v a:=by first | (refine Or.inl ⟨by rfl,?_⟩;intro w' hw';(try have kk:=kc.out w' hw');go_simp;try with_reducible rfl) | exact Or.inr ⟨by rfl,rfl⟩)
  (hp:a.put o.dst v=a':=by (try simp only[Act.put,List.setIfInBounds_toArray,List.set_cons_zero,List.set_cons_succ]);(try exact rfl)):Walk P l.toArray R W0 Φ D Q (k::rest) F a:=
 Walk.take ho hΦ hy (hp▸h)
end
section
variable {w w1 w2:World} {p b t:Nat} {us:Array Value} {X:Nat→Prop}
theorem Gr.hb (G:Gr w w1) (h:Hid (Bk w b t us)):Hid (Bk w1 b t us):=G.bk h
theorem Fr.hb (F:Fr X w w1) (h:Hid (Bk w b t us)) (x:Hid (¬X b)):Hid (Bk w1 b t us):=F.bk h x
theorem Gr.tr (h:Gr w w1) (G:Gr w1 w2):Hid (Gr w w2):=h.trans G
theorem Gr.fa (h:Gr w w1) (F:Fr (fun b=>b=p) w1 w2) (n:Hid (w.heap.size≤p)):Hid (Gr w w2):=h.fr_at F n
theorem Bk.nn (h:Bk w b t us):Hid (¬b=w.heap.size):=fun e=>ni _ (e▸h.lt)
theorem Gr.hs (h:Gr w w1):Hid (w.heap.size≤w1.heap.size):=h.size
theorem pex {p q:Prop} (h:q) (e:q→p:=by intro hq;(try simp only[Exit.inBlock,Exit.then]);exact hq):p:=e h
theorem dnx (a b:Nat) (h:¬a=b:=by omega):Hid (¬a=b):=h
theorem dnl (a b:Nat) (h:a≤b:=by omega):Hid (a≤b):=h
end
section
variable {w w1:World} {p0 p1 p2 p3 p4 p5 p6 p7 p8 p9 pa pb q0 q1 q2 q3 q4 q5 q6 q7 q8 q9 qa qb:Prop} (G:Gr w w1)
include G
theorem Gr.u2 [Kp p0 w w1 q0] [Kp p1 w w1 q1] (hp0:Hid p0) (hp1:Hid p1):Hid q0∧Hid q1:=⟨Kp.kp G hp0.out,Kp.kp G hp1.out⟩
theorem Gr.u3 [Kp p0 w w1 q0] [Kp p1 w w1 q1] [Kp p2 w w1 q2] (hp0:Hid p0) (hp1:Hid p1) (hp2:Hid p2):Hid q0∧Hid q1∧Hid q2:=⟨Kp.kp G hp0.out,G.u2 hp1 hp2⟩
theorem Gr.u4 [Kp p0 w w1 q0] [Kp p1 w w1 q1] [Kp p2 w w1 q2] [Kp p3 w w1 q3] (hp0:Hid p0) (hp1:Hid p1) (hp2:Hid p2) (hp3:Hid p3):Hid q0∧Hid q1∧Hid q2∧Hid q3:=⟨Kp.kp G hp0.out,G.u3 hp1 hp2 hp3⟩
theorem Gr.u5 [Kp p0 w w1 q0] [Kp p1 w w1 q1] [Kp p2 w w1 q2] [Kp p3 w w1 q3] [Kp p4 w w1 q4] (hp0:Hid p0) (hp1:Hid p1) (hp2:Hid p2) (hp3:Hid p3) (hp4:Hid p4):Hid q0∧Hid q1∧Hid q2∧Hid q3∧Hid q4:=⟨Kp.kp G hp0.out,G.u4 hp1 hp2 hp3 hp4⟩
theorem Gr.u6 [Kp p0 w w1 q0] [Kp p1 w w1 q1] [Kp p2 w w1 q2] [Kp p3 w w1 q3] [Kp p4 w w1 q4] [Kp p5 w w1 q5] (hp0:Hid p0) (hp1:Hid p1) (hp2:Hid p2) (hp3:Hid p3) (hp4:Hid p4) (hp5:Hid p5):Hid q0∧Hid q1∧Hid q2∧Hid q3∧Hid q4∧Hid q5:=⟨Kp.kp G hp0.out,G.u5 hp1 hp2 hp3 hp4 hp5⟩
theorem Gr.u7 [Kp p0 w w1 q0] [Kp p1 w w1 q1] [Kp p2 w w1 q2] [Kp p3 w w1 q3] [Kp p4 w w1 q4] [Kp p5 w w1 q5] [Kp p6 w w1 q6] (hp0:Hid p0) (hp1:Hid p1) (hp2:Hid p2) (hp3:Hid p3) (hp4:Hid p4) (hp5:Hid p5) (hp6:Hid p6):Hid q0∧Hid q1∧Hid q2∧Hid q3∧Hid q4∧Hid q5∧Hid q6:=⟨Kp.kp G hp0.out,G.u6 hp1 hp2 hp3 hp4 hp5 hp6⟩
theorem Gr.u8 [Kp p0 w w1 q0] [Kp p1 w w1 q1] [Kp p2 w w1 q2] [Kp p3 w w1 q3] [Kp p4 w w1 q4] [Kp p5 w w1 q5] [Kp p6 w w1 q6] [Kp p7 w w1 q7] (hp0:Hid p0) (hp1:Hid p1) (hp2:Hid p2) (hp3:Hid p3) (hp4:Hid p4) (hp5:Hid p5) (hp6:Hid p6) (hp7:Hid p7):Hid q0∧Hid q1∧Hid q2∧Hid q3∧Hid q4∧Hid q5∧Hid q6∧Hid q7:=⟨Kp.kp G hp0.out,G.u7 hp1 hp2 hp3 hp4 hp5 hp6 hp7⟩
theorem Gr.u9 [Kp p0 w w1 q0] [Kp p1 w w1 q1] [Kp p2 w w1 q2] [Kp p3 w w1 q3] [Kp p4 w w1 q4] [Kp p5 w w1 q5] [Kp p6 w w1 q6] [Kp p7 w w1 q7] [Kp p8 w w1 q8] (hp0:Hid p0) (hp1:Hid p1) (hp2:Hid p2) (hp3:Hid p3) (hp4:Hid p4) (hp5:Hid p5) (hp6:Hid p6) (hp7:Hid p7) (hp8:Hid p8):Hid q0∧Hid q1∧Hid q2∧Hid q3∧Hid q4∧Hid q5∧Hid q6∧Hid q7∧Hid q8:=⟨Kp.kp G hp0.out,G.u8 hp1 hp2 hp3 hp4 hp5 hp6 hp7 hp8⟩
end
section -- steps
variable {P:Program} {R:World→World→Prop} {W0:World} {Φ:Nat→Option (Value→World→Prop)} {D:Nat→List Nat} {Q:Act→World→Prop} {l:List Oper} {k:Nat} {rest:List Nat} {F:List (Nat×(World→Prop))} {a:Act} {a':Value→Act} {o:Oper} {ψ:Value→World→Prop}
theorem Walk.dk {f:FuncId} {args:Array Value} {K:World→Ending→World→Prop} (hs:∀W,R W0 W→a46 F (D k) W→Calls P f args W (K W))
  (h:∀v,(∃W,R W0 W∧sz F W∧ψ v W)→Walk P l.toArray R W0 Φ D Q rest (F++[(k,ψ v)]) (a' v))
  (ho:l[k]?=some o:=by exact rfl) (hΦ:Φ k=some ψ:=by exact rfl) (hw:Region.wanted o (yielded l.toArray a.tmps)=true:=by rfl)
  (he:∀W,R W0 W→(execOp a.eval o).run P W=.ok (.enter f args) W:=by intro w' hw';(try have kk:=kc.out w' hw');go_simp;try (first | with_reducible rfl | exact⟨rfl,rfl⟩ | rfl))
  (hm:∀W e w',K W e w'→∃v,e=.returned v∧R W w'∧ψ v w':=by intro W1 e w' h;first | (obtain⟨rfl,G⟩:=h;exact⟨_,rfl,G,rfl⟩) | (obtain⟨r,rfl,hi,G⟩:=h;exact⟨_,rfl,G,r,rfl,hi⟩))
  (hp:∀v,a.put o.dst v=a' v:=by intro v;(try simp only[Act.put,List.setIfInBounds_toArray,List.set_cons_zero,List.set_cons_succ]);(try exact rfl)):Walk P l.toArray R W0 Φ D Q (k::rest) F a:=
 Walk.do ho hΦ hw (fun W h1 h2=>eo (he W h1) ((hs W h1 h2).mono fun e w'=>hm W e w')) fun v hv=>by rw[hp];exact h v hv
theorem lk {d:List Nat} {W:World} (h:a46 F d W) (i:Nat) {k:Nat} {φ:World→Prop} (e:F[i]?=some (k,φ):=by exact rfl) (c:d.contains k=true:=by kernel_rfl):φ W:=h _ (mg e) (zE.1 c)
end
section
variable {P:Program} {Q:Exit→Act→World→Prop} {S S0 S1:World→Prop} {T:List Nat} {n:Nat} {listed:Array Bool} {a a':Act} {w w':World} {l:List Oper} {o:Oper} {v:Value}
theorem wo (k:Nat) (h:wpAny P .any l.toArray Q n (listed.setIfInBounds k true) a' w')
  (ho:l[k]?=some o:=by exact rfl) (hr:Region.ready .any l.toArray listed=[k]:=by kernel_rfl) (hw:Region.wanted o (yielded l.toArray a.tmps)=true:=by rfl)
  (hs:∀K:Act→World→Prop,Hid (K a' w')→o.wp P a w K Q:=by intro K hK;go_simp;(try simp only[Act.put,List.setIfInBounds_toArray,List.set_cons_zero,List.set_cons_succ]);exact hK):wpAny P .any l.toArray Q (n+1) listed a w:=
 a7m k ho hr hw fun K hK=>hs K (hK.out _ _ h)
theorem anyE.tk (i:Nat) (hS:S w) (h:anyE P l.toArray Q S n (listed.setIfInBounds i true) a' w)
  (hi:l[i]?=some o:=by exact rfl) (hs:Region.noSelect l.toArray=true:=by kernel_rfl) (hf:Region.free .any l.toArray listed i=true:=by kernel_rfl) (hr:(Region.ready .any l.toArray listed).contains i=true:=by kernel_rfl)
  (hQ:∀c a w,Q (.panic c) (a.put o.dst v) w→Q (.panic c) a w:=by exact fun _ _ _ h=>h)
  (hy:YieldsIf P l.toArray S o v a:=by refine Or.inl ⟨by rfl,?_⟩;intro w' hS';have kk:=hS';(try dsimp only at kk);go_simp;try with_reducible rfl)
  (hp:a.put o.dst v=a':=by (try simp only[Act.put,List.setIfInBounds_toArray,List.set_cons_zero,List.set_cons_succ]);(try exact rfl)):anyE P l.toArray Q S (n+1) listed a w:=
 anyE.takeL hi hs hf hr hQ hy hS (hp▸h)
theorem anyT.tk (i:Nat) (hS:S0 w) (h:anyT T P l.toArray Q S0 S1 n (listed.setIfInBounds i true) a' w)
  (hi:l[i]?=some o:=by exact rfl) (hs:Region.noSelect l.toArray=true:=by kernel_rfl) (hf:Region.free .any l.toArray listed i=true:=by kernel_rfl) (hr:(Region.ready .any l.toArray listed).contains i=true:=by kernel_rfl)
  (hQ:∀c a w,Q (.panic c) (a.put o.dst v) w→Q (.panic c) a w:=by exact fun _ _ _ h=>h)
  (hy:YieldsIf P l.toArray S0 o v a:=by refine Or.inl ⟨by rfl,?_⟩;intro w' hS';have kk:=hS';(try dsimp only at kk);go_simp;try with_reducible rfl)
  (hp:a.put o.dst v=a':=by (try simp only[Act.put,List.setIfInBounds_toArray,List.set_cons_zero,List.set_cons_succ]);(try exact rfl)):anyT T P l.toArray Q S0 S1 (n+1) listed a w:=
 anyT.takeL hi hs hf hr hQ hy hS (hp▸h)
def AllSt (w:World):List (Nat×(Value→World→Prop))→Prop
 | []=>True
 | p::r=>(∀v W W',Gr w W→Gr W W'→p.2 v W→p.2 v W')∧AllSt w r
theorem AllSt.all:∀{L:List (Nat×(Value→World→Prop))},AllSt w L→∀p∈L,∀v W W',Gr w W→Gr W W'→p.2 v W→p.2 v W'
 | [],_,p,hp=>by cases hp
 | q::r,h,p,hp=>by
  rcases zP.1 hp with e | hp
  ·exact e▸h.1
  ·exact h.2.all p hp
def tf (n m:Nat):Array Bool:=(List.replicate n true++List.replicate m false).toArray
theorem wg {ops:Array Oper} (m:Nat) (last:Array Bool) (rest:List Nat) (L:List (Nat×(Value→World→Prop))) (h:Walk P ops Gr w (a4s L) (fun j=>(bq ops).getD j []) (fun a W=>wpAny P .any ops Q m last a W) rest [] a)
  (hB:js ops (bq ops)=true:=by kernel_rfl) (hp:decide (rest.Pairwise (· < ·))=true:=by decide) (hW:ahg ops (bq ops) listed last rest=true:=by kernel_rfl)
  (hst:AllSt w L:=by repeat' (first | exact True.intro | (refine ai (fun u wA0 wB0 h0 G h=>?_) ?_;first | exact h | exact Rv.At.gr h G | exact NewAt.gr h G | exact h.gr G | (obtain⟨r,e,hr⟩:=h;exact⟨r,e,hr.gr G⟩)))):wpAny P .any ops Q (rest.length+m) listed a w:=
 a6m rest L hB hp hW hst.all h
theorem anyE.k (k:Nat) (h:∀K:Act→World→Prop,Hid (∀a w,(S w∨mz l.toArray k=true)∧anyE P l.toArray Q S n (listed.setIfInBounds k true) a w→K a w)→o.wp P a w K Q)
  (ho:l[k]?=some o:=by exact rfl) (hr:Region.ready .any l.toArray listed=[k]:=by kernel_rfl) (hw:Region.wanted o (yielded l.toArray a.tmps)=true:=by rfl):anyE P l.toArray Q S (n+1) listed a w:=
 anyE.one k ho hr hw fun K hK=>h K fun a w x=>hK.out a w x
theorem anyT.k (k:Nat) (h:∀K:Act→World→Prop,Hid (∀a w',(S0 w'∧(S1 w→S1 w'∨a4a T l.toArray k=true))∧anyT T P l.toArray Q S0 S1 n (listed.setIfInBounds k true) a w'→K a w')→o.wp P a w K Q)
  (ho:l[k]?=some o:=by exact rfl) (hr:Region.ready .any l.toArray listed=[k]:=by kernel_rfl) (hw:Region.wanted o (yielded l.toArray a.tmps)=true:=by rfl):anyT T P l.toArray Q S0 S1 (n+1) listed a w:=
 anyT.one k ho hr hw fun K hK=>h K fun a w x=>hK.out a w x
end
section
variable {P:Program} {Q:Exit→Act→World→Prop} {a:Act} {w:World} {o:Oper} {t b:Nat} {x v:Operand} {c c':Array Value}
theorem wpr {id:Nat} {ops:Array Oper} (h:wpAny P .any ops Q ops.size (Array.replicate ops.size false) a { w with drawn:=w.drawn+1 }) (hm:P.follows .mixedOrders=true:=by kernel_rfl):(Code.region id ops true).wp P Q a w:=wp_region_any hm h
theorem wpe {listed:Array Bool} {ops:Array Oper} (h:Q .normal a w) (hr:Region.ready .any ops listed=[]:=by kernel_rfl):wpAny P .any ops Q 0 listed a w:=a7n hr h
theorem Gr.kk {w1:World} (G:Gr w w1) {p:Addr} {u:Value} {q:Prop} (h:w.cell? p=some u) (r:q):w1.cell? p=some u∧q:=⟨G.keep h,r⟩
end
section
variable {P:Program} {f:FuncId} {args:Array Value} {W:World} {R:Ending→World→Prop}
theorem cm0 {c:Value} {Z:World→Prop} (h:Calls P f args W fun e w'=>e=.returned c∧Z w') (k:∀w',Hid (Z w')→R (.returned c) w'):Calls P f args W R:=
 h.mono fun e w' ⟨he,z⟩=>by subst he;exact k w' z
theorem cm1 {α:Type} {φ:α→Value} {H:α→World→Prop} {Z:World→Prop} (h:Calls P f args W fun e w'=>∃r,e=.returned (φ r)∧H r w'∧Z w') (k:∀r w',Hid (H r w')→Hid (Z w')→R (.returned (φ r)) w'):Calls P f args W R:=
 h.mono fun e w' ⟨r,he,hr,z⟩=>by subst he;exact k r w' hr z
theorem cm2 {α:Type} {φ:α→Value} {H:α→World→Prop} {Z:World→Prop} (h:Calls P f args W fun e w'=>∃r,e=.returned (φ r)∧H r w'∧Z w') (k:∀r w',H r w'→Hid (Z w')→R (.returned (φ r)) w'):Calls P f args W R:=
 h.mono fun e w' ⟨r,he,hr,z⟩=>by subst he;exact k r w' hr z
end
section
theorem bret {P:Program} {fn:Func} {R:Ending→World→Prop} {a:Act} {w:World} {v:Value} {rs:Array ResultVar} (e:fn.results=rs) (h:R (.returned v) w) (hd:a.defers=[]:=by rfl)
  (hr:(results { fn with results:=rs } a.tmps).run P w=.ok v w:=by first | (simp[results,go_sem,d_];try rfl) | (simp[results,go_sem, *];try rfl)):bodyPost P fn R .ret a w:=
 bodyPost_ret (by subst e;exact hr) hd h
end
section -- gen
variable {G:Act→World→Prop} {A:Act} {W:World} {b t:Nat} {us us':Array Value}
variable {P:Program} {f:FuncId} {args:Array Value} {K:Ending→World→Prop}
def A0:Act:={ tmps:=#[],defers:=[] }
theorem mkBk {n:Nat} (h:W.heap.size=n) (t:TypeId) (u:Array Value):Bk (W.alloc (.cells u t)) n t u:=h▸Bk.made W t u
inductive Sto (b:Nat) (W:World) (us:Array Value):World→Array Value→Prop
 | nil:Sto b W us W us
 | put {W1 us1} (i v) (s:Sto b W us W1 us1):Sto b W us (W1.setCell ⟨b,i,none⟩ v) (us1.setIfInBounds i v)
theorem Sto.bk {u W1} (s:Sto b W us W1 u) (h:Bk W b t us):Bk W1 b t u∧Fr (fun k=>k=b) W W1:=by
 induction s with
 | nil=>exact⟨h,Fr.refl _ _⟩
 | put i v _ k=>exact⟨k.1.put i v,k.2.trans (Fr.set _ _ v rfl)⟩
theorem ks {W1 u} (hb:Hid (Bk W b t us)) (h:∀W',Hid (Bk W' b t us')→Fr (fun k=>k=b) W W'→G A W') (s:Sto b W us W1 u:=by repeat (first | with_reducible exact .nil | with_reducible apply Sto.put))
  (e:u=us':=by (try simp only[List.setIfInBounds_toArray,List.set_cons_zero,List.set_cons_succ]);(try exact rfl)):G A W1:=
 have k:=s.bk hb
 h _ (e▸k.1) k.2
theorem nw2h {t0 t1:TypeId} {u0 u1:Array Value} (h:∀W',Hid (Gr W W')→Hid (Bk W' (W.heap.size) t0 u0)→Hid (Bk W' (W.heap.size+1) t1 u1)→G A W'):G A ((W.alloc (.cells u0 t0)).alloc (.cells u1 t1)):=
 h _ (Gr.alloc (Gr.alloc (Gr.refl W) _) _) (Bk.alloc (Bk.made W t0 u0) _) (mkBk (by simp only[World.size_alloc]) t1 u1)
theorem nw3h {t0 t1 t2:TypeId} {u0 u1 u2:Array Value} (h:∀W',Hid (Gr W W')→Hid (Bk W' (W.heap.size) t0 u0)→Hid (Bk W' (W.heap.size+1) t1 u1)→Hid (Bk W' (W.heap.size+1+1) t2 u2)→G A W'):G A (((W.alloc (.cells u0 t0)).alloc (.cells u1 t1)).alloc (.cells u2 t2)):=
 h _ (Gr.alloc (Gr.alloc (Gr.alloc (Gr.refl W) _) _) _) (Bk.alloc (Bk.alloc (Bk.made W t0 u0) _) _) (Bk.alloc (mkBk (by simp only[World.size_alloc]) t1 u1) _) (mkBk (by simp only[World.size_alloc]) t2 u2)
end
end
theorem a3w {t e size bytes:Nat} {z:Value} (hu:Tryz.prog.underlying t=some (.slice e)) (hi:(Tryz.prog.info? e).map (fun i=>(i.zero,i.size,i.bytes))=some (some z,size,bytes)) (hz:z.cells.size=size) (hp:0 < size):ElemS Tryz.prog t e size bytes:=by
 refine⟨hu,?_,hp⟩;obtain⟨i,hi,hz'⟩:=Option.map_eq_some_iff.1 hi;simp only[Prod.mk.injEq] at hz';exact⟨i,z,hi,hz'.1,hz'.2.1,hz'.2.2,hz⟩
theorem elemN:ElemS Tryz.prog 33 200 1 4:=a3w (z:=.int .u32 0) (by kernel_rfl) (by kernel_rfl) rfl dx
theorem Sv.of_row {w:World} {B e k n:Nat} {v:Value} {xs:List Value} (h:w.ownsRow B e k v n xs) (hk:0 < k):∃y:Sv,v=y.v∧y.n=n∧y.Is w k xs∧y.Ty w e:=by
 obtain⟨hl,⟨rfl,rfl⟩ | ⟨g,cap,cur,rfl,hB,hh,hc,hx,hs,ht⟩⟩:=h
 ·rw[Nat.zero_mul] at hl;rw[List.length_eq_zero_iff.1 hl];exact⟨Sv.none,rfl,rfl,Sv.Is.none w k,fun ad h=>by cases h⟩
 ·refine⟨⟨some ⟨g,0,Option.none⟩,n,cap⟩,rfl,rfl,⟨hl,hc,hx,(fun e=>by cases e),?_⟩,fun ad ha _=>?_⟩
  ·have hb:Bk w g e cur:=hh;exact hb.sees ⟨cur.toList.drop (n*k),by rw[← ht,List.take_append_drop]⟩
  ·injection ha with ha;rw[← ha];exact⟨cur,(0,0),hh⟩
theorem Sv.Is.cells {w:World} {x:Sv} {k:Nat} {ds:List Value} (h:x.Is w k ds) {ad:Addr} (hA:x.A=some ad):∀j u,ds[j]?=some u→w.cell? (ad.add j)=some u:=fun j u hu=>by
 obtain⟨ad',e,_,hc⟩:=h.look hu;rw[hA] at e;injection e with e;subst e;exact hc
theorem Gr.of_own {w w1:World} {t:TypeId} {n:Nat} (h3:(w.alloc (.cells #[] t)).grownBy w1 (Value.slice (some ⟨w.heap.size,0,none⟩) n 0).ownBlock):Gr w w1:=
 Gr.of (((Below.refl _ w).alloc (nr _) _).grown h3 (by simp) fun k e=>by injection e with e;exact Nat.le_of_eq e)
mutual
inductive Co (st:St):SV→PV→Prop
 | pv (p:PV):Co st (.pv p) p
 | nat0:Co st .emp (.nat 0)
 | rows0 (e k:Nat) (ts:List Nat):Co st .emp (.rows e k ts [])
 | nil (e k:Nat) (ts:List Nat):Co st (.nil e k ts) (.rows e k ts [])
 | tok {i e k:Nat} {ts:List Nat} {xs:List (List PV)} (h:st.res i=some (.tok e k ts xs)):Co st (.tok i) (.rows e k ts xs)
 | agg {cs:List SV} {ps:List PV} (h:CoL st cs ps):Co st (.agg cs) (.agg ps)
 | ref (e:Nat) (cs:List PV):Co st (.ref e cs) (.ptr e cs)
 | box {id off ty:Nat} {cells:List SV} {ps:List PV} (h:st.res id=some (.box ty cells)) (hc:cells.drop off=ps.map .pv) (ho:Nat.blt off 1000000=true) (ht:Nat.blt ty 1000000=true):Co st (.box id off) (.ptr ty ps)
 | fn {f:Nat} {cs:List SV} {ps:List PV} (h:CoL st cs ps):Co st (.fn f cs) (.fn f ps)
 | emp0:Co st .emp (.raw (.slice none 0 0))
 | fnr (f:Nat):Co st (.pv (.raw (.func (.func f) #[] #[]))) (.fn f [])
inductive CoL (st:St):List SV→List PV→Prop
 | nil:CoL st [] []
 | cons {c:SV} {cs:List SV} {p:PV} {ps:List PV} (h:Co st c p) (k:CoL st cs ps):CoL st (c::cs) (p::ps)
end
mutual
theorem Co.move {st st1:St}:∀{s:SV} {p:PV},Co st s p→(∀i∈s.ids,st1.res i=st.res i)→Co st1 s p
 | _,_,.pv p,_=>.pv p
 | _,_,.nat0,_=>.nat0
 | _,_,.rows0 e k ts,_=>.rows0 e k ts
 | _,_,.nil e k ts,_=>.nil e k ts
 | _,_,.tok h,k=>.tok ((k _ (by rw[SV.ids];exact zH.2 rfl)).trans h)
 | _,_,.agg h,k=>.agg (CoL.move h (by rw[SV.ids] at k;exact k))
 | _,_,.ref e cs,_=>.ref e cs
 | _,_,.box h hc ho ht,k=>.box ((k _ (by rw[SV.ids];exact zH.2 rfl)).trans h) hc ho ht
 | _,_,.fn h,k=>.fn (CoL.move h (by rw[SV.ids] at k;exact k))
 | _,_,.fnr f,_=>.fnr f
 | _,_,.emp0,_=>.emp0
theorem CoL.move {st st1:St}:∀{cs:List SV} {ps:List PV},CoL st cs ps→(∀i∈SV.idsL cs,st1.res i=st.res i)→CoL st1 cs ps
 | _,_,.nil,_=>.nil
 | _,_,.cons h k,g=>by
  rw[SV.idsL] at g;exact .cons (Co.move h fun i hi=>g i (zL _ hi)) (CoL.move k fun i hi=>g i (zV _ hi))
end
def lent (st:St) (B:Nat→Nat) (T:Nat→Sv) (ids:List Nat) (b:Nat):Prop:=∃i∈ids,∃r,st.res i=some r∧r.blk (B i) (T i)=some b
section
variable {C:Cx} {st:St} {a:Act} {w:World} {B:Nat→Nat} {T:Nat→Sv}
theorem agi {v:Value} {n k base e:Nat} {xs:List Value} {x:Sv} (h:w.ownsRow base e k v n xs) (hv:v=x.v) (hn:n=x.n) (hk:0 < k):x.Is w k xs∧x.Ty w e:=by
 obtain⟨y,rfl,hyn,hi,ht⟩:=Sv.of_row h hk;have:y=x:=by
  obtain⟨A,n,c⟩:=x;obtain⟨A',n',c'⟩:=y;injection hv with e1 e2 e3;subst e1 e2 e3;rfl
 subst this;exact⟨hi,ht⟩
theorem a4f (h:InvB C st a w B T) {i e k:Nat} {ts:List Nat} {xs:List (List PV)} (hr:st.res i=some (.tok e k ts xs)) {X:Nat→Prop} (hX:∀b,X b→Own0 C st B T b∧(T i).v.ownBlock≠some b):(PV.rows e k ts xs).Rep w X (T i).v:=by
 obtain⟨us,h1,h2,h3,h4,h5,_⟩:=h.inn i _ hr;rw[PV.Rep];obtain⟨g1,g2⟩:=agi h1 rfl rfl h5;refine⟨T i,us,rfl,h4,g1,g2,fun ad ha hn hx=>(hX _ hx).2 (by show (Value.slice (T i).A (T i).n (T i).c).ownBlock=_;rw[ha];rfl),PV.RepLL.still (ts:=ts) h2 ⟨nr _,fun b cs t fr hx hh ht=>⟨rfl,fun hb=>hx (hX b hb).1⟩⟩ fun r hr c hc=>((h3 r hr).2 c hc).2,h3⟩
theorem a9j {w:World} {X:Nat→Prop} {B:Nat→Nat} {T:Nat→Sv}:∀{ps:List PV} {us:List Value},SV.RepL w X B T (ps.map .pv) us→PV.RepL w X ps us
 | [],us,h=>by rw[List.map_nil,SV.RepL] at h;rw[PV.RepL];exact h
 | p::ps,us,h=>by
  rw[List.map_cons,SV.RepL] at h;obtain⟨u,us',rfl,h1,h2⟩:=h;rw[SV.Rep] at h1;exact PV.RepL.cons h1 (a9j h2)
mutual
theorem Co.rep (h:InvB C st a w B T) {X:Nat→Prop}:∀{s:SV} {p:PV} {v:Value},Co st s p→s.Rep w (Own0 C st B T) B T v→(∀b,X b→Own0 C st B T b∧¬lent st B T s.ids b)→p.Rep w X v
 | _,_,v,.pv p,hs,hX=>by
  rw[SV.Rep] at hs;exact hs.still ⟨nr _,fun b cs t fr hx hh ht=>⟨rfl,fun hb=>hx (hX b hb).1⟩⟩
 | _,_,v,.nat0,hs,hX=>by
  rw[SV.Rep] at hs;subst hs;rw[PV.Rep];exact⟨Sv.none,rfl,by rw[al];exact Sv.Num.none w,fun ad h=>by cases h⟩
 | _,_,v,.rows0 e k ts,hs,hX=>by
  rw[SV.Rep] at hs;subst hs;rw[PV.Rep];exact⟨Sv.none,[],rfl,rfl,Sv.Is.none w k,(fun ad h=>by cases h),(fun ad h=>by cases h),by rw[PV.RepLL],fun r hr=>by cases hr⟩
 | _,_,v,.nil e k ts,hs,hX=>by
  rw[SV.Rep] at hs;subst hs;rw[PV.Rep];exact⟨Sv.none,[],rfl,rfl,Sv.Is.none w k,(fun ad h=>by cases h),(fun ad h=>by cases h),by rw[PV.RepLL],fun r hr=>by cases hr⟩
 | _,_,v,.tok (i:=i) hr,hs,hX=>by
  rw[SV.Rep] at hs;subst hs;exact a4f h hr fun b hb=>⟨(hX b hb).1,fun e=>(hX b hb).2 ⟨i,by rw[SV.ids];exact zH.2 rfl,_,hr,e⟩⟩
 | _,_,v,.agg hl,hs,hX=>by
  rw[SV.Rep] at hs;obtain⟨us,rfl,hs⟩:=hs;rw[PV.Rep];exact⟨us,rfl,CoL.rep h hl hs (by rw[SV.ids] at hX;exact hX)⟩
 | _,_,v,.ref e cs,hs,hX=>by
  rw[SV.Rep] at hs;have:(PV.ptr e cs).Rep w (Own0 C st B T) v:=by rw[PV.Rep];exact hs
  exact this.still ⟨nr _,fun b cs t fr hx hh ht=>⟨rfl,fun hb=>hx (hX b hb).1⟩⟩
 | _,_,v,.box (id:=id) (off:=off) (ty:=ty) (cells:=cells) (ps:=ps) hr hc ho ht,hs,hX=>by
  rw[SV.Rep,mw ho] at hs;subst hs;obtain⟨g1,us,g2,g3⟩:=h.inn id _ hr;have g2:=g2.bk ht;have g4:=g3.drop off;rw[hc] at g4;have g5:PV.RepL w (Own0 C st B T) ps (us.drop off):=a9j g4;rw[PV.Rep];refine⟨⟨B id,off,none⟩,us.drop off,rfl,PV.RepL.still g5 ⟨nr _,fun b cs t fr hx hh ht=>⟨rfl,fun hb=>hx (hX b hb).1⟩⟩,fun _=>⟨fun hx=>(hX _ hx).2 ⟨id,by rw[SV.ids];exact zH.2 rfl,_,hr,rfl⟩,us.toArray,(0,0),g2⟩,fun j u hu=>?_⟩;rw[ij,g2.cell];rw[List.getElem?_drop] at hu;simpa using hu
 | _,_,v,.fn hl,hs,hX=>by
  rw[SV.Rep] at hs;obtain⟨us,rfl,hs⟩:=hs;rw[PV.Rep];exact⟨us,rfl,CoL.rep h hl hs (by rw[SV.ids] at hX;exact hX)⟩
 | _,_,v,.emp0,hs,hX=>by
  rw[SV.Rep] at hs;rw[PV.Rep];exact hs
 | _,_,v,.fnr f,hs,hX=>by
  rw[SV.Rep,PV.Rep] at hs;subst hs;rw[PV.Rep];exact⟨[],rfl,PV.RepL.nil⟩
theorem CoL.rep (h:InvB C st a w B T) {X:Nat→Prop}:∀{cs:List SV} {ps:List PV} {us:List Value},CoL st cs ps→SV.RepL w (Own0 C st B T) B T cs us→(∀b,X b→Own0 C st B T b∧¬lent st B T (SV.idsL cs) b)→PV.RepL w X ps us
 | _,_,us,.nil,hs,_=>by rw[SV.RepL] at hs;subst hs;rw[PV.RepL]
 | _,_,us,.cons hc hl,hs,hX=>by
  rw[SV.RepL] at hs;obtain⟨u,us',rfl,h1,h2⟩:=hs;rw[SV.idsL] at hX;exact PV.RepL.cons (Co.rep h hc h1 fun b hb=>⟨(hX b hb).1,fun ⟨i,hi,k⟩=>(hX b hb).2 ⟨i,zL _ hi,k⟩⟩) (CoL.rep h hl h2 fun b hb=>⟨(hX b hb).1,fun ⟨i,hi,k⟩=>(hX b hb).2 ⟨i,zV _ hi,k⟩⟩)
end
end
def fv (P : Program) (f : FuncId) : Bool := match P.funcs[f]? with | some fn => fn.name != "runtime.NumGoroutine" && fn.body.isSome | none => false
theorem j6 {P:Program} {f:FuncId} (h:fv P f=true) (args:Array Value) (w:World):(callFunc f args).run P w=.ok (.enter f args) w:=by
 unfold fv at h;unfold callFunc;simp only[Sem.run_bind,run_program,Result.andThen_ok];cases hf:P.funcs[f]? with
 | none=>rw[hf] at h;cases h
 | some fn=>
  rw[hf] at h;simp only[Bool.and_eq_true,bne_iff_ne,ne_eq] at h;obtain⟨h1,h2⟩:=h;cases hb:fn.body with
  | none=>rw[hb] at h2;cases h2
  | some c=>simp[h1,hb]
def PCalls (P:Program) (T:List Nat) (f:FuncId) (args:List PV) (res:PV):Prop:=fv P f=true∧
 ∀(w:World) (X:Nat→Prop) (us:List Value),(∀b,X b→b < w.heap.size)→(∀b cs t fr,X b→w.heap[b]?=some (.cells cs t fr)→t ∉ T)→PV.RepL w X args us→
  Calls P f us.toArray w fun e w'=>∃v,e=.returned v∧res.Rep w' X v∧Gr w w'
def evL (st:St):List Operand→Option (List SV)
 | []=>some []
 | x::xs=>match ev st x,evL st xs with
  | some s,some ss=>some (s::ss)
  | _,_=>none
def ta (st:St) (ids ts:List Nat):Bool:=ids.all fun i=>match st.res i with
 | some r=>!ts.contains r.typ
 | none=>true
section
variable {C:Cx} {tys:List Nat} {o:Oper} {st:St}
theorem kj {a:Act} {w:World} {B:Nat→Nat} {T:Nat→Sv} (h:InvB C st a w B T):∀{xs:List Operand} {ss:List SV},evL st xs=some ss→SV.RepL w (Own0 C st B T) B T ss (xs.map a.eval)∧∀i∈SV.idsL ss,(st.res i).isSome=true
 | [],ss,e=>by
  injection e with e;subst e;exact⟨by simp[SV.RepL],fun i hi=>by rw[SV.idsL] at hi;cases hi⟩
 | x::xs,ss,e=>by
  rw[evL] at e;split at e
  ·rename_i s ss' h1 h2
   injection e with e;subst e;obtain⟨g1,g2⟩:=az h h1;obtain⟨g3,g4⟩:=kj h h2;refine⟨SV.RepL.cons g1 g3,fun i hi=>?_⟩;rw[SV.idsL] at hi;rcases zJ.1 hi with hi | hi
   ·exact g2 i hi
   ·exact g4 i hi
  ·cases e
theorem jp {rb:List Nat} {st1:St} (ag:Agree o rb st st1):∀{xs:List Operand},(∀x∈xs,x∈o.op.operands)→evL st1 xs=evL st xs
 | [],_=>rfl
 | x::xs,h=>by
  rw[evL,evL,ag.ev (h x (mf ..)),jp ag fun y hy=>h y (zC _ hy)]
theorem vz {c:Call} {f:FuncId} {ss:List SV} {ps:List PV} {res:PV} {Tg:List Nat} (ho:o.op=.call c) (hc:c.callee=.value (.func f)) (ha:evL st c.args.toList=some ss) (hco:CoL st ss ps) (hp:fv C.P f=true∧∀(w:World) (B:Nat→Nat),GrC C B w→∀(X:Nat→Prop) (us:List Value),(∀b,X b→b < w.heap.size)→(∀b cs t fr,X b→w.heap[b]?=some (.cells cs t fr)→t ∉ Tg)→PV.RepL w X ps us→Calls C.P f us.toArray w fun e w'=>∃v,e=.returned v∧res.Rep w' X v∧Gr w w') (hT:Tg.all (fun t=>C.T.contains t)=true) (hty:Tg.all (fun t=>!st.tys.contains t)=true) (hl:ta st (SV.idsL ss) res.ty=true) (hd:∀d,o.dst=some d→C.dk d):
  OpE C st.tys o st (valE (.pv res) (SV.idsL ss)):=by
 refine⟨fun i r e=>(by cases e),fun st1 h1 h2 h3 a w ⟨B,T,hi⟩=>?_⟩;have h2':∀i∈SV.idsL ss,st1.res i=st.res i:=fun i hi=>h2 i (zL _ hi)
 have ha':=ha;rw[← jp (o:=o) (st1:=st1) (rb:=[]) ⟨h1,fun i hi=>by cases hi⟩ fun x hx=>by
  rw[ho];simp only[Op.operands,Call.operands,hc,Array.mem_append];exact .inr (Array.mem_toList_iff.1 hx)] at ha'
 obtain⟨g1,g2⟩:=kj hi ha';have hco':=hco.move h2'
 let X:Nat→Prop:=fun b=>Own0 C st1 B T b∧¬lent st1 B T (SV.idsL ss) b
 have old:∀b,Own0 C st1 B T b→b < w.heap.size:=fun b hb=>by
  rcases hb with hb | ⟨i,r,hr,hb⟩
  ·exact nk (C.old b hb) hi.gr.size
  ·have hin:=hi.inn i r hr;cases r with
   | box ty' cells'=>
    obtain⟨h1,vs,h2,h3⟩:=hin;simp only[Res.blk,oq] at hb;rw[← hb];exact h2.lt
   | tok e' k ts xs=>
    obtain⟨vs,h1,_⟩:=hin;exact (ma h1 b hb).2
 have hrep:PV.RepL w X ps (c.args.toList.map a.eval):=CoL.rep hi hco' g1 fun b hb=>hb
 have run:(execOp a.eval o).run C.P w=.ok (.enter f (c.args.map a.eval)) w:=by
  simp only[execOp,ho,resolve,hc,Sem.run_bind];have hf:a.eval (.func f)=.func (.func f) #[] #[]:=rfl;rw[hf];simp only[Deferred.ofValue];simp[invoke,j6 hp.1]
 refine eo run ?_;have hcall:=hp.2 w B hi.gr X (c.args.toList.map a.eval) (fun b hb=>old b hb.1) (fun b cs t fr hb hh ht=>by
  have htc:=zG.1 hT t ht;have hty':=zG.1 hty t ht;rcases hb.1 with hb1 | ⟨i,r,hr,hb1⟩
  ·have hlt:=C.old b hb1;have hh':C.w0.heap[b]?=some (.cells cs t fr):=by rw[← hi.gr.old hb1];exact hh
   exact C.hT b cs t fr hb1 hh' (zE.1 htc)
  ·have hrt:=h3 i r hr;have:r.typ=t:=by
    have hin:=hi.inn i r hr;cases r with
    | box ty' cells'=>
     obtain⟨k1,vs,k2,k3⟩:=hin;simp only[Res.blk,oq] at hb1;exact (k2.typ (hb1▸hh)).symm
    | tok e' k ts xs=>
     obtain⟨vs,k1,_⟩:=hin;obtain⟨cur,k2⟩:=a8h k1 b hb1;rw[k2] at hh;injection hh with hh;injection hh with _ hh _
   rw[this] at hrt;simp only[Bool.not_eq_true'] at hty';have:=zE.2 hrt;rw[hty'] at this;cases this) hrep
 rw[show (c.args.map a.eval)=(c.args.toList.map a.eval).toArray from by rw[← Array.toList_map,Array.toArray_toList]];refine hcall.mono fun e w' ⟨v,he,hv,G⟩=>⟨v,he,?_⟩
 refine ow hi G ?_ (fun i hi=>by cases (show i∈([]:List Nat) from hi)) hd;rw[SV.Rep];refine hv.still ⟨nr _,fun b cs t fr hx hh ht=>⟨rfl,fun hb=>?_⟩⟩;by_cases hlent:lent st1 B T (SV.idsL ss) b
 ·obtain⟨i,hi1,r,hr,hb2⟩:=hlent;have hl1:=zG.1 hl i hi1;rw[← h2' i hi1,hr] at hl1;simp only[Bool.not_eq_true'] at hl1;have hin:=hi.inn i _ hr;rw[G.below.block b (old b (.inr ⟨i,r,hr,hb2⟩))] at hh;have htyp:t=r.typ:=by
   cases r with
   | box ty' cells'=>
    obtain⟨k1,vs,k2,k3⟩:=hin;simp only[Res.blk,oq] at hb2;exact k2.typ (hb2▸hh)
   | tok e' k ts xs=>
    obtain⟨us,q1,_⟩:=hin;obtain⟨cur,q2⟩:=a8h q1 b hb2;rw[q2] at hh;injection hh with hh;injection hh with _ hh _;exact hh.symm
  subst htyp;rw[zE.2 ht] at hl1;cases hl1
 ·exact hx ⟨hb,hlent⟩
theorem aep {c:Call} {f:FuncId} {ss:List SV} {ps:List PV} {res:PV} {Tg:List Nat} (ho:o.op=.call c) (hc:c.callee=.value (.func f)) (ha:evL st c.args.toList=some ss) (hco:CoL st ss ps) (hp:PCalls C.P Tg f ps res) (hT:Tg.all (fun t=>C.T.contains t)=true) (hty:Tg.all (fun t=>!st.tys.contains t)=true) (hl:ta st (SV.idsL ss) res.ty=true) (hd:∀d,o.dst=some d→C.dk d):
  OpE C st.tys o st (valE (.pv res) (SV.idsL ss)):=vz ho hc ha hco ⟨hp.1,fun w _ _=>hp.2 w⟩ hT hty hl hd
end
end Go.Proofs.YtbhbainhmfjpdaaGreatDoor
