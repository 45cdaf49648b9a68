/- Walks of the search and of what it calls, part 11. -/
import Derived.Test.YtbhbainhmfjpdaaGreatDoorMj
set_option linter.unusedVariables false
set_option linter.unusedSimpArgs false
set_option maxRecDepth 100000
set_option maxHeartbeats 8000000
namespace Go.Proofs.YtbhbainhmfjpdaaGreatDoor
open Go.RowKit
structure XOk (w:World) (X:Nat→Prop) (T:List Nat):Prop where
 old:∀b,X b→b < w.heap.size
 ty:∀b cs t fr,X b→w.heap[b]?=some (.cells cs t fr)→t ∉ T
section
variable {w w':World} {X:Nat→Prop} {T:List Nat} {x:Sv} {e:Nat} {v:Value} {q:Q} {us:List Value}
theorem XOk.gr (h:XOk w X T) (G:Gr w w'):XOk w' X T:=⟨fun b hb=>nk (h.old b hb) G.size,fun b cs t fr hb hh=>h.ty b cs t fr hb (by rw[← G.below.block b (h.old b hb)];exact hh)⟩
theorem Sv.Ty.av (h:x.Ty w e) (hX:XOk w X T) (he:e∈T):x.Av X:=fun ad ha hn hx=>by
 obtain⟨cs,fr,hh⟩:=h ad ha hn;exact hX.ty _ cs e fr hx hh he
theorem nat_to {n:Nat} (h:x.Num w (limbs n)) (hX:XOk w X T) (hu:200∈T):(PV.nat n).Rep w X x.v:=by
 rw[PV.Rep];exact⟨x,rfl,h,h.ty.av hX hu⟩
theorem raw_to (v:Value):(PV.raw v).Rep w X v:=by rw[PV.Rep]
theorem raw_of {u:Value} (h:(PV.raw u).Rep w X v):v=u:=by rw[PV.Rep] at h;exact h
theorem nat_of {n:Nat} (h:(PV.nat n).Rep w X v):∃x:Sv,v=x.v∧x.Num w (limbs n):=by
 rw[PV.Rep] at h;obtain⟨x,e,h,_⟩:=h;exact⟨x,e,h⟩
theorem q_to {r:Rv} (h:r.Is w q) (hX:XOk w X T) (hu:200∈T):PV.RepL w X (qC q) r.cs:=by
 unfold qC;refine PV.RepL.cons ?_ (PV.RepL.cons (nat_to h.num hX hu) (PV.RepL.cons (nat_to h.den hX hu) PV.RepL.nil));rw[← h.neg];exact raw_to _
theorem q_of (h:PV.RepL w X (qC q) us):∃r:Rv,us=r.cs∧r.Is w q:=by
 unfold qC at h;rw[PV.RepL] at h;obtain⟨u1,us1,rfl,h1,h⟩:=h;rw[PV.RepL] at h;obtain⟨u2,us2,rfl,h2,h⟩:=h;rw[PV.RepL] at h;obtain⟨u3,us3,rfl,h3,h⟩:=h;rw[PV.RepL] at h;subst h;obtain rfl:=raw_of h1;obtain⟨x,rfl,hx⟩:=nat_of h2;obtain⟨y,rfl,hy⟩:=nat_of h3;exact⟨⟨q.neg,x,y⟩,rfl,rfl,hx,hy⟩
theorem rat_to {r:Rv} (h:r.Is w q) (hX:XOk w X T) (hu:200∈T):(ratP q).Rep w X r.v:=by
 rw[PV.Rep];exact⟨r.cs,rfl,q_to h hX hu⟩
theorem rat_of (h:(ratP q).Rep w X v):∃r:Rv,v=r.v∧r.Is w q:=by
 rw[PV.Rep] at h;obtain⟨us,rfl,h⟩:=h;obtain⟨r,rfl,hr⟩:=q_of h;exact⟨r,rfl,hr⟩
theorem rows_to {α β:Type} {cs:β→List Value} {Is:World→β→α→Prop} {k:Nat} {D:α→List PV} {ts:List Nat} {xs:List α} (h:Rows cs Is e k w x xs) (hX:XOk w X T) (he:e∈T) (hI:∀b a,Is w b a→PV.RepL w X (D a) (cs b)) (hk:∀b,(cs b).length=k) (h0:0 < k) (hok:RowOk k ts (xs.map D)):(PV.rows e k ts (xs.map D)).Rep w X x.v:=by
 have hl:=h.len hk h0;obtain⟨zs,h1,rfl,h3,h4⟩:=h;rw[PV.Rep];refine⟨x,zs.map fun p=>cs p.1,rfl,by rw[← hl];simp,by rw[← List.flatMap_def];exact h1,h4,h4.av hX he,?_,hok⟩;clear h1 hok hl
 induction zs with
 | nil=>exact PV.RepLL.nil
 | cons p zs ih=>exact PV.RepLL.cons (hI _ _ (h3 p (mf ..))) (ih fun q hq=>h3 q (List.mem_cons_of_mem _ hq))
theorem rows_of {α β:Type} {cs:β→List Value} {Is:World→β→α→Prop} {k:Nat} {D:α→List PV} {ts:List Nat} {xs:List α} (h:(PV.rows e k ts (xs.map D)).Rep w X v) (hI:∀a us,PV.RepL w X (D a) us→∃b,us=cs b∧Is w b a):∃x:Sv,v=x.v∧Rows cs Is e k w x xs:=by
 rw[PV.Rep] at h;obtain⟨x,us,rfl,hn,h1,h2,_,h3,_⟩:=h;have key:∀(xs:List α) (us:List (List Value)),PV.RepLL w X (xs.map D) us→∃zs:List (β×α),us=zs.map (fun p=>cs p.1)∧xs=zs.map (·.2)∧∀p∈zs,Is w p.1 p.2:=fun xs=>by
  induction xs with
  | nil=>
   intro us h;rw[List.map_nil,PV.RepLL] at h;exact⟨[],h,rfl,fun p hp=>by cases hp⟩
  | cons a xs ih=>
   intro us h;rw[List.map_cons,PV.RepLL] at h;obtain⟨u,us',rfl,g1,g2⟩:=h;obtain⟨b,rfl,hb⟩:=hI a u g1;obtain⟨zs,rfl,rfl,g3⟩:=ih us' g2;exact⟨(b,a)::zs,rfl,rfl,fun p hp=>by
    rcases List.mem_cons.1 hp with e | e
    ·rw[e];exact hb
    ·exact g3 p e⟩
 obtain⟨zs,rfl,rfl,g⟩:=key xs us h3;exact⟨x,rfl,zs,by rw[List.flatMap_def];exact h1,rfl,g,h2⟩
theorem tm_ok (l:List Tm):RowOk 4 [200] (l.map tmC):=fun r hr=>by
 obtain⟨t,_,rfl⟩:=List.mem_map.1 hr;refine⟨rfl,fun c hc=>?_⟩;unfold tmC at hc;simp only[List.mem_cons,List.not_mem_nil,or_false] at hc;rcases hc with rfl | rfl | rfl | rfl<;>exact⟨rfl,fun t ht=>by first | exact ht | cases ht⟩
theorem tm_to (b:Tv) (a:Tm) (h:Tv.Is w b a) (hX:XOk w X T) (hu:200∈T):PV.RepL w X (tmC a) b.cs:=by
 unfold tmC;refine PV.RepL.cons ?_ (q_to h.coef hX hu);rw[← h.var];exact raw_to _
theorem tm_of (a:Tm) (us:List Value) (h:PV.RepL w X (tmC a) us):∃b:Tv,us=b.cs∧Tv.Is w b a:=by
 unfold tmC at h;rw[PV.RepL] at h;obtain⟨u1,us1,rfl,h1,h⟩:=h;obtain⟨r,rfl,hr⟩:=q_of (q:=a.2) h;obtain rfl:=raw_of h1;exact⟨⟨a.1,r⟩,rfl,rfl,hr⟩
theorem fm_to {f:Fv} {x:Fm} (h:f.Is w x) (hX:XOk w X T) (hu:200∈T) (ht:138∈T):PV.RepL w X (fmC x) f.cs:=by
 unfold fmC;exact PV.RepL.cons (rows_to h.terms hX ht (fun b a hb=>tm_to b a hb hX hu) Tv.len dx (tm_ok _)) (q_to h.const hX hu)
theorem fm_of (x:Fm) (us:List Value) (h:PV.RepL w X (fmC x) us):∃f:Fv,us=f.cs∧f.Is w x:=by
 unfold fmC at h;rw[PV.RepL] at h;obtain⟨u1,us1,rfl,h1,h⟩:=h;obtain⟨r,rfl,hr⟩:=q_of (q:=x.const) h;obtain⟨y,rfl,hy⟩:=rows_of (cs:=Tv.cs) (Is:=Tv.Is) h1 tm_of;exact⟨⟨y,r⟩,rfl,hy,hr⟩
theorem form_to {f:Fv} {x:Fm} (h:f.Is w x) (hX:XOk w X T) (hu:200∈T) (ht:138∈T):(fmP x).Rep w X f.v:=by
 rw[PV.Rep];exact⟨f.cs,rfl,fm_to h hX hu ht⟩
theorem form_of {x:Fm} (h:(fmP x).Rep w X v):∃f:Fv,v=f.v∧f.Is w x:=by
 rw[PV.Rep] at h;obtain⟨us,rfl,h⟩:=h;obtain⟨f,rfl,hf⟩:=fm_of x _ h;exact⟨f,rfl,hf⟩
theorem fm_ok (l:List Fm):RowOk 4 [138,200] (l.map fmC):=fun r hr=>by
 obtain⟨t,_,rfl⟩:=List.mem_map.1 hr;refine⟨rfl,fun c hc=>?_⟩;unfold fmC at hc;simp only[List.mem_cons,List.not_mem_nil,or_false] at hc;rcases hc with rfl | rfl | rfl | rfl<;>exact⟨rfl,fun t ht=>by first | exact ht | exact List.mem_cons_of_mem _ ht | (cases ht;done)⟩
theorem forms_of {l:List Fm} (h:(formsP l).Rep w X v):∃x:Sv,v=x.v∧Forms w x l:=rows_of h fm_of
theorem gm_of {g:Gm} (h:(gmP g).Rep w X v):∃x:Gv,v=x.v∧x.Is w g:=by
 rw[PV.Rep] at h;obtain⟨us,rfl,h⟩:=h;unfold gmC at h;rw[PV.RepL] at h;obtain⟨u1,us1,rfl,h1,h⟩:=h;rw[PV.RepL] at h;obtain⟨u2,us2,rfl,h2,h⟩:=h;rw[PV.RepL] at h;obtain⟨u3,us3,rfl,h3,h⟩:=h;rw[PV.RepL] at h;subst h;obtain rfl:=raw_of h1;obtain⟨x,rfl,hx⟩:=forms_of h2;obtain⟨y,rfl,hy⟩:=forms_of h3;exact⟨⟨g.inputs,x,y⟩,rfl,rfl,hx,hy⟩
theorem args1 {p:PV} (h:PV.RepL w X [p] us):∃u,us=[u]∧p.Rep w X u:=by
 rw[PV.RepL] at h;obtain⟨u,us',rfl,h1,h⟩:=h;rw[PV.RepL] at h;subst h;exact⟨u,rfl,h1⟩
theorem args2 {p q:PV} (h:PV.RepL w X [p,q] us):∃u v,us=[u,v]∧p.Rep w X u∧q.Rep w X v:=by
 rw[PV.RepL] at h;obtain⟨u,us',rfl,h1,h⟩:=h;obtain⟨v,rfl,h2⟩:=args1 h;exact⟨u,v,rfl,h1,h2⟩
end
section
variable {P:Program} {f:FuncId} {x z:Q} {i:Value}
abbrev u32:Nat:=200
abbrev TU:List Nat:=[200]
abbrev TF:List Nat:=[138,200]
theorem pc_q1 (hc:callB P f=true) (h:∀(w:World) (a:Rv),a.Is w x→Calls P f #[a.v] w fun e w'=>∃r:Rv,e=.returned r.v∧r.Is w' z∧Gr w w'):PCalls P TU f [ratP x] (ratP z):=⟨hc,fun w X us h1 h2 h3=>by
 obtain⟨u,rfl,g⟩:=args1 h3;obtain⟨a,rfl,ha⟩:=rat_of g;exact (h w a ha).mono fun e w' ⟨r,he,hr,G⟩=>⟨_,he,rat_to hr (XOk.gr ⟨h1,h2⟩ G) (List.mem_singleton.2 rfl),G⟩⟩
theorem pc_q2 {y:Q} (hc:callB P f=true) (h:∀(w:World) (a b:Rv),a.Is w x→b.Is w y→Calls P f #[a.v,b.v] w fun e w'=>∃r:Rv,e=.returned r.v∧r.Is w' z∧Gr w w'):PCalls P TU f [ratP x,ratP y] (ratP z):=⟨hc,fun w X us h1 h2 h3=>by
 obtain⟨u,v,rfl,g1,g2⟩:=args2 h3;obtain⟨a,rfl,ha⟩:=rat_of g1;obtain⟨b,rfl,hb⟩:=rat_of g2;exact (h w a b ha hb).mono fun e w' ⟨r,he,hr,G⟩=>⟨_,he,rat_to hr (XOk.gr ⟨h1,h2⟩ G) (List.mem_singleton.2 rfl),G⟩⟩
theorem pc_i1 (hc:callB P f=true) (h:∀(w:World),Calls P f #[i] w fun e w'=>∃r:Rv,e=.returned r.v∧r.Is w' z∧Gr w w'):PCalls P TU f [.raw i] (ratP z):=⟨hc,fun w X us h1 h2 h3=>by
 obtain⟨u,rfl,g⟩:=args1 h3;obtain rfl:=raw_of g;exact (h w).mono fun e w' ⟨r,he,hr,G⟩=>⟨_,he,rat_to hr (XOk.gr ⟨h1,h2⟩ G) (List.mem_singleton.2 rfl),G⟩⟩
theorem pc_i2 {j:Value} (hc:callB P f=true) (h:∀(w:World),Calls P f #[i,j] w fun e w'=>∃r:Rv,e=.returned (.tuple #[r.v,.int .i64 0])∧r.Is w' z∧Gr w w'):PCalls P TU f [.raw i,.raw j] (.tup [ratP z,iP 0]):=⟨hc,fun w X us h1 h2 h3=>by
 obtain⟨u,v,rfl,g1,g2⟩:=args2 h3;obtain rfl:=raw_of g1;obtain rfl:=raw_of g2;exact (h w).mono fun e w' ⟨r,he,hr,G⟩=>⟨_,he,by rw[PV.Rep];exact⟨_,rfl,PV.RepL.cons (rat_to hr (XOk.gr ⟨h1,h2⟩ G) (List.mem_singleton.2 rfl)) (PV.RepL.cons (raw_to _) PV.RepL.nil)⟩,G⟩⟩
theorem pc_v1 {z:Value} (hc:callB P f=true) (h:∀(w:World) (a:Rv),a.Is w x→Calls P f #[a.v] w fun e w'=>e=.returned z∧Gr w w'):PCalls P [] f [ratP x] (.raw z):=⟨hc,fun w X us h1 h2 h3=>by
 obtain⟨u,rfl,g⟩:=args1 h3;obtain⟨a,rfl,ha⟩:=rat_of g;exact (h w a ha).mono fun e w' ⟨he,G⟩=>⟨_,he,raw_to _,G⟩⟩
theorem pc_v2 {y:Q} {z:Value} (hc:callB P f=true) (h:∀(w:World) (a b:Rv),a.Is w x→b.Is w y→Calls P f #[a.v,b.v] w fun e w'=>e=.returned z∧Gr w w'):PCalls P [] f [ratP x,ratP y] (.raw z):=⟨hc,fun w X us h1 h2 h3=>by
 obtain⟨u,v,rfl,g1,g2⟩:=args2 h3;obtain⟨a,rfl,ha⟩:=rat_of g1;obtain⟨b,rfl,hb⟩:=rat_of g2;exact (h w a b ha hb).mono fun e w' ⟨he,G⟩=>⟨_,he,raw_to _,G⟩⟩
theorem pc_f2 {x y z:Fm} (hc:callB P f=true) (h:∀(w:World) (a b:Fv),a.Is w x→b.Is w y→Calls P f #[a.v,b.v] w fun e w'=>∃r:Fv,e=.returned r.v∧r.Is w' z∧Gr w w'):PCalls P TF f [fmP x,fmP y] (fmP z):=⟨hc,fun w X us h1 h2 h3=>by
 obtain⟨u,v,rfl,g1,g2⟩:=args2 h3;obtain⟨a,rfl,ha⟩:=form_of g1;obtain⟨b,rfl,hb⟩:=form_of g2;exact (h w a b ha hb).mono fun e w' ⟨r,he,hr,G⟩=>⟨_,he,form_to hr (XOk.gr ⟨h1,h2⟩ G) (by simp) (by simp),G⟩⟩
theorem pc_fq {x z:Fm} {q:Q} (hc:callB P f=true) (h:∀(w:World) (a:Fv) (b:Rv),a.Is w x→b.Is w q→Calls P f #[a.v,b.v] w fun e w'=>∃r:Fv,e=.returned r.v∧r.Is w' z∧Gr w w'):PCalls P TF f [fmP x,ratP q] (fmP z):=⟨hc,fun w X us h1 h2 h3=>by
 obtain⟨u,v,rfl,g1,g2⟩:=args2 h3;obtain⟨a,rfl,ha⟩:=form_of g1;obtain⟨b,rfl,hb⟩:=rat_of g2;exact (h w a b ha hb).mono fun e w' ⟨r,he,hr,G⟩=>⟨_,he,form_to hr (XOk.gr ⟨h1,h2⟩ G) (by simp) (by simp),G⟩⟩
theorem pc_fv {x:Fm} {z:Value} (hc:callB P f=true) (h:∀(w:World) (a:Fv),a.Is w x→Calls P f #[a.v,i] w fun e w'=>e=.returned z∧Gr w w'):PCalls P [] f [fmP x,.raw i] (.raw z):=⟨hc,fun w X us h1 h2 h3=>by
 obtain⟨u,v,rfl,g1,g2⟩:=args2 h3;obtain⟨a,rfl,ha⟩:=form_of g1;obtain rfl:=raw_of g2;exact (h w a ha).mono fun e w' ⟨he,G⟩=>⟨_,he,raw_to _,G⟩⟩
theorem pc_g {g:Gm} {z:Value} (hc:callB P f=true) (h:∀(w:World) (a:Gv),a.Is w g→Calls P f #[a.v] w fun e w'=>e=.returned z∧Gr w w'):PCalls P [] f [gmP g] (.raw z):=⟨hc,fun w X us h1 h2 h3=>by
 obtain⟨u,rfl,g1⟩:=args1 h3;obtain⟨a,rfl,ha⟩:=gm_of g1;exact (h w a ha).mono fun e w' ⟨he,G⟩=>⟨_,he,raw_to _,G⟩⟩
end
theorem Q.Sm.num' {q:Q} (h:q.Sm):(limbs q.num).length≤100000:=nt h.num dx
theorem Q.Sm.un' {q:Q} (h:q.Sm):Sl q.un:=nt h.den dx
theorem Q.Sm.den' {q:Q} (h:q.Sm):Sl q.den:=den_len h.un'
theorem p_sign {q:Q} (h:q.Sm):PCalls Tryz.prog [] 130 [ratP q] (iP q.sign):=pc_v1 (by kernel_rfl) fun w a ha=>sign_any w a q ha (nt h.num dx)
theorem p_canon {q:Q} (h:q.Sm):PCalls Tryz.prog TU 177 [ratP q] (ratP (canonQ q)):=pc_q1 (by kernel_rfl) fun w a ha=>canon_any w a q ha (nt h.num dx) h.un'
theorem p_sub {x y:Q} (h:x.Sm) (k:y.Sm):PCalls Tryz.prog TU 282 [ratP x,ratP y] (ratP (Q.sub x y)):=pc_q2 (by kernel_rfl) fun w a b ha hb=>qsub_any w a b x y ha hb h.num' k.num' ⟨h.un',k.un'⟩
theorem p_of (x:Int) (h1:-1000000000≤x) (h2:x≤1000000000):PCalls Tryz.prog TU 188 [iP x] (ratP (ofQ x)):=pc_i1 (by kernel_rfl) fun w=>rof_any w x h1 h2
theorem p_valid {q:Q} (h:q.Sm) (hq:q.Ok):PCalls Tryz.prog [] 126 [ratP q] (bP true):=pc_v1 (by kernel_rfl) fun w a ha=>rvalid_any w a q ha hq (nt h.num dx) h.un'
theorem p_cmp {x y:Q} (h:x.Sm) (k:y.Sm):PCalls Tryz.prog [] 127 [ratP x,ratP y] (iP (Q.cmpQ x y)):=pc_v2 (by kernel_rfl) fun w a b ha hb=>rcmp3_any w a b x y ha hb h.num' k.num' h.un' k.un'
structure Fm.Lo (f:Fm):Prop where
 num:∀t∈f.terms,t.2.Lo
 const:f.const.Lo
 len:f.terms.length≤400
theorem p_ladd {x y:Fm} (h:x.Lo) (k:y.Lo):PCalls Tryz.prog TF 191 [fmP x,fmP y] (fmP (mrg x y Q.one)):=pc_f2 (by kernel_rfl) fun w a b ha hb=>ladd_any w a b x y ha hb h.num k.num h.const k.const (by have:=h.len;have:=k.len;omega)
theorem p_lsub {x y:Fm} (h:x.Lo) (k:y.Lo):PCalls Tryz.prog TF 140 [fmP x,fmP y] (fmP (mrg x y Q.mone)):=pc_f2 (by kernel_rfl) fun w a b ha hb=>lsub_any w a b x y ha hb h.num k.num h.const k.const (by have:=h.len;have:=k.len;omega)
theorem p_lscale {x:Fm} {q:Q} (h:x.Lo) (k:q.Lo):PCalls Tryz.prog TF 187 [fmP x,ratP q] (fmP (mrg Fm.zero x q)):=pc_fq (by kernel_rfl) fun w a b ha hb=>lscale_any w a b x q ha hb h.num h.const k (by have:=h.len;omega)
theorem p_lvalid {x:Fm} {v:Nat} (h:x.Lo) (k:x.Ok v):PCalls Tryz.prog [] 73 [fmP x,iP v] (bP true):=pc_fv (by kernel_rfl) fun w a ha=>lvalid_any w a x v ha k h.num h.const
theorem p_gvalid {g:Gm} (h:g.Va):PCalls Tryz.prog [] 71 [gmP g] (bP true):=pc_g (by kernel_rfl) fun w a ha=>gvalid_any w a g ha h
theorem r_sign {q:Q} (h:q.Sm):PCalls Tryz.prog [] 27 [ratP q] (iP (isg q.neg q.num)):=pc_v1 (by kernel_rfl) fun w a ha=>rsign_any w a q ha (nt h.num dx)
theorem r_canon {q:Q} (h:q.Sm):PCalls Tryz.prog TU 124 [ratP q] (ratP (canonQ q)):=pc_q1 (by kernel_rfl) fun w a ha=>rcanon_any w a q ha h.num' h.den'
theorem r_add {x y:Q} (h:x.Sm) (k:y.Sm) (hx:x.Ok) (hy:y.Ok):PCalls Tryz.prog TU 20 [ratP x,ratP y] (ratP (Q.add x y)):=pc_q2 (by kernel_rfl) fun w a b ha hb=>r3add_any w a b x y ha hb hx hy h.num' k.num' h.den' k.den'
theorem r_mul {x y:Q} (h:x.Sm) (k:y.Sm):PCalls Tryz.prog TU 69 [ratP x,ratP y] (ratP (Q.mul x y)):=pc_q2 (by kernel_rfl) fun w a b ha hb=>r3mul_any w a b x y ha hb h.num' k.num' h.den' k.den'
theorem r_of (x:Int) (h1:-1000000000≤x) (h2:x≤1000000000):PCalls Tryz.prog TU 61 [iP x] (ratP (ofQ x)):=pc_i1 (by kernel_rfl) fun w=>r3of_any w x h1 h2
theorem r_frac (a:Int) (b:Nat) (h1:-1000000000≤a) (h2:a≤1000000000) (h3:0 < b) (h4:b≤1000000000):PCalls Tryz.prog TU 19 [iP a,iP b] (.tup [ratP (quot (decide (a < 0)) a.natAbs b),iP 0]):=pc_i2 (by kernel_rfl) fun w=>frac_any w a b h1 h2 h3 h4
theorem r_valid {q:Q} (h:q.Sm) (hq:q.Ok):PCalls Tryz.prog [] 142 [ratP q] (bP true):=pc_v1 (by kernel_rfl) fun w a ha=>r3valid_any w a q ha hq h.num' h.den'
theorem r_same {x y:Q}:PCalls Tryz.prog [] 151 [ratP x,ratP y] (bP (decide (x=y))):=pc_v2 (by kernel_rfl) fun w a b ha hb=>rsame_any w a b x y ha hb
theorem r_gvalid {g:Gm} (h:g.Va):PCalls Tryz.prog [] 57 [gmP g] (bP true):=pc_g (by kernel_rfl) fun w a ha=>r15valid_any w a g ha h
def pvL:List SV→Option (List PV)
 | []=>some []
 | .pv p::cs=>match pvL cs with
  | some ps=>some (p::ps)
  | none=>none
 | _::_=>none
theorem pvL_ok:∀{cs:List SV} {ps:List PV},pvL cs=some ps→cs=ps.map .pv
 | [],ps,h=>by rw[pvL] at h;injection h with h;subst h;rfl
 | c::cs,ps,h=>by
  cases c with
  | pv p=>
   rw[pvL] at h;split at h
   ·rename_i qs hq
    injection h with h;subst h;rw[List.map_cons,← pvL_ok hq]
   ·cases h
  | _=>cases h
mutual
def coSV (st:St):SV→Option PV
 | .pv p=>some p
 | .agg cs=>match coSVL st cs with
  | some ps=>some (.agg ps)
  | none=>none
 | .tok i=>match st.res i with
  | some (.tok e k ts xs)=>some (.rows e k ts xs)
  | _=>none
 | .nil e k ts=>some (.rows e k ts [])
 | .emp=>some (.raw (.slice none 0 0))
 | .ref e cs=>some (.ptr e cs)
 | .box i off=>match st.res i with
  | some (.box ty cells)=>(match pvL (cells.drop off) with
   | some ps=>some (.ptr ty ps)
   | none=>none)
  | _=>none
 | .fn f cs=>match coSVL st cs with
  | some ps=>some (.fn f ps)
  | none=>none
 | _=>none
def coSVL (st:St):List SV→Option (List PV)
 | []=>some []
 | c::cs=>match coSV st c,coSVL st cs with
  | some p,some ps=>some (p::ps)
  | _,_=>none
end
mutual
theorem coSV_ok {st:St}:∀{s:SV} {p:PV},coSV st s=some p→Co st s p
 | .pv p,_,h=>by rw[coSV] at h;injection h with h;subst h;exact .pv _
 | .agg cs,_,h=>by
  rw[coSV] at h;split at h
  ·rename_i ps hp
   injection h with h;subst h;exact .agg (coSVL_ok hp)
  ·cases h
 | .tok i,_,h=>by
  rw[coSV] at h;split at h
  ·rename_i e k ts xs hr
   injection h with h;subst h;exact .tok hr
  ·cases h
 | .any,_,h=>by cases h
 | .emp,_,h=>by rw[coSV] at h;injection h with h;subst h;exact .emp0
 | .nil e k ts,_,h=>by rw[coSV] at h;injection h with h;subst h;exact .nil e k ts
 | .box i off,_,h=>by
  rw[coSV] at h;split at h
  ·rename_i ty cells hr
   split at h
   ·rename_i ps hp
    injection h with h;subst h;exact .box hr (pvL_ok hp)
   ·cases h
  ·cases h
 | .ref e cs,_,h=>by rw[coSV] at h;injection h with h;subst h;exact .ref e cs
 | .fn f cs,_,h=>by
  rw[coSV] at h;split at h
  ·rename_i ps hp
   injection h with h;subst h;exact .fn (coSVL_ok hp)
  ·cases h
 | .tup _,_,h=>by cases h
 | .elt _ _,_,h=>by cases h
theorem coSVL_ok {st:St}:∀{cs:List SV} {ps:List PV},coSVL st cs=some ps→CoL st cs ps
 | [],_,h=>by rw[coSVL] at h;injection h with h;subst h;exact .nil
 | c::cs,_,h=>by
  rw[coSVL] at h;split at h
  ·rename_i p ps h1 h2
   injection h with h;subst h;exact .cons (coSV_ok h1) (coSVL_ok h2)
  ·cases h
end
def retV (tab:Tab) (st:St):ResultVar→Option PV
 | .tmp t=>match st.slot t with
  | some s=>coSV st s
  | none=>none
 | .cell t ty=>match st.slot t,tab.get ty with
  | some (.box id 0),some l=>(match st.res id with
   | some (.box _ cs)=>(match l.agg with
    | true=>bif Nat.beq cs.length l.zero.length then (match coSVL st cs with
     | some ps=>some (.agg ps)
     | none=>none) else none
    | false=>(match cs with
     | [c]=>coSV st c
     | _=>none))
   | _=>none)
  | _,_=>none
def retL (tab:Tab) (st:St):List ResultVar→Option (List PV)
 | []=>some []
 | r::rs=>match retV tab st r,retL tab st rs with
  | some p,some ps=>some (p::ps)
  | _,_=>none
def retE (tab:Tab) (st:St) (rs:List ResultVar):Option PV:=match rs with
 | [r]=>retV tab st r
 | rs=>match retL tab st rs with
  | some ps=>some (.tup ps)
  | none=>none
section
variable {P:Program} {tab:Tab} {st:St}
theorem retV_ok {r:ResultVar} {p:PV} (h:retV tab st r=some p):resV P tab st r p:=by
 unfold retV at h;split at h
 ·rename_i t
  split at h
  ·rename_i s hs
   exact⟨s,hs,coSV_ok h⟩
  ·cases h
 ·rename_i t ty
  split at h
  ·rename_i id l h1 h2
   split at h
   ·rename_i tz cs h3
    refine⟨id,tz,cs,l,h1,h3,h2,?_⟩;split at h
    ·rename_i hag
     rw[hag];cases hb:Nat.beq cs.length l.zero.length with
     | false=>rw[hb] at h;cases h
     | true=>
      rw[hb] at h;simp only[cond_true] at h;split at h
      ·rename_i ps hp
       injection h with h;exact⟨Nat.eq_of_beq_eq_true hb,ps,h.symm,coSVL_ok hp⟩
      ·cases h
    ·rename_i hag
     rw[hag];split at h
     ·rename_i c
      exact⟨c,rfl,coSV_ok h⟩
     ·cases h
   ·cases h
  ·cases h
theorem retL_ok:∀{rs:List ResultVar} {ps:List PV},retL tab st rs=some ps→resL P tab st rs ps
 | [],ps,h=>by rw[retL] at h;injection h with h;rw[resL];exact h.symm
 | r::rs,ps,h=>by
  rw[retL] at h;split at h
  ·rename_i p ps' h1 h2
   injection h with h;subst h;rw[resL];exact⟨p,ps',rfl,retV_ok h1,retL_ok h2⟩
  ·cases h
theorem ret_ok {fn:Func} {p res:PV} (h:retE tab st fn.results.toList=some p) (e:p=res):RetOk P tab fn st res:=by
 subst e;unfold RetOk;unfold retE at h;have many:∀rs:List ResultVar,(match retL tab st rs with
  | some ps=>some (PV.tup ps)
  | none=>none)=some p→∃ps,p=.tup ps∧resL P tab st rs ps:=fun rs h=>by
  split at h
  ·rename_i ps hp
   injection h with h;exact⟨ps,h.symm,retL_ok hp⟩
  ·cases h
 generalize fn.results.toList=rs at h ⊢
 match rs,h with
 | [],h=>exact many [] h
 | [r],h=>exact retV_ok h
 | r::r2::rs,h=>exact many (r::r2::rs) h
end
section
variable {C:Cx} {o:Oper} {st:St} {res:PV}
theorem opE_callA {c:Call} {f:FuncId} {ss:List SV} {ps:List PV} {Tg:List Nat} (hp:PCalls C.P Tg f ps res) (ho:o.op=.call c) (hc:c.callee=.value (.func f)) (ha:evL st c.args.toList=some ss) (hco:coSVL st ss=some ps) (hT:Tg.all (fun t=>C.T.contains t)=true) (hty:Tg.all (fun t=>!st.tys.contains t)=true) (hl:lentB st (SV.idsL ss) res.ty=true) (hd:∀d,o.dst=some d→d < C.N):
  OpE C st.tys o st (valE (.pv res) (SV.idsL ss)):=opE_call ho hc ha (coSVL_ok hco) hp hT hty hl hd
theorem reg_call {ops:List Oper} {Q:Exit→St→Prop} {draw:Bool} {acc:List Itm} {k:Nat} {ks:List Nat} {c:Call} {f:FuncId} {ss:List SV} {ps:List PV} {Tg:List Nat} {dst:Option Nat} {ty:TypeId} {pos:String} {af:Array Edge} {gd:Option (Nat×Bool)} (hp:PCalls C.P Tg f ps res) (hk:nthL ops k=some ⟨dst,.call c,ty,pos,af,gd⟩) (hw:wantS ops.toArray ⟨dst,.call c,ty,pos,af,gd⟩ st=some true) (hd:dstB ⟨dst,.call c,ty,pos,af,gd⟩ C.N=true) (hc:c.callee=.value (.func f)) (ha:evL st c.args.toList=some ss) (hco:coSVL st ss=some ps) (hT:(Tg.all (fun t=>C.T.contains t)&&(Tg.all (fun t=>!st.tys.contains t)&&lentB st (SV.idsL ss) res.ty))=true) (next:Reg C ops draw Q (acc++[⟨k,true,valE (.pv res) (SV.idsL ss),lkOf ops k st (valE (.pv res) (SV.idsL ss))⟩]) ks ((valE (.pv res) (SV.idsL ss)).app dst st)):Reg C ops draw Q acc (k::ks) st:=by
 simp only[be] at hT;exact reg_op hk hw hd (fun hd=>opE_callA hp rfl hc ha hco hT.1 hT.2.1 hT.2.2 hd) next
theorem ret_q {P:Program} {tab:Tab} {fn:Func} {p:PV} (h:retE tab st fn.results.toList=some p) (e:p=res):RetQ P tab fn res .ret st:=ret_ok h e
end
section
variable {T:List Nat} {D:Dom Tryz.prog T} {N:Nat} {st:St} {Q:Exit→St→Prop} {ops:List Oper} {draw:Bool} {acc:List Itm} {id:Nat} {y c x:Code} {L:List Itm} {ks ks':List Nat} {st1:St}
abbrev W (D:Dom Tryz.prog T) (N:Nat) (c:Code) (st:St) (Q:Exit→St→Prop):Prop:=PW (D.cx N) c st Q
theorem pa {st':St} (h:autoL tab N ops (List.range ops.length) st=some (L,[],st')) (hc:(!draw||(monoB ops.toArray (depsOf ops.toArray)&&freeB (depsOf ops.toArray) L))=true) (q:W D N y st' Q):W D N (.seq (.region id ops.toArray draw) y) st Q:=pw_seq (pw_auto (C:=D.cx N) tab_ok h hc q)
theorem pr (h:autoL tab N ops (List.range ops.length) st=some (L,ks,st1)) (next:Reg (D.cx N) ops draw (Then (fun st'=>W D N y st' Q) Q) L ks st1):W D N (.seq (.region id ops.toArray draw) y) st Q:=pw_seq (pw_reg (reg_auto (C:=D.cx N) tab_ok h next))
theorem rn (hc:(!draw||(monoB ops.toArray (depsOf ops.toArray)&&freeB (depsOf ops.toArray) acc))=true) (q:Q .normal st):Reg (D.cx N) ops draw Q acc [] st:=reg_nil hc q
theorem ro {k:Nat} {dst:Option Nat} {op:Op} {ty:TypeId} {ps:String} {af:Array Edge} {gd:Option (Nat×Bool)} {e:Eff} (ho:nthL ops k=some ⟨dst,op,ty,ps,af,gd⟩) (hw:wantS ops.toArray ⟨dst,op,ty,ps,af,gd⟩ st=some true) (hd:dstB ⟨dst,op,ty,ps,af,gd⟩ N=true) (h:(∀d,dst=some d→d < N)→OpE (D.cx N) st.tys ⟨dst,op,ty,ps,af,gd⟩ st e) (ha:autoL tab N ops ks (e.app dst st)=some (L,ks',st1)) (next:Reg (D.cx N) ops draw Q (acc++[⟨k,true,e,lkOf ops k st (e)⟩]++L) ks' st1):Reg (D.cx N) ops draw Q acc (k::ks) st:=reg_op ho hw hd h (reg_auto (C:=D.cx N) tab_ok ha next)
theorem rc {k:Nat} {c:Call} {f:FuncId} {ss:List SV} {ps:List PV} {res:PV} {Tg:List Nat} {dst:Option Nat} {ty:TypeId} {pos:String} {af:Array Edge} {gd:Option (Nat×Bool)} (hp:PCalls Tryz.prog Tg f ps res) (hk:nthL ops k=some ⟨dst,.call c,ty,pos,af,gd⟩) (hw:wantS ops.toArray ⟨dst,.call c,ty,pos,af,gd⟩ st=some true) (hd:dstB ⟨dst,.call c,ty,pos,af,gd⟩ N=true) (hc:c.callee=.value (.func f)) (ha:evL st c.args.toList=some ss) (hco:coSVL st ss=some ps) (hT:(Tg.all (fun t=>T.contains t)&&(Tg.all (fun t=>!st.tys.contains t)&&lentB st (SV.idsL ss) res.ty))=true) (hx:autoL tab N ops ks ((valE (.pv res) (SV.idsL ss)).app dst st)=some (L,ks',st1)) (next:Reg (D.cx N) ops draw Q (acc++[⟨k,true,valE (.pv res) (SV.idsL ss),lkOf ops k st (valE (.pv res) (SV.idsL ss))⟩]++L) ks' st1):Reg (D.cx N) ops draw Q acc (k::ks) st:=reg_call (C:=D.cx N) hp hk hw hd hc ha hco hT (reg_auto (C:=D.cx N) tab_ok hx next)
theorem rg (ha:autoL tab N ops ks st=some (L,ks',st1)) (next:Reg (D.cx N) ops draw Q (acc++L) ks' st1):Reg (D.cx N) ops draw Q acc ks st:=reg_auto (C:=D.cx N) tab_ok ha next
theorem pl {ι:Type} (sl:ι→List (Nat×SV)) (rs:ι→List (Nat×Res)) (tys:List Nat) (μ:ι→Nat) (i0:ι) (h1:AllL st.slot (sl i0)) (h2:AllL st.res (rs i0)) (h3:∀i,ofB (sl i) (rs i) tys=true) (round:∀i,W D N c (St.of (sl i) (rs i) tys) (Then (fun st'=>∃j,Sub (St.of (sl j) (rs j) tys) st'∧μ j < μ i) Q)):W D N (.loop c) st Q:=
 pw_loop (fun i=>St.of (sl i) (rs i) tys) μ i0 (Sub.of h1 h2 (h3 i0)) round
theorem pe {ι:Type} {sl:ι→List (Nat×SV)} {rs:ι→List (Nat×Res)} {tys:List Nat} {μ:ι→Nat} {i:ι} (j:ι) (h1:AllL st.slot (sl j)) (h2:AllL st.res (rs j)) (h3:ofB (sl j) (rs j) tys=true) (h4:μ j < μ i):∃j,Sub (St.of (sl j) (rs j) tys) st∧μ j < μ i:=⟨j,Sub.of h1 h2 h3,h4⟩
theorem ps (h:W D N x st (Then (fun st'=>W D N y st' Q) Q)):W D N (.seq x y) st Q:=pw_seq h
theorem pif {c:Operand} {b:Bool} (hc:ev st c=some (.pv (.raw (.bool b)))) (ht:b=true→W D N x st Q) (hf:b=false→W D N y st Q):W D N (.cond c x y) st Q:=pw_cond hc ht hf
theorem pj {c:Operand} (hc:ev st c=some (.pv (.raw (.bool false)))) (h:W D N y st Q):W D N (.cond c x y) st Q:=pif hc (fun e=>by cases e) (fun _=>h)
theorem pi {c:Operand} (hc:ev st c=some (.pv (.raw (.bool true)))) (h:W D N x st Q):W D N (.cond c x y) st Q:=pif hc (fun _=>h) (fun e=>by cases e)
theorem c2 {p0 p1 p2:Prop} (h0:p0) (h1:p1) (h2:p2):p0∧p1∧p2:=⟨h0,h1,h2⟩
theorem c3 {p0 p1 p2 p3:Prop} (h0:p0) (h1:p1) (h2:p2) (h3:p3):p0∧p1∧p2∧p3:=⟨h0,h1,h2,h3⟩
theorem c4 {p0 p1 p2 p3 p4:Prop} (h0:p0) (h1:p1) (h2:p2) (h3:p3) (h4:p4):p0∧p1∧p2∧p3∧p4:=⟨h0,h1,h2,h3,h4⟩
theorem c5 {p0 p1 p2 p3 p4 p5:Prop} (h0:p0) (h1:p1) (h2:p2) (h3:p3) (h4:p4) (h5:p5):p0∧p1∧p2∧p3∧p4∧p5:=⟨h0,h1,h2,h3,h4,h5⟩
theorem c6 {p0 p1 p2 p3 p4 p5 p6:Prop} (h0:p0) (h1:p1) (h2:p2) (h3:p3) (h4:p4) (h5:p5) (h6:p6):p0∧p1∧p2∧p3∧p4∧p5∧p6:=⟨h0,h1,h2,h3,h4,h5,h6⟩
theorem c7 {p0 p1 p2 p3 p4 p5 p6 p7:Prop} (h0:p0) (h1:p1) (h2:p2) (h3:p3) (h4:p4) (h5:p5) (h6:p6) (h7:p7):p0∧p1∧p2∧p3∧p4∧p5∧p6∧p7:=⟨h0,h1,h2,h3,h4,h5,h6,h7⟩
theorem c8 {p0 p1 p2 p3 p4 p5 p6 p7 p8:Prop} (h0:p0) (h1:p1) (h2:p2) (h3:p3) (h4:p4) (h5:p5) (h6:p6) (h7:p7) (h8:p8):p0∧p1∧p2∧p3∧p4∧p5∧p6∧p7∧p8:=⟨h0,h1,h2,h3,h4,h5,h6,h7,h8⟩
theorem c9 {p0 p1 p2 p3 p4 p5 p6 p7 p8 p9:Prop} (h0:p0) (h1:p1) (h2:p2) (h3:p3) (h4:p4) (h5:p5) (h6:p6) (h7:p7) (h8:p8) (h9:p9):p0∧p1∧p2∧p3∧p4∧p5∧p6∧p7∧p8∧p9:=⟨h0,h1,h2,h3,h4,h5,h6,h7,h8,h9⟩
theorem c10 {p0 p1 p2 p3 p4 p5 p6 p7 p8 p9 p10:Prop} (h0:p0) (h1:p1) (h2:p2) (h3:p3) (h4:p4) (h5:p5) (h6:p6) (h7:p7) (h8:p8) (h9:p9) (h10:p10):p0∧p1∧p2∧p3∧p4∧p5∧p6∧p7∧p8∧p9∧p10:=⟨h0,h1,h2,h3,h4,h5,h6,h7,h8,h9,h10⟩
theorem c11 {p0 p1 p2 p3 p4 p5 p6 p7 p8 p9 p10 p11:Prop} (h0:p0) (h1:p1) (h2:p2) (h3:p3) (h4:p4) (h5:p5) (h6:p6) (h7:p7) (h8:p8) (h9:p9) (h10:p10) (h11:p11):p0∧p1∧p2∧p3∧p4∧p5∧p6∧p7∧p8∧p9∧p10∧p11:=⟨h0,h1,h2,h3,h4,h5,h6,h7,h8,h9,h10,h11⟩
theorem c12 {p0 p1 p2 p3 p4 p5 p6 p7 p8 p9 p10 p11 p12:Prop} (h0:p0) (h1:p1) (h2:p2) (h3:p3) (h4:p4) (h5:p5) (h6:p6) (h7:p7) (h8:p8) (h9:p9) (h10:p10) (h11:p11) (h12:p12):p0∧p1∧p2∧p3∧p4∧p5∧p6∧p7∧p8∧p9∧p10∧p11∧p12:=⟨h0,h1,h2,h3,h4,h5,h6,h7,h8,h9,h10,h11,h12⟩
theorem pb (h:W D N c st (InBlk id Q)):W D N (.block id c) st Q:=pw_block h
theorem pk (h:Q .normal st):W D N .skip st Q:=pw_skip h
theorem px (h:Q (.exit id) st):W D N (.exit id) st Q:=pw_exit h
theorem pt (h:Q .ret st):W D N .ret st Q:=pw_ret h
theorem pc {f:FuncId} {args:List PV} {res:PV} {fn:Func} (tys:List Nat) (hcall:callB Tryz.prog f=true) (hf:(Tryz.prog).funcs[f]?=some fn) (hb:fn.body=some c) (hn:Nat.ble args.length fn.ntmps=true) (h:∀D:Dom Tryz.prog T,W D fn.ntmps c (St.init args tys) (RetQ Tryz.prog tab fn res)):PCalls Tryz.prog T f args res:=PCalls.of tys tab_ok mixed hcall hf hb hn h
end
theorem flip_sm {q:Q} (h:q.Sm):q.flip.Sm:=⟨h.num,h.den⟩
theorem r_neg {q:Q} (h:q.Sm):PCalls Tryz.prog TU 66 [ratP q] (ratP q.neg'):=by
 refine pc [35] (by kernel_rfl) Tryz.func66 Y Y (fun D=>?_);refine pa Y Y (pa Y Y (pr Y ?_));refine rc (r_canon (flip_sm h)) Y Y Y Y Y Y Y Y (rn Y ?_);exact pt (ret_q Y Y)
theorem neg_sm {q:Q} (h:q.Sm):q.neg'.Sm:=by
 have:=(show Q.Bd q.flip 10000 10000 from ⟨h.num,h.den⟩).canon;exact⟨this.num,this.den⟩
theorem r_sub {x y:Q} (h:x.Sm) (k:y.Sm) (hx:x.Ok) (hy:y.neg'.Ok):PCalls Tryz.prog TU 28 [ratP x,ratP y] (ratP (Q.add x y.neg')):=by
 refine pc [35] (by kernel_rfl) Tryz.func28 Y Y (fun D=>?_);refine pa Y Y (pr Y ?_);refine rc (r_neg k) Y Y Y Y Y Y Y Y ?_;refine rc (r_add h (neg_sm k) hx hy) Y Y Y Y Y Y Y Y (rn (by kernel_rfl) ?_);exact pt (ret_q Y Y)
theorem r_cmp {x y:Q} (h:x.Sm) (k:y.Sm) (hx:x.Ok) (hy:y.neg'.Ok) (hs:(Q.add x y.neg').Sm):PCalls Tryz.prog TU 123 [ratP x,ratP y] (iP (isg (Q.add x y.neg').neg (Q.add x y.neg').num)):=by
 refine pc [35] (by kernel_rfl) Tryz.func123 Y Y (fun D=>?_);refine pa Y Y (pr Y ?_);refine rc (r_sub h k hx hy) Y Y Y Y Y Y Y Y ?_;refine rc (r_sign hs) Y Y Y Y Y Y Y Y (rn Y ?_);exact pt (ret_q Y Y)
def minR (x y:Q):Q:=bif decide (isg (Q.add x y.neg').neg (Q.add x y.neg').num≤0) then canonQ x else canonQ y
theorem r_min {x y:Q} (h:x.Sm) (k:y.Sm) (hx:x.Ok) (hy:y.neg'.Ok) (hs:(Q.add x y.neg').Sm):PCalls Tryz.prog TU 65 [ratP x,ratP y] (ratP (minR x y)):=by
 refine pc [35] (by kernel_rfl) Tryz.func65 Y Y (fun D=>?_);refine pa Y Y (ps (pr Y ?_));refine rc (r_cmp h k hx hy hs) Y Y Y Y Y Y Y Y ?_;refine ro Y Y Y (fun hd=>opE_cmp Y Y Y Y hd) Y (rn Y ?_);refine pif Y (fun e=>?_) (fun e=>pk ?_)
 ·refine pr Y ?_;refine rc (r_canon h) Y Y Y Y Y Y Y Y (rn Y ?_);exact pt (ret_q Y (by unfold minR;rw[e];rfl))
 ·refine pr Y ?_;refine rc (r_canon k) Y Y Y Y Y Y Y Y (rn Y ?_);exact pt (ret_q Y (by unfold minR;rw[e];rfl))
def SV.nul:SV→Bool
 | .emp | .nil ..=>true
 | _=>false
theorem nul_rep {s:SV} {w:World} {X:Nat→Prop} {B:Nat→Nat} {T:Nat→Sv} {v:Value} (hn:s.nul=true) (h:s.Rep w X B T v):v=.slice none 0 0:=by
 cases s with
 | emp=>rw[SV.Rep] at h;exact h
 | nil e k ts=>rw[SV.Rep] at h;exact h
 | _=>cases hn
theorem List.set_getElem?_self' {α:Type}:∀{l:List α} {i:Nat} {u:α},l[i]?=some u→l.set i u=l
 | [],i,u,h=>by simp at h
 | x::l,0,u,h=>by simp at h;rw[h];rfl
 | x::l,i+1,u,h=>by simp at h;rw[List.set_cons_succ,List.set_getElem?_self' h]
theorem inv_nul {C:Cx} {st st':St} {a:Act} {w:World} {id e k:Nat} {ts:List Nat} (h:Inv C st a w) (hres:st.res id=none) (hk:0 < k)
  (hs:∀t s,st'.slot t=some s→st.slot t=some s∨(s=.tok id∧∃s0,st.slot t=some s0∧s0.nul=true))
  (hid:st'.res id=some (.tok e k ts []))
  (hr:∀j r,j≠id→st'.res j=some r→st.res j=some r∨∃ty cs off s0,st.res j=some (.box ty cs)∧cs[off]?=some s0∧s0.nul=true∧r=.box ty (cs.set off (.tok id)))
  (hdom:∀j,(st.res j).isSome=true→(st'.res j).isSome=true):Inv C st' a w:=by
 obtain⟨B,T,h⟩:=h
 let T':Nat→Sv:=fun i=>if i=id then Sv.none else T i
 have hT':∀i,i≠id→T' i=T i:=fun i hi=>if_neg hi
 have hTi:T' id=Sv.none:=if_pos rfl;have old:∀j r,st'.res j=some r→∀b,r.blk (B j) (T' j)=some b→j≠id∧∃r0,st.res j=some r0∧r0.blk (B j) (T j)=some b:=fun j r e b hb=>by
  by_cases hj:j=id
  ·subst hj;rw[hid] at e;injection e with e;subst e;simp only[Res.blk,hTi] at hb;cases hb
  ·rw[hT' j hj] at hb;refine⟨hj,?_⟩;rcases hr j r hj e with h1 | ⟨ty,cs,off,s0,h1,h2,h3,rfl⟩
   ·exact⟨r,h1,hb⟩
   ·exact⟨_,h1,hb⟩
 have X0:∀b,Own0 C st' B T' b→Own0 C st B T b:=fun b hb=>by
  rcases hb with hb | ⟨i,r,h1,h2⟩
  ·exact .inl hb
  ·obtain⟨_,r0,h3,h4⟩:=old i r h1 b h2;exact .inr ⟨i,r0,h3,h4⟩
 have S:∀ts,Still w w (Own0 C st B T) (Own0 C st' B T') ts:=fun ts=>⟨nr _,fun b cs t fr hx hh ht=>⟨rfl,fun hb=>hx (X0 b hb)⟩⟩
 have nid:∀i,(st.res i).isSome=true→i≠id:=fun i hi e=>by rw[e,hres] at hi;cases hi
 refine⟨B,T',h.size,h.dfr,h.gr,fun t s e=>?_,fun t s e i hi=>?_,fun i r e=>?_,fun i r e j hj=>?_,fun i r j q b e1 e2 h1 h2=>?_⟩
 ·rcases hs t s e with h1 | ⟨rfl,s0,h1,h2⟩
  ·exact (h.slot t s h1).still (S _) fun i hi=>⟨rfl,hT' i (nid i (h.live t s h1 i hi))⟩
  ·rw[SV.Rep,hTi];exact nul_rep h2 (h.slot t s0 h1)
 ·rcases hs t s e with h1 | ⟨rfl,s0,h1,h2⟩
  ·exact hdom i (h.live t s h1 i hi)
  ·rw[SV.ids,List.mem_singleton] at hi;rw[hi,hid];rfl
 ·by_cases hi:i=id
  ·subst hi;rw[hid] at e;injection e with e;subst e;refine⟨[],?_,PV.RepLL.nil,(fun r hr=>by cases hr),(by rw[hTi];rfl),hk,fun b hb=>by rw[hTi] at hb;cases hb⟩;rw[hTi];exact World.ownsRow_nil w _ _ _
  ·rcases hr i r hi e with h1 | ⟨ty,cs,off,s0,h1,h2,h3,rfl⟩
   ·have hin:=h.inn i r h1;cases r with
    | box ty cells=>
     obtain⟨g1,us,g2,g3⟩:=hin;exact⟨g1,us,g2,g3.still (S _) fun j hj=>⟨rfl,hT' j (nid j (h.alive i _ h1 j hj))⟩⟩
    | tok e k ts xs=>
     obtain⟨us,g1,g2,g3,g4⟩:=hin;refine⟨us,?_,PV.RepLL.still (ts:=ts) g2 (S _) fun r hr c hc=>((g3 r hr).2 c hc).2,g3,?_⟩
     ·rw[hT' i hi];exact g1
     ·rw[hT' i hi];exact g4
   ·obtain⟨g1,us,g2,g3⟩:=h.inn i _ h1;have g3':SV.RepL w (Own0 C st' B T') B T' cs us:=g3.still (S _) fun j hj=>⟨rfl,hT' j (nid j (h.alive i _ h1 j hj))⟩
    refine⟨g1,us,g2,?_⟩;obtain⟨u,hu,hrep⟩:=g3.at h2;have hu0:=nul_rep h3 hrep;have:=g3'.set (j:=off) (c:=.tok id) (u:=u) (by rw[SV.Rep,hTi];exact hu0);rw[List.set_getElem?_self' hu] at this;exact this
 ·by_cases hi:i=id
  ·subst hi;rw[hid] at e;injection e with e;subst e;cases hj
  ·rcases hr i r hi e with h1 | ⟨ty,cs,off,s0,h1,h2,h3,rfl⟩
   ·exact hdom j (h.alive i r h1 j hj)
   ·obtain⟨c,hc,hi'⟩:=idsL_of hj;rcases List.mem_or_eq_of_mem_set hc with h4 | h4
    ·exact hdom j (h.alive i _ h1 j (idsL_mem h4 hi'))
    ·subst h4;rw[SV.ids,List.mem_singleton] at hi';rw[hi',hid];rfl
 ·obtain⟨_,r0,h3,h4⟩:=old i r e1 b h1;obtain⟨_,q0,h5,h6⟩:=old j q e2 b h2;exact h.apart i r0 j q0 b h3 h5 h4 h6
def St.tokS (st:St) (t id e k:Nat) (ts:List Nat):St:=⟨fun u=>bif Nat.beq u t then some (.tok id) else st.slot u,fun j=>bif Nat.beq j id then some (.tok e k ts []) else st.res j,st.tys⟩
def tksB (st:St) (t id e k:Nat):Bool:=(match st.slot t with
 | some s=>s.nul
 | none=>false)&&(match st.res id with
 | none=>true
 | some _=>false)&&st.tys.contains e&&Nat.blt 0 k
def setB (st:St) (b off id:Nat):Option Res:=match st.res b with
 | some (.box ty cs)=>some (.box ty (cs.set off (.tok id)))
 | r=>r
def St.tokB (st:St) (b off id e k:Nat) (ts:List Nat):St:=⟨st.slot,fun j=>bif Nat.beq j id then some (.tok e k ts []) else bif Nat.beq j b then setB st b off id else st.res j,st.tys⟩
def tkbB (st:St) (b off id e k:Nat):Bool:=(match st.res b with
 | some (.box ty cs)=>(match cs[off]? with
  | some s=>s.nul
  | none=>false)
 | _=>false)&&(match st.res id with
 | none=>true
 | some _=>false)&&st.tys.contains e&&Nat.blt 0 k
theorem sb:(∀{α:Type} (a b:α),cond true a b=a)∧(∀{α:Type} (a b:α),cond false a b=b)∧(∀b:Bool,(b&&true)=b)∧(∀b:Bool,(true&&b)=b)∧(∀b:Bool,(false&&b)=false)∧(∀b:Bool,(b&&false)=false)∧(∀b:Bool,(b||true)=true)∧(∀b:Bool,(true||b)=true)∧(∀b:Bool,(b||false)=b)∧(∀b:Bool,(false||b)=b)∧(!true)=false∧(!false)=true∧(∀b:Bool,(b&&b)=b)∧(∀b:Bool,(b||b)=b)∧(∀a b c:Bool,(a&&b&&c)=(a&&(b&&c)))∧(∀a b c:Bool,(a||b||c)=(a||(b||c))):=
 ⟨fun _ _=>rfl,fun _ _=>rfl,Bool.and_true,Bool.true_and,Bool.false_and,Bool.and_false,Bool.or_true,Bool.true_or,Bool.or_false,Bool.false_or,rfl,rfl,Bool.and_self,Bool.or_self,Bool.and_assoc,Bool.or_assoc⟩
section
variable {C:Cx} {st:St} {Q:Exit→St→Prop} {c:Code} {id e k:Nat} {ts:List Nat}
theorem tysOk_tok {st st':St} (h:TysOk st st.tys) (he:st.tys.contains e=true) (ht:st'.tys=st.tys) (hid:st'.res id=some (.tok e k ts [])) (hr:∀j r,j≠id→st'.res j=some r→∃r0,st.res j=some r0∧r0.typ=r.typ):TysOk st' st'.tys:=fun i r e0=>by
 rw[ht];by_cases hi:i=id
 ·subst hi;rw[hid] at e0;injection e0 with e0;subst e0;exact List.contains_iff_mem.1 he
 ·obtain⟨r0,h1,h2⟩:=hr i r hi e0;rw[← h2];exact h i r0 h1
theorem tks {t:Nat} (hb:tksB st t id e k=true) (h:PW C c (st.tokS t id e k ts) Q):PW C c st Q:=fun a w ht hi=>by
 unfold tksB at hb;simp only[be] at hb;obtain⟨⟨⟨h1,h2⟩,h3⟩,h4⟩:=hb;have hres:st.res id=none:=by
  cases e:st.res id with
  | none=>rfl
  | some r=>rw[e] at h2;cases h2
 have ne:∀{j:Nat} {x y:Option Res},j≠id→(bif Nat.beq j id then x else y)=y:=fun hj=>by rw[nbeq_ne hj];rfl
 refine h a w (tysOk_tok ht h3 rfl (show (bif Nat.beq id id then _ else _)=_ from by rw[Nat.beq_refl];rfl) fun j r hj e=>⟨r,(ne hj).symm.trans e,rfl⟩) (inv_nul hi hres (Nat.le_of_ble_eq_true h4) (fun u s e=>?_) (show (bif Nat.beq id id then _ else _)=_ from by rw[Nat.beq_refl];rfl) (fun j r hj e=>.inl ((ne hj).symm.trans e)) fun j hj=>?_)
 ·simp only[St.tokS] at e;cases hu:Nat.beq u t with
  | true=>
   rw[hu] at e;injection e with e;obtain rfl:=Nat.eq_of_beq_eq_true hu;cases hs:st.slot u with
   | none=>rw[hs] at h1;cases h1
   | some s0=>rw[hs] at h1;exact .inr ⟨e.symm,s0,rfl,h1⟩
  | false=>rw[hu] at e;exact .inl e
 ·simp only[St.tokS];cases Nat.beq j id with
  | true=>rfl
  | false=>exact hj
theorem tkb {b off:Nat} (hb:tkbB st b off id e k=true) (h:PW C c (st.tokB b off id e k ts) Q):PW C c st Q:=fun a w ht hi=>by
 unfold tkbB at hb;simp only[be] at hb;obtain⟨⟨⟨h1,h2⟩,h3⟩,h4⟩:=hb;have hres:st.res id=none:=by
  cases e:st.res id with
  | none=>rfl
  | some r=>rw[e] at h2;cases h2
 obtain⟨ty,cs,s0,hbx,hcs,hnl⟩:∃ty cs s0,st.res b=some (.box ty cs)∧cs[off]?=some s0∧s0.nul=true:=by
  split at h1
  ·rename_i ty cs hbx
   split at h1
   ·rename_i s hs
    exact⟨ty,cs,s,hbx,hs,h1⟩
   ·cases h1
  ·cases h1
 have key:∀j r,j≠id→(st.tokB b off id e k ts).res j=some r→st.res j=some r∨∃ty cs off s0,st.res j=some (.box ty cs)∧cs[off]?=some s0∧s0.nul=true∧r=.box ty (cs.set off (.tok id)):=fun j r hj e=>by
  simp only[St.tokB] at e;rw[nbeq_ne hj] at e;cases hu:Nat.beq j b with
  | true=>
   obtain rfl:=Nat.eq_of_beq_eq_true hu;rw[hu] at e;simp only[cond_false,cond_true,setB,hbx] at e;injection e with e;exact .inr ⟨ty,cs,off,s0,hbx,hcs,hnl,e.symm⟩
  | false=>rw[hu] at e;exact .inl e
 have hid:(st.tokB b off id e k ts).res id=some (.tok e k ts []):=show (bif Nat.beq id id then _ else _)=_ from by rw[Nat.beq_refl];rfl
 refine h a w (tysOk_tok ht h3 rfl hid fun j r hj e=>?_) (inv_nul hi hres (Nat.le_of_ble_eq_true h4) (fun u s e=>.inl e) hid key fun j hj=>?_)
 ·rcases key j r hj e with h5 | ⟨ty,cs,off,s0,h5,h6,h7,rfl⟩
  ·exact⟨r,h5,rfl⟩
  ·exact⟨_,h5,rfl⟩
 ·simp only[St.tokB];cases Nat.beq j id with
  | true=>rfl
  | false=>
   cases hu:Nat.beq j b with
   | true=>
    simp only[cond_false,cond_true,setB,hbx];rfl
   | false=>exact hj
end
def coSVLL (st:St):List (List SV)→Option (List (List PV))
 | []=>some []
 | c::cs=>match coSVL st c,coSVLL st cs with
  | some p,some ps=>some (p::ps)
  | _,_=>none
theorem coSVLL_ok {st:St}:∀{cs:List (List SV)} {ps:List (List PV)},coSVLL st cs=some ps→CoLL st cs ps
 | [],_,h=>by rw[coSVLL] at h;injection h with h;subst h;trivial
 | c::cs,_,h=>by
  rw[coSVLL] at h;split at h
  ·rename_i p ps h1 h2
   injection h with h;subst h;exact⟨coSVL_ok h1,coSVLL_ok h2⟩
  ·cases h
def rowOkB (k:Nat) (ts:List Nat) (xs:List (List PV)):Bool:=xs.all fun r=>Nat.beq r.length k&&r.all fun c=>c.cell&&c.ty.all fun t=>ts.contains t
theorem rowOkB_ok {k:Nat} {ts:List Nat} {xs:List (List PV)} (h:rowOkB k ts xs=true):RowOk k ts xs:=fun r hr=>by
 have h1:=List.all_eq_true.1 h r hr;rw[be] at h1;refine⟨Nat.eq_of_beq_eq_true h1.1,fun c hc=>?_⟩;have h2:=List.all_eq_true.1 h1.2 c hc;rw[be] at h2;exact⟨h2.1,fun t ht=>List.contains_iff_mem.1 (List.all_eq_true.1 h2.2 t ht)⟩
def litB (tab:Tab) (st:St) (l:Lay) (n:Nat) (parts:Array (Nat×Operand)) (ss:List (List SV)) (xs:List (List PV)):Bool:=Nat.beq n parts.size&&Nat.blt 0 n&&Nat.blt 0 l.esz&&Nat.ble (n*l.esz) 16777216&&noTok st (idsLL ss)&&rowOkB l.esz l.ets xs&&(match tab.get l.elem with
 | some le=>Nat.beq le.zero.length l.esz
 | none=>false)
section
variable {T:List Nat} {D:Dom Tryz.prog T} {N:Nat} {st:St} {Q:Exit→St→Prop} {ops:List Oper} {draw:Bool} {acc:List Itm} {k t:Nat} {ks ks':List Nat} {dst:Option Nat} {ty:TypeId} {ps:String} {af:Array Edge} {gd:Option (Nat×Bool)} {st1:St} {L:List Itm}
theorem rl {ks ks':List Nat} {n:Nat} {parts:Array (Nat×Operand)} {l:Lay} {ss:List (List SV)} {xs:List (List PV)} {st1:St} {L:List Itm} (hk:nthL ops k=some ⟨dst,.buildSlice t n parts,ty,ps,af,gd⟩) (hw:wantS ops.toArray ⟨dst,.buildSlice t n parts,ty,ps,af,gd⟩ st=some true) (hd:dstB ⟨dst,.buildSlice t n parts,ty,ps,af,gd⟩ N=true) (hl:tab.get t=some l) (hs:litL st l.esz parts.toList 0=some ss) (hco:coSVLL st ss=some xs) (hc:litB tab st l n parts ss xs=true)
  (ha:autoL tab N ops ks ((valE (.pv (.rows l.elem l.esz l.ets xs)) (idsLL ss)).app dst st)=some (L,ks',st1)) (next:Reg (D.cx N) ops draw Q (acc++[⟨k,true,valE (.pv (.rows l.elem l.esz l.ets xs)) (idsLL ss),lkOf ops k st (valE (.pv (.rows l.elem l.esz l.ets xs)) (idsLL ss))⟩]++L) ks' st1):Reg (D.cx N) ops draw Q acc (k::ks) st:=by
 unfold litB at hc;simp only[be] at hc;obtain⟨⟨⟨⟨⟨⟨h1,h2⟩,h3⟩,h4⟩,h5⟩,h6⟩,h7⟩:=hc;refine reg_op hk hw hd (fun hd=>opE_lit (tab:=tab) tab_ok rfl hl ?_ hs (Nat.eq_of_beq_eq_true h1) (Nat.le_of_ble_eq_true h2) (coSVLL_ok hco) h5 (rowOkB_ok h6) (Nat.le_of_ble_eq_true h3) (Nat.le_of_ble_eq_true h4) hd) (reg_auto (C:=D.cx N) tab_ok ha next);split at h7
 ·rename_i le hle
  exact⟨le,hle,Nat.eq_of_beq_eq_true h7⟩
 ·cases h7
theorem rap {ks ks':List Nat} {e kk bytes id:Nat} {x y:Operand} {ts ts2:List Nat} {xs ys:List (List PV)} {s:SV} {st1:St} {L:List Itm} (hE:ElemS Tryz.prog t e kk bytes) (hlen:xs.length+ys.length≤100000000) (hk:nthL ops k=some ⟨dst,.call { callee:=.builtin .append,args:=#[x,y],argTypes:=#[t,t] },ty,ps,af,gd⟩) (hw:wantS ops.toArray ⟨dst,.call { callee:=.builtin .append,args:=#[x,y],argTypes:=#[t,t] },ty,ps,af,gd⟩ st=some true) (hd:dstB ⟨dst,.call { callee:=.builtin .append,args:=#[x,y],argTypes:=#[t,t] },ty,ps,af,gd⟩ N=true) (hx:ev st x=some (.tok id)) (hr:st.res id=some (.tok e kk ts xs)) (hy:ev st y=some s) (hco:coSV st s=some (.rows e kk ts2 ys)) (hc:(s.ids.isEmpty&&ts2.all (fun t=>ts.contains t)&&st.tys.contains e&&Nat.ble bytes 1000)=true)
  (ha:autoL tab N ops ks ((⟨.tok id,some (id,.tok e kk ts (xs++ys)),[id],true⟩:Eff).app dst st)=some (L,ks',st1)) (next:Reg (D.cx N) ops draw Q (acc++[⟨k,true,⟨.tok id,some (id,.tok e kk ts (xs++ys)),[id],true⟩,lkOf ops k st (⟨.tok id,some (id,.tok e kk ts (xs++ys)),[id],true⟩:Eff)⟩]++L) ks' st1):Reg (D.cx N) ops draw Q acc (k::ks) st:=by
 simp only[be] at hc;obtain⟨⟨⟨h1,h2⟩,h3⟩,h4⟩:=hc;have h4:=Nat.le_of_ble_eq_true h4;have h5:(xs.length+ys.length)*bytes≤100000000*1000:=Nat.mul_le_mul hlen h4;exact reg_op hk hw hd (fun hd=>opE_app hE rfl (.inl ⟨hx,hr⟩) hy (coSV_ok hco) (List.isEmpty_iff.1 h1) (fun t ht=>List.contains_iff_mem.1 (List.all_eq_true.1 h2 t ht)) (List.contains_iff_mem.1 h3) (by unfold maxLen;omega) om hd) (reg_auto (C:=D.cx N) tab_ok ha next)
theorem rbe {ks ks':List Nat} {op:BinOp} {t2:Nat} {x y:Operand} {b c:Bool} {st1:St} {L:List Itm} (r:Bool) (hk:nthL ops k=some ⟨dst,.binOp op t x y t2,ty,ps,af,gd⟩) (hw:wantS ops.toArray ⟨dst,.binOp op t x y t2,ty,ps,af,gd⟩ st=some true) (hd:dstB ⟨dst,.binOp op t x y t2,ty,ps,af,gd⟩ N=true) (hx:ev st x=some (.pv (.raw (.bool b)))) (hy:ev st y=some (.pv (.raw (.bool c)))) (hu:Tryz.prog.underlying t=some .bool) (hop:(op=.eql∧r=(b == c))∨(op=.neq∧r=(b != c)))
  (ha:autoL tab N ops ks ((valE (.pv (.raw (.bool r))) []).app dst st)=some (L,ks',st1)) (next:Reg (D.cx N) ops draw Q (acc++[⟨k,true,valE (.pv (.raw (.bool r))) [],lkOf ops k st (valE (.pv (.raw (.bool r))) [])⟩]++L) ks' st1):Reg (D.cx N) ops draw Q acc (k::ks) st:=
 reg_op hk hw hd (fun hd=>opE_beq (C:=D.cx N) op r rfl hx hy hu hop hd) (reg_auto (C:=D.cx N) tab_ok ha next)
end
def elChk (P:Program) (t e size bytes:Nat):Bool:=(match P.underlying t with
 | some (.slice e')=>Nat.beq e' e
 | _=>false)&&(match P.info? e with
 | some i=>Nat.beq i.size size&&Nat.beq i.bytes bytes&&(match i.zero with
  | some z=>Nat.beq z.cells.size size
  | none=>false)
 | none=>false)&&Nat.blt 0 size
theorem elChk_ok {P:Program} {t e size bytes:Nat} (h:elChk P t e size bytes=true):ElemS P t e size bytes:=by
 unfold elChk at h;simp only[be] at h;obtain⟨⟨h1,h2⟩,h3⟩:=h;refine⟨?_,?_,Nat.le_of_ble_eq_true h3⟩
 ·split at h1
  ·rename_i e' hu;rw[hu,Nat.eq_of_beq_eq_true h1]
  ·cases h1
 ·split at h2
  ·rename_i i hi
   simp only[be] at h2;obtain⟨⟨h4,h5⟩,h6⟩:=h2;split at h6
   ·rename_i z hz
    exact⟨i,z,hi,hz,Nat.eq_of_beq_eq_true h4,Nat.eq_of_beq_eq_true h5,Nat.eq_of_beq_eq_true h6⟩
   ·cases h6
  ·cases h2
theorem el_Mult:ElemS Tryz.prog 44 98 7 88:=elChk_ok (by kernel_rfl)
theorem el_Lemma:ElemS Tryz.prog 40 100 6 96:=elChk_ok (by kernel_rfl)
theorem el_Decision:ElemS Tryz.prog 75 42 5 72:=elChk_ok (by kernel_rfl)
theorem el_Node:ElemS Tryz.prog 43 46 9 152:=elChk_ok (by kernel_rfl)
theorem el_Entry:ElemS Tryz.prog 51 77 10 176:=elChk_ok (by kernel_rfl)
def St.putB (st:St) (t:Nat) (b:Bool):St:=⟨fun u=>bif Nat.beq u t then some (.pv (.raw (.bool b))) else st.slot u,st.res,st.tys⟩
theorem putB_self {st:St} {t:Nat} {b:Bool} (h:st.slot t=some (.pv (.raw (.bool b)))):st.putB t b=st:=by
 obtain⟨sl,rs,ts⟩:=st;unfold St.putB
 congr 1
 funext u
 cases hu:Nat.beq u t with
 | true=>obtain rfl:=Nat.eq_of_beq_eq_true hu;exact h.symm
 | false=>rfl
section
variable {T:List Nat} {D:Dom Tryz.prog T} {N:Nat} {st:St} {Q:Exit→St→Prop} {ops:List Oper} {draw:Bool} {acc:List Itm} {ks:List Nat} {b:Bool} {y x:Operand} {id k t t2:Nat} {dst:Option Nat} {ty:TypeId} {ps:String} {af:Array Edge} {gd:Option (Nat×Bool)} {op:BinOp} {kd:IntKind} {m n:Int}
theorem rsp (t:Nat) (hs:st.slot t=some (.pv (.raw (.bool b)))) (ht:b=true→Reg (D.cx N) ops draw Q acc ks (st.putB t true)) (hf:b=false→Reg (D.cx N) ops draw Q acc ks (st.putB t false)):Reg (D.cx N) ops draw Q acc ks st:=by
 cases b with
 | true=>have:=ht rfl;rwa [putB_self hs] at this
 | false=>have:=hf rfl;rwa [putB_self hs] at this
theorem pcut {x y:Code} {sl:List (Nat×SV)} {rs:List (Nat×Res)} (h1:W D N x st (Then (fun st'=>Sub (St.of sl rs st.tys) st') Q)) (h2:W D N y (St.of sl rs st.tys) Q):W D N (.seq x y) st Q:=
 ps (fun a w ht hi=>Code.wp_mono (fun e a w hq=>by
  obtain⟨st',g1,g2,g3⟩:=hq;cases e with
  | normal=>exact⟨st',pw_weak g1 h2,g2,g3⟩
  | _=>exact⟨st',g1,g2,g3⟩) (h1 a w ht hi))
theorem pr0 {y:Code} (next:Reg (D.cx N) ops draw (Then (fun st'=>W D N y st' Q) Q) [] (List.range ops.length) st):W D N (.seq (.region id ops.toArray draw) y) st Q:=pw_seq (pw_reg next)
theorem pr0' (next:Reg (D.cx N) ops draw Q [] (List.range ops.length) st):W D N (.region id ops.toArray draw) st Q:=pw_reg next
theorem rgn (m:Nat) {ks':List Nat} {st1:St} {L:List Itm} (hk:ks.drop m=ks') (ha:autoL tab N ops (ks.take m) st=some (L,[],st1)) (next:Reg (D.cx N) ops draw Q (acc++L) ks' st1):Reg (D.cx N) ops draw Q acc ks st:=by
 obtain⟨L',st',h1,h3,h4⟩:=next;rw[autoL_tys (C:=D.cx N) ha] at h1;obtain⟨g1,g2⟩:=autoL_run (C:=D.cx N) tab_ok ha rfl h1;rw[List.append_nil] at g2;refine⟨L++L',st',g1,?_,h4.imp (fun h=>⟨h.1,?_⟩) fun ⟨z,h5,h6,h7⟩=>⟨z,h5,?_,?_⟩⟩
 ·rw[← List.append_assoc];exact h3
 ·rw[List.map_append,h.2,← hk,g2,List.take_append_drop]
 ·rw[List.map_append,List.append_assoc,h6,← hk,g2,List.take_append_drop]
 ·rw[← List.append_assoc];exact h7
theorem ro0 {op:Op} {e:Eff} (ho:nthL ops k=some ⟨dst,op,ty,ps,af,gd⟩) (hw:wantS ops.toArray ⟨dst,op,ty,ps,af,gd⟩ st=some true) (hd:dstB ⟨dst,op,ty,ps,af,gd⟩ N=true) (h:(∀d,dst=some d→d < N)→OpE (D.cx N) st.tys ⟨dst,op,ty,ps,af,gd⟩ st e) (next:Reg (D.cx N) ops draw Q (acc++[⟨k,true,e,lkOf ops k st (e)⟩]) ks (e.app dst st)):Reg (D.cx N) ops draw Q acc (k::ks) st:=reg_op ho hw hd h next
theorem rc0 {c:Call} {f:FuncId} {ss:List SV} {ps:List PV} {res:PV} {Tg:List Nat} {pos:String} (hp:PCalls Tryz.prog Tg f ps res) (hk:nthL ops k=some ⟨dst,.call c,ty,pos,af,gd⟩) (hw:wantS ops.toArray ⟨dst,.call c,ty,pos,af,gd⟩ st=some true) (hd:dstB ⟨dst,.call c,ty,pos,af,gd⟩ N=true) (hc:c.callee=.value (.func f)) (ha:evL st c.args.toList=some ss) (hco:coSVL st ss=some ps) (hT:(Tg.all (fun t=>T.contains t)&&(Tg.all (fun t=>!st.tys.contains t)&&lentB st (SV.idsL ss) res.ty))=true) (next:Reg (D.cx N) ops draw Q (acc++[⟨k,true,valE (.pv res) (SV.idsL ss),lkOf ops k st (valE (.pv res) (SV.idsL ss))⟩]) ks ((valE (.pv res) (SV.idsL ss)).app dst st)):Reg (D.cx N) ops draw Q acc (k::ks) st:=reg_call (C:=D.cx N) hp hk hw hd hc ha hco hT next
theorem qd {c:Call} {f:FuncId} {ss:List SV} {ps:List PV} {res:PV} {Tg:List Nat} {pos:String} (hp:PCalls Tryz.prog Tg f ps res) (next:Reg (D.cx N) ops draw Q (acc++[⟨k,true,valE (.pv res) (SV.idsL ss),lkOf ops k st (valE (.pv res) (SV.idsL ss))⟩]) ks ((valE (.pv res) (SV.idsL ss)).app dst st)) (hk:nthL ops k=some ⟨dst,.call c,ty,pos,af,gd⟩:=by exact rfl) (hw:wantS ops.toArray ⟨dst,.call c,ty,pos,af,gd⟩ st=some true:=by exact rfl) (hd:dstB ⟨dst,.call c,ty,pos,af,gd⟩ N=true:=by exact rfl) (hc:c.callee=.value (.func f):=by exact rfl) (ha:evL st c.args.toList=some ss:=by exact rfl) (hco:coSVL st ss=some ps:=by exact rfl) (hT:(Tg.all (fun t=>T.contains t)&&(Tg.all (fun t=>!st.tys.contains t)&&lentB st (SV.idsL ss) res.ty))=true:=by exact rfl):Reg (D.cx N) ops draw Q acc (k::ks) st:=rc0 hp hk hw hd hc ha hco hT next
theorem qg (m:Nat) {ks':List Nat} {st1:St} {L:List Itm} (next:Reg (D.cx N) ops draw Q (acc++L) ks' st1) (hk:ks.drop m=ks':=by exact rfl) (ha:autoL tab N ops (ks.take m) st=some (L,[],st1):=by exact rfl):Reg (D.cx N) ops draw Q acc ks st:=rgn m hk ha next
theorem qc (next:Reg (D.cx N) ops draw Q (acc++[⟨k,true,valE (.pv (.raw (.bool b))) [],lkOf ops k st (valE (.pv (.raw (.bool b))) [])⟩]) ks ((valE (.pv (.raw (.bool b))) []).app dst st)) (hk:nthL ops k=some ⟨dst,.binOp op t x y t2,ty,ps,af,gd⟩:=by exact rfl) (hw:wantS ops.toArray ⟨dst,.binOp op t x y t2,ty,ps,af,gd⟩ st=some true:=by exact rfl) (hd:dstB ⟨dst,.binOp op t x y t2,ty,ps,af,gd⟩ N=true:=by exact rfl) (hx:ev st x=some (.pv (.raw (.int kd m))):=by exact rfl) (hy:ev st y=some (.pv (.raw (.int kd n))):=by exact rfl) (hb:cmpO op m n=some b:=by exact rfl):Reg (D.cx N) ops draw Q acc (k::ks) st:=ro0 hk hw hd (fun h=>opE_cmp rfl hx hy hb h) next
theorem qk (hk:nthL ops k=some ⟨dst,.binOp op t x y t2,ty,ps,af,gd⟩) (hw:wantS ops.toArray ⟨dst,.binOp op t x y t2,ty,ps,af,gd⟩ st=some true) (hd:dstB ⟨dst,.binOp op t x y t2,ty,ps,af,gd⟩ N=true) (hx:ev st x=some (.pv (.raw (.int kd m)))) (hy:ev st y=some (.pv (.raw (.int kd n)))) (hb:cmpO op m n=some b) (next:Reg (D.cx N) ops draw Q (acc++[⟨k,true,valE (.pv (.raw (.bool b))) [],lkOf ops k st (valE (.pv (.raw (.bool b))) [])⟩]) ks ((valE (.pv (.raw (.bool b))) []).app dst st)):Reg (D.cx N) ops draw Q acc (k::ks) st:=ro0 hk hw hd (fun h=>opE_cmp rfl hx hy hb h) next
theorem qa {z:Int} (hk:nthL ops k=some ⟨dst,.binOp op t x y t2,ty,ps,af,gd⟩) (hw:wantS ops.toArray ⟨dst,.binOp op t x y t2,ty,ps,af,gd⟩ st=some true) (hd:dstB ⟨dst,.binOp op t x y t2,ty,ps,af,gd⟩ N=true) (hx:ev st x=some (.pv (.raw (.int kd m)))) (hy:ev st y=some (.pv (.raw (.int kd n)))) (hb:ariO op kd m n=some z) (next:Reg (D.cx N) ops draw Q (acc++[⟨k,true,valE (.pv (.raw (.int kd z))) [],lkOf ops k st (valE (.pv (.raw (.int kd z))) [])⟩]) ks ((valE (.pv (.raw (.int kd z))) []).app dst st)):Reg (D.cx N) ops draw Q acc (k::ks) st:=ro0 hk hw hd (fun h=>opE_ari rfl hx hy hb h) next
theorem rl0 {ks:List Nat} {n:Nat} {parts:Array (Nat×Operand)} {l:Lay} {ss:List (List SV)} {xs:List (List PV)} (hk:nthL ops k=some ⟨dst,.buildSlice t n parts,ty,ps,af,gd⟩) (hw:wantS ops.toArray ⟨dst,.buildSlice t n parts,ty,ps,af,gd⟩ st=some true) (hd:dstB ⟨dst,.buildSlice t n parts,ty,ps,af,gd⟩ N=true) (hl:tab.get t=some l) (hs:litL st l.esz parts.toList 0=some ss) (hco:coSVLL st ss=some xs) (hc:litB tab st l n parts ss xs=true)
  (next:Reg (D.cx N) ops draw Q (acc++[⟨k,true,valE (.pv (.rows l.elem l.esz l.ets xs)) (idsLL ss),lkOf ops k st (valE (.pv (.rows l.elem l.esz l.ets xs)) (idsLL ss))⟩]) ks ((valE (.pv (.rows l.elem l.esz l.ets xs)) (idsLL ss)).app dst st)):Reg (D.cx N) ops draw Q acc (k::ks) st:=by
 unfold litB at hc;simp only[be] at hc;obtain⟨⟨⟨⟨⟨⟨h1,h2⟩,h3⟩,h4⟩,h5⟩,h6⟩,h7⟩:=hc;refine reg_op hk hw hd (fun hd=>opE_lit (tab:=tab) tab_ok rfl hl ?_ hs (Nat.eq_of_beq_eq_true h1) (Nat.le_of_ble_eq_true h2) (coSVLL_ok hco) h5 (rowOkB_ok h6) (Nat.le_of_ble_eq_true h3) (Nat.le_of_ble_eq_true h4) hd) next;split at h7
 ·rename_i le hle
  exact⟨le,hle,Nat.eq_of_beq_eq_true h7⟩
 ·cases h7
theorem rp0 {ks:List Nat} {e kk bytes:Nat} {ts ts2:List Nat} {xs ys:List (List PV)} {s:SV} (hE:ElemS Tryz.prog t e kk bytes) (hlen:xs.length+ys.length≤100000000) (hk:nthL ops k=some ⟨dst,.call { callee:=.builtin .append,args:=#[x,y],argTypes:=#[t,t] },ty,ps,af,gd⟩) (hw:wantS ops.toArray ⟨dst,.call { callee:=.builtin .append,args:=#[x,y],argTypes:=#[t,t] },ty,ps,af,gd⟩ st=some true) (hd:dstB ⟨dst,.call { callee:=.builtin .append,args:=#[x,y],argTypes:=#[t,t] },ty,ps,af,gd⟩ N=true) (hx:ev st x=some (.tok id)) (hr:st.res id=some (.tok e kk ts xs)) (hy:ev st y=some s) (hco:coSV st s=some (.rows e kk ts2 ys)) (hc:(s.ids.isEmpty&&ts2.all (fun t=>ts.contains t)&&st.tys.contains e&&Nat.ble bytes 1000)=true)
  (next:Reg (D.cx N) ops draw Q (acc++[⟨k,true,⟨.tok id,some (id,.tok e kk ts (xs++ys)),[id],true⟩,lkOf ops k st (⟨.tok id,some (id,.tok e kk ts (xs++ys)),[id],true⟩:Eff)⟩]) ks ((⟨.tok id,some (id,.tok e kk ts (xs++ys)),[id],true⟩:Eff).app dst st)):Reg (D.cx N) ops draw Q acc (k::ks) st:=by
 simp only[be] at hc;obtain⟨⟨⟨h1,h2⟩,h3⟩,h4⟩:=hc;have h4:=Nat.le_of_ble_eq_true h4;have h5:(xs.length+ys.length)*bytes≤100000000*1000:=Nat.mul_le_mul hlen h4;exact reg_op hk hw hd (fun hd=>opE_app hE rfl (.inl ⟨hx,hr⟩) hy (coSV_ok hco) (List.isEmpty_iff.1 h1) (fun t ht=>List.contains_iff_mem.1 (List.all_eq_true.1 h2 t ht)) (List.contains_iff_mem.1 h3) (by unfold maxLen;omega) om hd) next
theorem re0 {ks:List Nat} {c:Bool} (r:Bool) (hk:nthL ops k=some ⟨dst,.binOp op t x y t2,ty,ps,af,gd⟩) (hw:wantS ops.toArray ⟨dst,.binOp op t x y t2,ty,ps,af,gd⟩ st=some true) (hd:dstB ⟨dst,.binOp op t x y t2,ty,ps,af,gd⟩ N=true) (hx:ev st x=some (.pv (.raw (.bool b)))) (hy:ev st y=some (.pv (.raw (.bool c)))) (hu:Tryz.prog.underlying t=some .bool) (hop:(op=.eql∧r=(b == c))∨(op=.neq∧r=(b != c)))
  (next:Reg (D.cx N) ops draw Q (acc++[⟨k,true,valE (.pv (.raw (.bool r))) [],lkOf ops k st (valE (.pv (.raw (.bool r))) [])⟩]) ks ((valE (.pv (.raw (.bool r))) []).app dst st)):Reg (D.cx N) ops draw Q acc (k::ks) st:=
 reg_op hk hw hd (fun hd=>opE_beq (C:=D.cx N) op r rfl hx hy hu hop hd) next
theorem pif2 {x y:Code} (hs:st.slot t=some (.pv (.raw (.bool b)))) (ht:b=true→W D N x (st.putB t true) Q) (hf:b=false→W D N y (st.putB t false) Q):W D N (.cond (.tmp t) x y) st Q:=pif (b:=b) (show ev st (.tmp t)=_ by simp only[ev,hs]) (fun e=>by have:=ht e;subst e;rwa [putB_self hs] at this) (fun e=>by have:=hf e;subst e;rwa [putB_self hs] at this)
end
def Aut (g g':Prop):Prop:=g→g'
def Aut2 (g h g':Prop):Prop:=g→h→g'
section
variable {T:List Nat} {D:Dom Tryz.prog T} {N:Nat} {st:St} {Q:Exit→St→Prop} {ops:List Oper} {draw:Bool} {acc:List Itm} {k t:Nat} {ks:List Nat} {x y:Code} {b:Bool}
theorem aqe {st1:St} {L:List Itm} (next:Reg (D.cx N) ops draw Q (acc++L) ks st1) (ha:autoL tab N ops [k] st=some (L,[],st1):=by exact rfl):Reg (D.cx N) ops draw Q acc (k::ks) st:=rgn 1 rfl ha next
theorem rnF (q:Q .normal st):Reg (D.cx N) ops false Q acc [] st:=rn rfl q
theorem rnT (q:Q .normal st) (hc:(monoB ops.toArray (depsOf ops.toArray)&&freeB (depsOf ops.toArray) acc)=true:=by kernel_rfl):Reg (D.cx N) ops true Q acc [] st:=rn hc q
theorem aI {c:Operand} (h:W D N x st Q) (hc:ev st c=some (.pv (.raw (.bool true))):=by exact rfl):W D N (.cond c x y) st Q:=pif hc (fun _=>h) (fun e=>by cases e)
theorem aJ {c:Operand} (h:W D N y st Q) (hc:ev st c=some (.pv (.raw (.bool false))):=by exact rfl):W D N (.cond c x y) st Q:=pif hc (fun e=>by cases e) (fun _=>h)
theorem rsg {dst:Option Nat} {op:Op} {ty:TypeId} {ps:String} {af:Array Edge} {g:Nat} {wn:Bool} (ht:b=true→Reg (D.cx N) ops draw Q acc (k::ks) (st.putB t true)) (hf:b=false→Reg (D.cx N) ops draw Q acc (k::ks) (st.putB t false)) (hk:nthL ops k=some ⟨dst,op,ty,ps,af,some (g,wn)⟩:=by exact rfl) (hg:(ops.toArray[g]?).bind (·.dst)=some t:=by exact rfl) (hs:st.slot t=some (.pv (.raw (.bool b))):=by exact rfl):Reg (D.cx N) ops draw Q acc (k::ks) st:=rsp t hs ht hf
theorem rsq {dst:Option Nat} {x y:Operand} {ty:TypeId} {ps:String} {af:Array Edge} {gd:Option (Nat×Bool)} (ht:b=true→Reg (D.cx N) ops draw Q acc (k::ks) (st.putB t true)) (hf:b=false→Reg (D.cx N) ops draw Q acc (k::ks) (st.putB t false)) (hk:nthL ops k=some ⟨dst,.pick (.tmp t) x y,ty,ps,af,gd⟩:=by exact rfl) (hs:st.slot t=some (.pv (.raw (.bool b))):=by exact rfl):Reg (D.cx N) ops draw Q acc (k::ks) st:=rsp t hs ht hf
theorem pig (ht:b=true→W D N x (st.putB t true) Q) (hf:b=false→W D N y (st.putB t false) Q) (hs:st.slot t=some (.pv (.raw (.bool b))):=by exact rfl):W D N (.cond (.tmp t) x y) st Q:=pif2 hs ht hf
end
theorem rlA {k:Nat} {ks:List Nat} {dst:Option Nat} {t n:Nat} {parts:Array (Nat×Operand)} {ty:TypeId} {ps:String} {af:Array Edge} {gd:Option (Nat×Bool)} {l:Lay} {ss:List (List SV)} {xs:List (List PV)} {T:List Nat} {D:Dom Tryz.prog T} {N:Nat} {st:St} {Q:Exit→St→Prop} {ops:List Oper} {draw:Bool} {acc:List Itm} (next:Reg (D.cx N) ops draw Q (acc++[⟨k,true,valE (.pv (.rows l.elem l.esz l.ets xs)) (idsLL ss),lkOf ops k st (valE (.pv (.rows l.elem l.esz l.ets xs)) (idsLL ss))⟩]) ks ((valE (.pv (.rows l.elem l.esz l.ets xs)) (idsLL ss)).app dst st)) (hk:nthL ops k=some ⟨dst,.buildSlice t n parts,ty,ps,af,gd⟩:=by exact rfl) (hw:wantS ops.toArray ⟨dst,.buildSlice t n parts,ty,ps,af,gd⟩ st=some true:=by exact rfl) (hd:dstB ⟨dst,.buildSlice t n parts,ty,ps,af,gd⟩ N=true:=by exact rfl) (hl:tab.get t=some l:=by exact rfl) (hs:litL st l.esz parts.toList 0=some ss:=by exact rfl) (hco:coSVLL st ss=some xs:=by exact rfl) (hc:litB tab st l n parts ss xs=true:=by exact rfl):Reg (D.cx N) ops draw Q acc (k::ks) st:=rl0 hk hw hd hl hs hco hc next
theorem au {g g':Prop} (k:g) (h:Aut g g':=by intro h;(repeat (first | refine aqe ?_ | refine qc ?_ | refine rlA ?_ | refine rnF ?_ | refine rnT ?_ | refine pr0 ?_ | refine pr0' ?_ | refine ps ?_ | refine pk ?_ | refine pb ?_ | refine px ?_ | refine pt ?_ | refine aI ?_ | refine aJ ?_));exact h):g':=h k
theorem ao {g g':Prop} (k:g) (h:Aut g g':=by intro h;(repeat (first | refine aqe ?_ | refine rlA ?_ | refine rnF ?_ | refine rnT ?_ | refine pr0 ?_ | refine pr0' ?_ | refine ps ?_ | refine pk ?_ | refine pb ?_ | refine px ?_ | refine pt ?_ | refine aI ?_ | refine aJ ?_));exact h):g':=h k
theorem a2 {g h g':Prop} (k:g) (l:h) (hh:Aut2 g h g':=by intro h l;(refine au ?_);first | exact rsg h l | exact rsq h l | exact pig h l):g':=hh k l
theorem qkl {T:List Nat} {D:Dom Tryz.prog T} {N:Nat} {st:St} {Q:Exit→St→Prop} {ops:List Oper} {draw:Bool} {acc:List Itm} {k:Nat} {ks:List Nat} {dst:Option Nat} {op:BinOp} {t t2:Nat} {x y:Operand} {ty:TypeId} {ps:String} {af:Array Edge} {gd:Option (Nat×Bool)} {kd:IntKind} {m n:Int} {b0 b:Bool} (hk:nthL ops k=some ⟨dst,.binOp op t x y t2,ty,ps,af,gd⟩) (hw:wantS ops.toArray ⟨dst,.binOp op t x y t2,ty,ps,af,gd⟩ st=some true) (hd:dstB ⟨dst,.binOp op t x y t2,ty,ps,af,gd⟩ N=true) (hx:ev st x=some (.pv (.raw (.int kd m)))) (hy:ev st y=some (.pv (.raw (.int kd n)))) (h0:cmpO op m n=some b0) (hb:b0=b) (next:Reg (D.cx N) ops draw Q (acc++[⟨k,true,valE (.pv (.raw (.bool b))) [],lkOf ops k st (valE (.pv (.raw (.bool b))) [])⟩]) ks ((valE (.pv (.raw (.bool b))) []).app dst st)):Reg (D.cx N) ops draw Q acc (k::ks) st:=qk hk hw hd hx hy (h0.trans (congrArg some hb)) next
theorem akT {C g g':Prop} (k:g) (h:Aut2 C g g':=by intro c h;(refine ao ?_);exact qkl (b:=true) rfl rfl rfl rfl rfl rfl c h) (c:C):g':=h c k
theorem akF {C g g':Prop} (k:g) (h:Aut2 C g g':=by intro c h;(refine ao ?_);exact qkl (b:=false) rfl rfl rfl rfl rfl rfl c h) (c:C):g':=h c k
theorem ac {C g g':Prop} (k:g) (h:Aut2 C g g':=by intro c h;(refine au ?_);exact qd c h) (c:C):g':=h c k
theorem aa {C g g':Prop} (k:g) (h:Aut2 C g g':=by intro c h;(refine au ?_);exact qa rfl rfl rfl rfl rfl c h) (c:C):g':=h c k
theorem ax {C g g':Prop} (k:g) (h:Aut2 C g g':=by intro c h;(refine au ?_);exact ro0 rfl rfl rfl (fun hd=>opE_idx tab_ok rfl rfl rfl rfl rfl dx rfl c hd) h) (c:C):g':=h c k
theorem ay {Z C g g':Prop} (k:g) (h:Z→Aut2 C g g':=by intro z c h;(refine au ?_);exact ro0 rfl rfl rfl (fun hd=>opE_idx tab_ok rfl rfl rfl rfl rfl dx z c hd) h) (z:Z) (c:C):g':=h z c k
theorem ar {C g':Prop} (h:Aut C g':=by intro c;(refine au ?_);exact ret_q rfl c) (c:C):g':=h c
theorem pcA {T:List Nat} {f:FuncId} {args:List PV} {res:PV} {fn:Func} {c:Code} (tys:List Nat) (hf:(Tryz.prog).funcs[f]?=some fn) (h:∀D:Dom Tryz.prog T,W D fn.ntmps c (St.init args tys) (RetQ Tryz.prog tab fn res)) (hcall:callB Tryz.prog f=true:=by kernel_rfl) (hb:fn.body=some c:=by exact rfl) (hn:Nat.ble args.length fn.ntmps=true:=by exact rfl):PCalls Tryz.prog T f args res:=pc tys hcall hf hb hn h
structure Dc where
 kind:Int
 index:Int
 at_:Q
 deriving DecidableEq,Inhabited
structure Lm where
 unit:Int
 upper:Bool
 value:Q
 proof:List Mm
 deriving Inhabited
structure Sc where
 q:Qr
 path:List Dc
 lems:List Lm
def qyC (q:Qr):List PV:=[iP q.g.inputs,formsP q.g.units,formsP q.g.outputs,ratsP q.rg.lo,ratsP q.rg.hi,formsP q.rg.rows,termsP q.goal.terms,bP q.goal.const.neg,.nat q.goal.const.num,.nat q.goal.const.den]
abbrev qyP (q:Qr):PV:=.agg (qyC q)
def dcC (d:Dc):List PV:=[iP d.kind,iP d.index,bP d.at_.neg,.nat d.at_.num,.nat d.at_.den]
abbrev dcP (d:Dc):PV:=.agg (dcC d)
abbrev dcsP (l:List Dc):PV:=.rows 42 5 [200] (l.map dcC)
def lmC (m:Lm):List PV:=[iP m.unit,bP m.upper,bP m.value.neg,.nat m.value.num,.nat m.value.den,mmsP m.proof]
abbrev lmP (m:Lm):PV:=.agg (lmC m)
abbrev lmsP (l:List Lm):PV:=.rows 100 6 [200,98] (l.map lmC)
def scC (s:Sc):List PV:=[iP s.q.g.inputs,formsP s.q.g.units,formsP s.q.g.outputs,ratsP s.q.rg.lo,ratsP s.q.rg.hi,formsP s.q.rg.rows,termsP s.q.goal.terms,bP s.q.goal.const.neg,.nat s.q.goal.const.num,.nat s.q.goal.const.den,dcsP s.path,lmsP s.lems]
abbrev scP (s:Sc):PV:=.agg (scC s)
section
variable {P:Program} {f:FuncId}
theorem pc_n1 {x z:Nat} (hc:callB P f=true) (h:∀(w:World) (a:Sv),a.Num w (limbs x)→Calls P f #[a.v] w fun e w'=>∃r:Sv,e=.returned r.v∧r.Num w' (limbs z)∧Gr w w'):PCalls P TU f [.nat x] (.nat z):=⟨hc,fun w X us h1 h2 h3=>by
 obtain⟨u,rfl,g⟩:=args1 h3;obtain⟨a,rfl,ha⟩:=nat_of g;exact (h w a ha).mono fun e w' ⟨r,he,hr,G⟩=>⟨_,he,nat_to hr (XOk.gr ⟨h1,h2⟩ G) (List.mem_singleton.2 rfl),G⟩⟩
theorem pc_n2 {x y z:Nat} (hc:callB P f=true) (h:∀(w:World) (a b:Sv),a.Num w (limbs x)→b.Num w (limbs y)→Calls P f #[a.v,b.v] w fun e w'=>∃r:Sv,e=.returned r.v∧r.Num w' (limbs z)∧Gr w w'):PCalls P TU f [.nat x,.nat y] (.nat z):=⟨hc,fun w X us h1 h2 h3=>by
 obtain⟨u,v,rfl,g1,g2⟩:=args2 h3;obtain⟨a,rfl,ha⟩:=nat_of g1;obtain⟨b,rfl,hb⟩:=nat_of g2;exact (h w a b ha hb).mono fun e w' ⟨r,he,hr,G⟩=>⟨_,he,nat_to hr (XOk.gr ⟨h1,h2⟩ G) (List.mem_singleton.2 rfl),G⟩⟩
end
theorem args3 {w:World} {X:Nat→Prop} {p q r:PV} {us:List Value} (h:PV.RepL w X [p,q,r] us):∃u v x,us=[u,v,x]∧p.Rep w X u∧q.Rep w X v∧r.Rep w X x:=by
 rw[PV.RepL] at h;obtain⟨u,us',rfl,h1,h⟩:=h;obtain⟨v,x,rfl,h2,h3⟩:=args2 h;exact⟨u,v,x,rfl,h1,h2,h3⟩
theorem r_one {m:Nat} (hm:Sl m):PCalls Tryz.prog TU 54 [.nat m] (.nat (orOne m)):=pc_n1 (by kernel_rfl) fun w a ha=>rone_any w a m ha (nt hm dx)
theorem r_nmul {a b:Nat} (ha:Sl a) (hb:Sl b):PCalls Tryz.prog TU 53 [.nat a,.nat b] (.nat (a*b)):=pc_n2 (by kernel_rfl) fun w x y hx hy=>by
 have h:=rnmul_any w x y _ _ hx hy (nt ha dx) (nt hb dx);rw[vl,vl] at h;exact h
theorem r_quot {s:Bool} {a b:Nat} (ha:(limbs a).length≤300000) (hb0:0 < b) (hb:(limbs b).length≤300000):PCalls Tryz.prog TU 56 [bP s,.nat a,.nat b] (ratP (quot s a b)):=⟨by kernel_rfl,fun w X us h1 h2 h3=>by
 obtain⟨u,v,x,rfl,g1,g2,g3⟩:=args3 h3;obtain rfl:=raw_of g1;obtain⟨x,rfl,hx⟩:=nat_of g2;obtain⟨y,rfl,hy⟩:=nat_of g3;exact (rquot_any w s x y a b hx hy ha hb0 hb).mono fun e w' ⟨r,he,hr,G⟩=>⟨_,he,rat_to hr (XOk.gr ⟨h1,h2⟩ G) (List.mem_singleton.2 rfl),G⟩⟩
set_option maxRecDepth 20000 in
theorem r_div {x y:Q} (h:x.Sm) (k:y.Sm) (h0:y.num≠0):PCalls Tryz.prog TU 171 [ratP x,ratP y] (.tup [ratP (Q.div x y),iP 0]):=by
 refine pc [35] (by kernel_rfl) Tryz.func171 Y Y (fun D=>?_);have hx:=h.b31;have hy:=k.b31;have e1:orOne y.den=y.un:=rfl;have e2:orOne x.den=x.un:=rfl;have hs:(isg y.neg y.num == 0)=false:=by unfold isg;rw[if_neg h0];cases y.neg<;>rfl
 refine pa Y Y (ps (pr Y ?_));refine rc (r_sign k) Y Y Y Y Y Y Y Y ?_;refine ro Y Y Y (fun hd=>opE_cmp Y Y Y (congrArg some hs) hd) Y (rn Y ?_);refine pif Y (fun e=>by cases e) (fun e=>pk ?_);refine pr Y ?_;refine rbe (x.neg != y.neg) Y Y Y Y Y Y (.inr ⟨rfl,rfl⟩) Y ?_;refine rc (r_one hy.2) Y Y Y Y Y Y Y Y ?_;refine rc (r_nmul hx.1 (show Sl (orOne y.den) from nt k.den dx)) Y Y Y Y Y Y Y Y ?_;refine rc (r_one hx.2) Y Y Y Y Y Y Y Y ?_;refine rc (r_nmul (show Sl (orOne x.den) from nt h.den dx) hy.1) Y Y Y Y Y Y Y Y ?_;have l1:(limbs x.un).length≤10000:=h.den;have l2:(limbs y.un).length≤10000:=k.den;refine rc (r_quot (nt (limbs_mul_len _ _) (by have:=h.num;have:=k.den;have:(limbs (orOne y.den)).length≤10000:=k.den;omega)) (Nat.mul_pos x.un_pos (Nat.pos_of_ne_zero h0)) (nt (limbs_mul_len _ _) (by have:=k.num;have:(limbs (orOne x.den)).length≤10000:=h.den;omega))) Y Y Y Y Y Y Y Y (rn (by kernel_rfl) ?_);exact pt (ret_q Y Y)
structure Q.S (s:Nat) (q:Q):Prop where
 num:(limbs q.num).length≤s
 den:(limbs q.un).length≤s
 ok:q.Ok
theorem Q.S.up {s t:Nat} {q:Q} (h:q.S s) (ht:s≤t):q.S t:=⟨nt h.num ht,nt h.den ht,h.ok⟩
theorem Q.S.sm {s:Nat} {q:Q} (h:q.S s) (ht:s≤10000):q.Sm:=⟨nt h.num ht,nt h.den ht⟩
theorem Q.S.lo {s:Nat} {q:Q} (h:q.S s) (ht:s≤10000):q.Lo:=⟨nt h.num ht,nt h.den ht⟩
theorem Q.S.pos {s:Nat} {q:Q} (h:q.S s):1≤s:=nt (len_pos q.un_pos) h.den
theorem quot_S (b:Bool) {n d s:Nat} (hn:(limbs n).length≤s) (hd0:0 < d) (hd:(limbs d).length≤s):(quot b n d).S s:=⟨(quot_bd b hn hd0 hd).num,(quot_bd b hn hd0 hd).den,quot_ok b n hd0⟩
theorem Q.S.canon {s:Nat} {q:Q} (h:q.S s):canonQ q=q:=canonQ_ok h.ok
theorem Q.S.mul {s t:Nat} {x y:Q} (h:x.S s) (k:y.S t):(Q.mul x y).S (s+t):=
 quot_S _ (nt (limbs_mul_len _ _) (Nat.add_le_add h.num k.num)) (Nat.mul_pos x.un_pos y.un_pos) (nt (limbs_mul_len _ _) (Nat.add_le_add h.den k.den))
theorem Q.S.div {s t:Nat} {x y:Q} (h:x.S s) (k:y.S t) (h0:y.num≠0):(Q.div x y).S (s+t):=
 quot_S _ (nt (limbs_mul_len _ _) (Nat.add_le_add h.num k.den)) (Nat.mul_pos x.un_pos (Nat.pos_of_ne_zero h0)) (nt (limbs_mul_len _ _) (Nat.add_le_add h.den k.num))
theorem Q.S.add {s t:Nat} {x y:Q} (h:x.S s) (k:y.S t):(Q.add x y).S (s+t+1):=by
 have h1:(limbs (x.num*y.un)).length≤s+t:=nt (limbs_mul_len _ _) (Nat.add_le_add h.num k.den);have h2:(limbs (y.num*x.un)).length≤s+t:=nt (limbs_mul_len _ _) (by have:=k.num;have:=h.den;omega);refine quot_S _ ?_ (Nat.mul_pos x.un_pos y.un_pos) (nt (limbs_mul_len _ _) (by have:=h.den;have:=k.den;omega));unfold sadd;split
 ·exact limbs_add_len _ _ _ h1 h2
 ·split
  ·exact nt (limbs_len_mono (Nat.sub_le _ _)) om
  ·exact nt (limbs_len_mono (Nat.sub_le _ _)) om
theorem Q.S.neg {s:Nat} {q:Q} (h:q.S s):q.neg'.S s:=quot_S (!q.neg) h.num q.un_pos h.den
theorem small_S {q:Q} (h1:q.num < B32) (h2:q.un < B32) (h:q.Ok):q.S 1:=⟨limbs_len_le (k:=1) (by rw[Nat.pow_one];exact h1),limbs_len_le (k:=1) (by rw[Nat.pow_one];exact h2),h⟩
theorem sz_zero:Q.zero.S 1:=small_S dx dx dx
theorem sz_one:Q.one.S 1:=small_S dx dx dx
theorem sz_mone:Q.mone.S 1:=small_S dx dx dx
theorem Q.zero_of {q:Q} (h:q.Ok) (h0:q.num=0):q=Q.zero:=by
 obtain⟨n,a,d⟩:=q;obtain⟨h1,h2⟩:=h.pos h0;simp only at h0 h1 h2;rw[h0,h1,h2]
theorem Q.add_ok (x y:Q):(Q.add x y).Ok:=quot_ok _ _ (Nat.mul_pos x.un_pos y.un_pos)
theorem Q.mul_ok (x y:Q):(Q.mul x y).Ok:=quot_ok _ _ (Nat.mul_pos x.un_pos y.un_pos)
theorem un_zero:Q.zero.un=1:=rfl
theorem Q.zadd {x:Q} (h:x.Ok):Q.add Q.zero x=x:=by
 have hs:=Q.sg_ok h;unfold Q.add;simp only[un_zero,Nat.one_mul,Nat.mul_one,Nat.zero_mul];have e1:Q.zero.sg=false:=rfl;rw[e1,hs];simp only[Bool.false_and];have:sadd false 0 (x.neg&&decide (0 < x.num)) x.num=(x.neg,x.num):=by
  have h2:(x.neg&&decide (0 < x.num))=x.neg:=by rw[← hs];unfold Q.sg;cases x.neg<;>simp
  rw[h2];unfold sadd;cases hn:x.neg with
  | false=>simp
  | true=>
   have:0 < x.num:=by
    rcases Nat.eq_zero_or_pos x.num with h3 | h3
    ·have:=(h.pos h3).1;rw[hn] at this;cases this
    ·exact h3
   simp[this]
 rw[this];exact quot_self h
theorem sadd_comm (na:Bool) (a:Nat) (nb:Bool) (b:Nat) (ha:a=0→na=false) (hb:b=0→nb=false):sadd na a nb b=sadd nb b na a:=by
 unfold sadd;cases na<;>cases nb<;>simp[Nat.add_comm]
 ·rcases Nat.lt_trichotomy a b with h | h | h
  ·simp[h,Nat.not_lt_of_gt h,Nat.sub_pos_of_lt h]
  ·subst h;simp
  ·simp[h,Nat.not_lt_of_gt h]
 ·rcases Nat.lt_trichotomy a b with h | h | h
  ·simp[h,Nat.not_lt_of_gt h]
  ·subst h;simp
  ·simp[h,Nat.not_lt_of_gt h,Nat.sub_pos_of_lt h]
theorem Q.addc (x y:Q):Q.add x y=Q.add y x:=by
 unfold Q.add;simp only;rw[sadd_comm _ _ _ _ (fun h=>by simp[h]) (fun h=>by simp[h]),Nat.mul_comm x.un]
theorem Q.addz {x:Q} (h:x.Ok):Q.add x Q.zero=x:=by rw[Q.addc,Q.zadd h]
theorem Q.zmul (x:Q):Q.mul Q.zero x=Q.zero:=by
 unfold Q.mul quot;simp
def cfL:List Tm→Int→Q
 | [],_=>Q.zero
 | t::r,v=>if t.1=v then t.2 else cfL r v
abbrev Srt' (l:List Tm):Prop:=l.Pairwise fun a b=>a.1 < b.1
abbrev Nz (l:List Tm):Prop:=∀t∈l,t.2.Ok∧t.2.num≠0
theorem cfL_none:∀{l:List Tm} {v:Int},(∀t∈l,t.1≠v)→cfL l v=Q.zero
 | [],v,_=>rfl
 | t::r,v,h=>by
  rw[cfL,if_neg (h t (mf ..))];exact cfL_none fun u hu=>h u (List.mem_cons_of_mem _ hu)
theorem cfL_mem:∀{l:List Tm} {t:Tm},Srt' l→t∈l→cfL l t.1=t.2
 | u::r,t,hs,h=>by
  rw[Srt',List.pairwise_cons] at hs;rw[cfL];rcases List.mem_cons.1 h with e | e
  ·subst e;rw[if_pos rfl]
  ·rw[if_neg (by have:=hs.1 t e;omega)];exact cfL_mem hs.2 e
theorem cfL_ok:∀{l:List Tm} {v:Int},Nz l→(cfL l v).Ok
 | [],v,_=>(by decide:Q.zero.Ok)
 | t::r,v,h=>by
  rw[cfL];split
  ·exact (h t (mf ..)).1
  ·exact cfL_ok fun u hu=>h u (List.mem_cons_of_mem _ hu)
theorem cfL_app:∀{l r:List Tm} {v:Int},(∀t∈l,t.1≠v)→cfL (l++r) v=cfL r v
 | [],r,v,_=>rfl
 | t::l,r,v,h=>by
  rw[List.cons_append,cfL,if_neg (h t (mf ..))];exact cfL_app fun u hu=>h u (List.mem_cons_of_mem _ hu)
theorem cfL_ext:∀{l r:List Tm},Srt' l→Srt' r→Nz l→Nz r→(∀v,cfL l v=cfL r v)→l=r
 | [],[],_,_,_,_,_=>rfl
 | [],u::r,_,_,_,hn,h=>by
  have:=h u.1;rw[cfL,cfL,if_pos rfl] at this;have h1:=(hn u (mf ..)).2;rw[← this] at h1;exact absurd rfl h1
 | t::l,[],_,_,hn,_,h=>by
  have:=h t.1;rw[cfL,cfL,if_pos rfl] at this;have h1:=(hn t (mf ..)).2;rw[this] at h1;exact absurd rfl h1
 | t::l,u::r,hl,hr,hn,hm,h=>by
  rw[Srt',List.pairwise_cons] at hl hr;have ht:=(hn t (mf ..)).2;have hu:=(hm u (mf ..)).2;have e:t.1=u.1:=by
   rcases Int.lt_trichotomy t.1 u.1 with g | g | g
   ·have:=h t.1;rw[cfL,if_pos rfl,cfL_none (l:=u::r) (fun x hx=>by
     rcases List.mem_cons.1 hx with e | e
     ·subst e;omega
     ·have:=hr.1 x e;omega)] at this
    rw[this] at ht;exact absurd rfl ht
   ·exact g
   ·have:=h u.1;rw[cfL_none (l:=t::l) (fun x hx=>by
     rcases List.mem_cons.1 hx with e | e
     ·subst e;omega
     ·have:=hl.1 x e;omega),cfL,if_pos rfl] at this
    rw[← this] at hu;exact absurd rfl hu
  have e2:t.2=u.2:=by
   have:=h t.1;rw[cfL,if_pos rfl,cfL,if_pos e.symm] at this;exact this
  have e3:t=u:=Prod.ext e e2;subst e3;rw[cfL_ext hl.2 hr.2 (fun x hx=>hn x (List.mem_cons_of_mem _ hx)) (fun x hx=>hm x (List.mem_cons_of_mem _ hx)) fun v=>by
   by_cases hv:t.1=v
   ·rw[cfL_none fun x hx=>by have:=hl.1 x hx;omega,cfL_none fun x hx=>by have:=hr.1 x hx;omega]
   ·have:=h v;rwa [cfL,if_neg hv,cfL,if_neg hv] at this]
def one' (v:Int) (c:Q):List Tm:=if c.num=0 then [] else [(v,c)]
theorem snoc_one (l:List Tm) (v:Int) (c:Q):snoc l v c=l++one' v c:=by unfold snoc one';split<;>simp
theorem putT_one (l:List Tm) (v:Int) (c:Q) (h:c.Ok):putT l v c=l++one' v c:=by rw[putT_snoc l v h,snoc_one]
theorem one_nz {v:Int} {c:Q} (h:c.Ok):Nz (one' v c):=fun t ht=>by
 unfold one' at ht;split at ht
 ·cases ht
 ·rename_i h0;rw[mj ht];exact⟨h,h0⟩
theorem one_var {v:Int} {c:Q}:∀t∈one' v c,t.1=v:=fun t ht=>by
 unfold one' at ht;split at ht
 ·cases ht
 ·rw[mj ht]
theorem one_cf {v:Int} {c:Q} (h:c.Ok):cfL (one' v c) v=c:=by
 unfold one';split
 ·rename_i h0;rw[Q.zero_of h h0];rfl
 ·rw[cfL,if_pos rfl]
theorem one_srt {v:Int} {c:Q}:Srt' (one' v c):=by unfold one';split<;>simp[Srt']
def insT (v:Int) (c:Q):List Tm→List Tm
 | []=>one' v c
 | t::r=>if t.1=v then one' v (Q.add t.2 c)++r else if v < t.1 then one' v c++t::r else t::insT v c r
theorem one_self {t:Tm} (h:t.2.num≠0):one' t.1 t.2=[t]:=by unfold one';rw[if_neg h]
theorem plusGo_done {v:Int} {c:Q}:∀(l acc:List Tm),Nz l→(∀t∈l,t.1≠v)→plusGo v c true l acc=acc++l
 | [],acc,_,_=>by simp[plusGo]
 | t::r,acc,hn,hv=>by
  rw[plusGo,if_neg (hv t (mf ..)),if_neg (by simp),snoc_one,one_self (hn t (mf ..)).2,plusGo_done r _ (fun x hx=>hn x (List.mem_cons_of_mem _ hx)) fun x hx=>hv x (List.mem_cons_of_mem _ hx)];simp
theorem plusGo_ins {v:Int} {c:Q} (hc:c.Ok):∀(l acc:List Tm),Srt' l→Nz l→plusGo v c false l acc=acc++insT v c l
 | [],acc,_,_=>by rw[plusGo,if_neg (by simp),canonQ_ok hc,snoc_one,insT]
 | t::r,acc,hs,hn=>by
  rw[Srt',List.pairwise_cons] at hs;have hr:Nz r:=fun x hx=>hn x (List.mem_cons_of_mem _ hx)
  rw[plusGo,insT];by_cases h1:t.1=v
  ·rw[if_pos h1,if_pos h1,snoc_one,plusGo_done r _ hr (fun x hx=>by have:=hs.1 x hx;omega),h1,List.append_assoc]
  ·rw[if_neg h1,if_neg h1];by_cases h2:v < t.1
   ·rw[if_pos ⟨rfl,h2⟩,if_pos h2,canonQ_ok hc,snoc_one,snoc_one,one_self (hn t (mf ..)).2,plusGo_done r _ hr (fun x hx=>by have:=hs.1 x hx;omega)];simp
   ·rw[if_neg (fun h=>h2 h.2),if_neg h2,snoc_one,one_self (hn t (mf ..)).2,plusGo_ins hc r _ hs.2 hr];simp
theorem insT_mem {v:Int} {c:Q}:∀{l:List Tm} {t:Tm},t∈insT v c l→t.1=v∨t∈l
 | [],t,h=>.inl (one_var t h)
 | u::r,t,h=>by
  rw[insT] at h;split at h
  ·rcases List.mem_append.1 h with h | h
   ·exact .inl (one_var t h)
   ·exact .inr (List.mem_cons_of_mem _ h)
  ·split at h
   ·rcases List.mem_append.1 h with h | h
    ·exact .inl (one_var t h)
    ·exact .inr h
   ·rcases List.mem_cons.1 h with e | e
    ·exact .inr (e▸mf ..)
    ·exact (insT_mem e).imp id (List.mem_cons_of_mem _)
theorem insT_nz {v:Int} {c:Q} (hc:c.Ok):∀{l:List Tm},Nz l→Nz (insT v c l)
 | [],h=>one_nz hc
 | u::r,h=>by
  have hr:Nz r:=fun x hx=>h x (List.mem_cons_of_mem _ hx)
  rw[insT];split
  ·intro t ht;rcases List.mem_append.1 ht with ht | ht
   ·exact one_nz (Q.add_ok ..) t ht
   ·exact hr t ht
  ·split
   ·intro t ht;rcases List.mem_append.1 ht with ht | ht
    ·exact one_nz hc t ht
    ·exact h t ht
   ·intro t ht;rcases List.mem_cons.1 ht with e | e
    ·exact e▸h u (mf ..)
    ·exact insT_nz hc hr t e
theorem one_app_srt {v:Int} {c:Q} {r:List Tm} (h:Srt' r) (hv:∀t∈r,v < t.1):Srt' (one' v c++r):=by
 rw[Srt',List.pairwise_append];exact⟨one_srt,h,fun a ha b hb=>by rw[one_var a ha];exact hv b hb⟩
theorem insT_srt {v:Int} {c:Q}:∀{l:List Tm},Srt' l→Srt' (insT v c l)
 | [],h=>one_srt
 | u::r,h=>by
  rw[Srt',List.pairwise_cons] at h;rw[insT];split
  ·rename_i e
   exact one_app_srt h.2 fun t ht=>by have:=h.1 t ht;omega
  ·split
   ·rename_i e
    exact one_app_srt (List.pairwise_cons.2 h) fun t ht=>by
     rcases List.mem_cons.1 ht with g | g
     ·rw[g];exact e
     ·have:=h.1 t g;omega
   ·rename_i e1 e2
    rw[Srt',List.pairwise_cons];exact⟨fun t ht=>(insT_mem ht).elim (fun g=>by omega) fun g=>h.1 t g,insT_srt h.2⟩
theorem insT_cf {v:Int} {c:Q} (hc:c.Ok):∀{l:List Tm} (w:Int),Srt' l→Nz l→cfL (insT v c l) w=if w=v then Q.add (cfL l v) c else cfL l w
 | [],w,_,_=>by
  rw[insT];split
  ·rename_i e;rw[e,one_cf hc,cfL,Q.zadd hc]
  ·rename_i e;rw[cfL_none fun t ht=>by rw[one_var t ht];omega];rfl
 | u::r,w,hs,hn=>by
  rw[Srt',List.pairwise_cons] at hs;have hr:Nz r:=fun x hx=>hn x (List.mem_cons_of_mem _ hx)
  rw[insT];by_cases h1:u.1=v
  ·rw[if_pos h1];by_cases hw:w=v
   ·rw[if_pos hw,cfL,if_pos h1];have:=one_cf (v:=v) (Q.add_ok u.2 c);unfold one' at this ⊢;split
    ·rename_i h0
     rw[List.nil_append,cfL_none fun t ht=>by have:=hs.1 t ht;omega,Q.zero_of (Q.add_ok ..) h0]
    ·rw[hw,List.cons_append,cfL,if_pos rfl]
   ·rw[if_neg hw,cfL_app fun t ht=>by rw[one_var t ht];omega,cfL,if_neg om]
  ·rw[if_neg h1];by_cases h2:v < u.1
   ·rw[if_pos h2];by_cases hw:w=v
    ·rw[if_pos hw];have h3:cfL (u::r) v=Q.zero:=cfL_none fun t ht=>by
      rcases List.mem_cons.1 ht with g | g
      ·rw[g];exact h1
      ·have:=hs.1 t g;omega
     rw[h3,Q.zadd hc];unfold one';split
     ·rename_i h0
      rw[List.nil_append,hw,h3,Q.zero_of hc h0]
     ·rw[List.cons_append,cfL,if_pos hw.symm]
    ·rw[if_neg hw,cfL_app fun t ht=>by rw[one_var t ht];omega]
   ·rw[if_neg h2,cfL];by_cases h3:u.1=w
    ·rw[if_pos h3,if_neg om,cfL,if_pos h3]
    ·rw[if_neg h3,insT_cf hc w hs.2 hr,cfL,if_neg h1,cfL,if_neg h3]
theorem addT_cf:∀(y acc:List Tm),Srt' y→Nz y→Srt' acc→Nz acc→Srt' (addT acc y)∧Nz (addT acc y)∧∀w,cfL (addT acc y) w=Q.add (cfL acc w) (cfL y w)
 | [],acc,_,_,hs,hn=>⟨hs,hn,fun w=>by rw[addT,cfL,Q.addz (cfL_ok hn)]⟩
 | t::y,acc,hy,hyn,hs,hn=>by
  rw[Srt',List.pairwise_cons] at hy;have ht:=hyn t (mf ..);have e:plusT acc t.1 t.2=insT t.1 t.2 acc:=by rw[plusT,plusGo_ins ht.1 acc [] hs hn];rfl
  obtain⟨h1,h2,h3⟩:=addT_cf y (insT t.1 t.2 acc) hy.2 (fun x hx=>hyn x (List.mem_cons_of_mem _ hx)) (insT_srt hs) (insT_nz ht.1 hn);rw[addT,e];refine⟨h1,h2,fun w=>?_⟩;rw[h3,insT_cf ht.1 w hs hn,cfL];by_cases hw:w=t.1
  ·have hz:cfL y w=Q.zero:=cfL_none fun x hx=>by have:=hy.1 x hx;omega
   rw[if_pos hw,if_pos hw.symm,hz,Q.addz (Q.add_ok ..),hw]
  ·rw[if_neg hw,if_neg om]
theorem scaleT_cf {c:Q}:∀(y acc:List Tm),Srt' y→∃r,scaleT c acc y=acc++r∧Srt' r∧Nz r∧(∀t∈r,∃u∈y,u.1=t.1)∧∀w,cfL r w=Q.mul (cfL y w) c
 | [],acc,_=>⟨[],by simp[scaleT],by simp[Srt'],(fun t h=>by cases h),(fun t h=>by cases h),fun w=>by rw[cfL,Q.zmul]⟩
 | t::y,acc,hy=>by
  rw[Srt',List.pairwise_cons] at hy;obtain⟨r,h1,h2,h3,h4,h5⟩:=scaleT_cf (c:=c) y (snoc acc t.1 (Q.mul t.2 c)) hy.2;have hv:∀x∈r,t.1 < x.1:=fun x hx=>by obtain⟨u,hu,e⟩:=h4 x hx;have:=hy.1 u hu;omega
  refine⟨one' t.1 (Q.mul t.2 c)++r,by rw[scaleT,h1,snoc_one,List.append_assoc],one_app_srt h2 hv,fun x hx=>?_,fun x hx=>?_,fun w=>?_⟩
  ·rcases List.mem_append.1 hx with e | e
   ·exact one_nz (Q.mul_ok ..) x e
   ·exact h3 x e
  ·rcases List.mem_append.1 hx with e | e
   ·exact⟨t,mf ..,(one_var x e).symm⟩
   ·obtain⟨u,hu,e⟩:=h4 x e;exact⟨u,List.mem_cons_of_mem _ hu,e⟩
  ·rw[cfL];by_cases hw:t.1=w
   ·rw[if_pos hw];unfold one';split
    ·rename_i h0
     rw[List.nil_append,cfL_none fun x hx=>by have:=hv x hx;omega,Q.zero_of (Q.mul_ok ..) h0]
    ·rw[List.cons_append,cfL,if_pos hw]
   ·rw[if_neg hw,cfL_app fun x hx=>by rw[one_var x hx];exact hw,h5]
theorem mrgT_cf {c:Q}:∀(n:Nat) (la lb acc:List Tm),la.length+lb.length≤n→Srt' la→Srt' lb→Nz la→∃r,mrgT c n la lb acc=acc++r∧Srt' r∧Nz r∧(∀t∈r,(∃u∈la,u.1=t.1)∨∃u∈lb,u.1=t.1)∧∀w,cfL r w=Q.add (cfL la w) (Q.mul (cfL lb w) c):=by
 have join:∀(v:Int) (q:Q) (r:List Tm) (F:Int→Q),q.Ok→Srt' r→Nz r→(∀x∈r,v < x.1)→(∀w,w≠v→cfL r w=F w)→F v=q→Srt' (one' v q++r)∧Nz (one' v q++r)∧∀w,cfL (one' v q++r) w=F w:=fun v q r F hq h1 h2 h3 h4 h5=>by
  refine⟨one_app_srt h1 h3,fun x hx=>?_,fun w=>?_⟩
  ·rcases List.mem_append.1 hx with e | e
   ·exact one_nz hq x e
   ·exact h2 x e
  ·by_cases hw:w=v
   ·subst hw;unfold one';split
    ·rename_i h0
     rw[List.nil_append,cfL_none fun x hx=>by have:=h3 x hx;omega,h5,Q.zero_of hq h0]
    ·rw[List.cons_append,cfL,if_pos rfl,h5]
   ·rw[cfL_app fun x hx=>by rw[one_var x hx];omega,h4 w hw]
 intro n
 induction n with
 | zero=>
  intro la lb acc hn _ _ _;obtain rfl:=List.length_eq_zero_iff.1 (show la.length=0 by omega);obtain rfl:=List.length_eq_zero_iff.1 (show lb.length=0 by omega);exact⟨[],by simp[mrgT],by simp[Srt'],(fun t h=>by cases h),(fun t h=>by cases h),fun w=>by rw[cfL,Q.zmul,Q.zadd dx]⟩
 | succ n ih=>
  intro la lb acc hn ha hb hz
  match la,lb with
  | [],[]=>exact⟨[],by simp[mrgT],by simp[Srt'],(fun t h=>by cases h),(fun t h=>by cases h),fun w=>by rw[cfL,Q.zmul,Q.zadd dx]⟩
  | s::la,[]=>
   have ha':=List.pairwise_cons.1 ha;have hs:=hz s (mf ..);obtain⟨r,h1,h2,h3,h4,h5⟩:=ih la [] (putT acc s.1 s.2) (by simp only[List.length_cons,List.length_nil] at hn ⊢;omega) ha'.2 hb fun x hx=>hz x (List.mem_cons_of_mem _ hx)
   have hv:∀x∈r,s.1 < x.1:=fun x hx=>by
    rcases h4 x hx with ⟨u,hu,e⟩ | ⟨u,hu,e⟩
    ·have:=ha'.1 u hu;omega
    ·cases hu
   obtain⟨j1,j2,j3⟩:=join s.1 s.2 r (fun w=>Q.add (cfL (s::la) w) (Q.mul (cfL [] w) c)) hs.1 h2 h3 hv (fun w hw=>by show _=Q.add (cfL (s::la) w) _;rw[h5,cfL.eq_2 _ s,if_neg om]) (by show Q.add (cfL (s::la) s.1) (Q.mul Q.zero c)=_;rw[cfL.eq_2 _ s,if_pos rfl,Q.zmul,Q.addz hs.1]);refine⟨one' s.1 s.2++r,by rw[mrgT,h1,putT_one _ _ _ hs.1,List.append_assoc],j1,j2,fun x hx=>?_,j3⟩;rcases List.mem_append.1 hx with e | e
   ·exact .inl ⟨s,mf ..,(one_var x e).symm⟩
   ·exact (h4 x e).imp (fun ⟨u,hu,e⟩=>⟨u,List.mem_cons_of_mem _ hu,e⟩) id
  | [],t::lb=>
   have hb':=List.pairwise_cons.1 hb;obtain⟨r,h1,h2,h3,h4,h5⟩:=ih [] lb (putT acc t.1 (Q.mul t.2 c)) (by simp only[List.length_cons,List.length_nil] at hn ⊢;omega) ha hb'.2 hz;have hv:∀x∈r,t.1 < x.1:=fun x hx=>by
    rcases h4 x hx with ⟨u,hu,e⟩ | ⟨u,hu,e⟩
    ·cases hu
    ·have:=hb'.1 u hu;omega
   obtain⟨j1,j2,j3⟩:=join t.1 (Q.mul t.2 c) r (fun w=>Q.add (cfL [] w) (Q.mul (cfL (t::lb) w) c)) (Q.mul_ok ..) h2 h3 hv (fun w hw=>by show _=Q.add _ (Q.mul (cfL (t::lb) w) c);rw[h5,cfL.eq_2 _ t,if_neg om]) (by show Q.add Q.zero (Q.mul (cfL (t::lb) t.1) c)=_;rw[cfL.eq_2 _ t,if_pos rfl,Q.zadd (Q.mul_ok ..)]);refine⟨one' t.1 (Q.mul t.2 c)++r,by rw[mrgT,h1,putT_one _ _ _ (Q.mul_ok ..),List.append_assoc],j1,j2,fun x hx=>?_,j3⟩;rcases List.mem_append.1 hx with e | e
   ·exact .inr ⟨t,mf ..,(one_var x e).symm⟩
   ·exact (h4 x e).imp id fun ⟨u,hu,e⟩=>⟨u,List.mem_cons_of_mem _ hu,e⟩
  | s::la,t::lb=>
   have ha':=List.pairwise_cons.1 ha;have hb':=List.pairwise_cons.1 hb;have hs:=hz s (mf ..);have hz':Nz la:=fun x hx=>hz x (List.mem_cons_of_mem _ hx)
   rw[mrgT];by_cases g1:s.1 < t.1
   ·rw[if_pos g1];obtain⟨r,h1,h2,h3,h4,h5⟩:=ih la (t::lb) (putT acc s.1 s.2) (by simp only[List.length_cons] at hn ⊢;omega) ha'.2 hb hz';have hv:∀x∈r,s.1 < x.1:=fun x hx=>by
     rcases h4 x hx with ⟨u,hu,e⟩ | ⟨u,hu,e⟩
     ·have:=ha'.1 u hu;omega
     ·rcases List.mem_cons.1 hu with e2 | e2
      ·subst e2;omega
      ·have:=hb'.1 u e2;omega
    have hz0:cfL (t::lb) s.1=Q.zero:=cfL_none fun x hx=>by
     rcases List.mem_cons.1 hx with e2 | e2
     ·subst e2;omega
     ·have:=hb'.1 x e2;omega
    obtain⟨j1,j2,j3⟩:=join s.1 s.2 r (fun w=>Q.add (cfL (s::la) w) (Q.mul (cfL (t::lb) w) c)) hs.1 h2 h3 hv (fun w hw=>by show _=Q.add (cfL (s::la) w) _;rw[h5,cfL.eq_2 _ s,if_neg om]) (by show Q.add (cfL (s::la) s.1) (Q.mul (cfL (t::lb) s.1) c)=_;rw[hz0,cfL.eq_2 _ s,if_pos rfl,Q.zmul,Q.addz hs.1]);refine⟨one' s.1 s.2++r,by rw[h1,putT_one _ _ _ hs.1,List.append_assoc],j1,j2,fun x hx=>?_,j3⟩;rcases List.mem_append.1 hx with e | e
    ·exact .inl ⟨s,mf ..,(one_var x e).symm⟩
    ·exact (h4 x e).imp (fun ⟨u,hu,e⟩=>⟨u,List.mem_cons_of_mem _ hu,e⟩) id
   ·rw[if_neg g1];by_cases g2:t.1 < s.1
    ·rw[if_pos g2];obtain⟨r,h1,h2,h3,h4,h5⟩:=ih (s::la) lb (putT acc t.1 (Q.mul t.2 c)) (by simp only[List.length_cons] at hn ⊢;omega) ha hb'.2 hz;have hv:∀x∈r,t.1 < x.1:=fun x hx=>by
      rcases h4 x hx with ⟨u,hu,e⟩ | ⟨u,hu,e⟩
      ·rcases List.mem_cons.1 hu with e2 | e2
       ·subst e2;omega
       ·have:=ha'.1 u e2;omega
      ·have:=hb'.1 u hu;omega
     have hz0:cfL (s::la) t.1=Q.zero:=cfL_none fun x hx=>by
      rcases List.mem_cons.1 hx with e2 | e2
      ·subst e2;omega
      ·have:=ha'.1 x e2;omega
     obtain⟨j1,j2,j3⟩:=join t.1 (Q.mul t.2 c) r (fun w=>Q.add (cfL (s::la) w) (Q.mul (cfL (t::lb) w) c)) (Q.mul_ok ..) h2 h3 hv (fun w hw=>by show _=Q.add _ (Q.mul (cfL (t::lb) w) c);rw[h5,cfL.eq_2 _ t,if_neg om]) (by show Q.add (cfL (s::la) t.1) (Q.mul (cfL (t::lb) t.1) c)=_;rw[hz0,cfL.eq_2 _ t,if_pos rfl,Q.zadd (Q.mul_ok ..)]);refine⟨one' t.1 (Q.mul t.2 c)++r,by rw[h1,putT_one _ _ _ (Q.mul_ok ..),List.append_assoc],j1,j2,fun x hx=>?_,j3⟩;rcases List.mem_append.1 hx with e | e
     ·exact .inr ⟨t,mf ..,(one_var x e).symm⟩
     ·exact (h4 x e).imp id fun ⟨u,hu,e⟩=>⟨u,List.mem_cons_of_mem _ hu,e⟩
    ·rw[if_neg g2];have e0:t.1=s.1:=by omega
     obtain⟨r,h1,h2,h3,h4,h5⟩:=ih la lb (putT acc s.1 (Q.add s.2 (Q.mul t.2 c))) (by simp only[List.length_cons] at hn ⊢;omega) ha'.2 hb'.2 hz';have hv:∀x∈r,s.1 < x.1:=fun x hx=>by
      rcases h4 x hx with ⟨u,hu,e⟩ | ⟨u,hu,e⟩
      ·have:=ha'.1 u hu;omega
      ·have:=hb'.1 u hu;omega
     obtain⟨j1,j2,j3⟩:=join s.1 (Q.add s.2 (Q.mul t.2 c)) r (fun w=>Q.add (cfL (s::la) w) (Q.mul (cfL (t::lb) w) c)) (Q.add_ok ..) h2 h3 hv (fun w hw=>by show _=Q.add (cfL (s::la) w) (Q.mul (cfL (t::lb) w) c);rw[h5,cfL.eq_2 _ s,if_neg om,cfL.eq_2 _ t,if_neg om]) (by show Q.add (cfL (s::la) s.1) (Q.mul (cfL (t::lb) s.1) c)=_;rw[cfL.eq_2 _ s,if_pos rfl,cfL.eq_2 _ t,if_pos e0]);refine⟨one' s.1 (Q.add s.2 (Q.mul t.2 c))++r,by rw[h1,putT_one _ _ _ (Q.add_ok ..),List.append_assoc],j1,j2,fun x hx=>?_,j3⟩;rcases List.mem_append.1 hx with e | e
     ·exact .inl ⟨s,mf ..,(one_var x e).symm⟩
     ·exact (h4 x e).imp (fun ⟨u,hu,e⟩=>⟨u,List.mem_cons_of_mem _ hu,e⟩) fun ⟨u,hu,e⟩=>⟨u,List.mem_cons_of_mem _ hu,e⟩
structure Fm.Cn (f:Fm):Prop where
 srt:Srt' f.terms
 nz:Nz f.terms
 const:f.const.Ok
theorem Fm.Cn.addR {f g:Fm} (h:f.Cn) (k:g.Cn):(Fm.addR f g).Cn:=by
 obtain⟨h1,h2,_⟩:=addT_cf g.terms f.terms k.srt k.nz h.srt h.nz;exact⟨h1,h2,Q.add_ok ..⟩
theorem Fm.Cn.scaleR {f:Fm} {q:Q} (h:f.Cn):(Fm.scaleR f q).Cn:=by
 obtain⟨r,h1,h2,h3,_⟩:=scaleT_cf (c:=q) f.terms [] h.srt;rw[List.nil_append] at h1;exact⟨by show Srt' (scaleT q [] f.terms);rw[h1];exact h2,by show Nz (scaleT q [] f.terms);rw[h1];exact h3,Q.mul_ok ..⟩
theorem Fm.Cn.scale_cf {f:Fm} {q:Q} (h:f.Cn) (w:Int):cfL (Fm.scaleR f q).terms w=Q.mul (cfL f.terms w) q:=by
 obtain⟨r,h1,_,_,_,h5⟩:=scaleT_cf (c:=q) f.terms [] h.srt;rw[List.nil_append] at h1;show cfL (scaleT q [] f.terms) w=_;rw[h1];exact h5 w
theorem Fm.Cn.add_cf {f g:Fm} (h:f.Cn) (k:g.Cn) (w:Int):cfL (Fm.addR f g).terms w=Q.add (cfL f.terms w) (cfL g.terms w):=(addT_cf g.terms f.terms k.srt k.nz h.srt h.nz).2.2 w
theorem mrg_eq {f g:Fm} {q:Q} (h:f.Cn) (k:g.Cn):mrg f g q=Fm.addR f (Fm.scaleR g q):=by
 obtain⟨r,h1,h2,h3,_,h5⟩:=mrgT_cf (c:=q) (f.terms.length+g.terms.length) f.terms g.terms [] (nr _) h.srt k.srt h.nz;rw[List.nil_append] at h1;have k2:=k.scaleR (q:=q);have hc:=h.addR k2;have e:r=(Fm.addR f (Fm.scaleR g q)).terms:=cfL_ext h2 hc.srt h3 hc.nz fun v=>by rw[h5,h.add_cf k2,k.scale_cf]
 show Fm.mk _ _=_;rw[h1,e];rfl
end Go.Proofs.YtbhbainhmfjpdaaGreatDoor
