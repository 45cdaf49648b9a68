/- Walks of the search and of what it calls, part 11. -/
import Derived.Test.YtmhphnljfcncpaaGreatDoorMj
import Derived.Lib.AppendZerosOnto
import Derived.Lib.SliceRun
set_option linter.unusedVariables false
set_option linter.unusedSimpArgs false
set_option maxRecDepth 100000
set_option maxHeartbeats 8000000
namespace Go.Proofs.YtmhphnljfcncpaaGreatDoor
open Go.RowKit
section
variable {w:World} {B e k g n c:Nat} {xs:List Value}
theorem row_there (h:w.ownsRow B e k (.slice (some ⟨g,0,none⟩) n c) n xs):(∀j v,xs[j]?=some v→w.cell? ⟨g,j,none⟩=some v)∧(∀j,w.frozen? ⟨g,j,none⟩=false)∧n≤c:=by
 obtain⟨hl,h0 | ⟨g',cap,cur,hv,hb,hh,h1,h2,h3,ht⟩⟩:=h
 ·cases h0.1
 ·injection hv with hv hvn hvc;injection hv with hv;injection hv with hv;subst hv;subst hvc;refine⟨fun j v hj=>?_,fun j=>Bk.frozen hh _,h1⟩;rw[Bk.cell hh j,← Array.getElem?_toList];have hjl:=(gs hj).1;rw[← ht,List.getElem?_take_of_lt (by omega)] at hj;exact hj
theorem row_cut (h:w.ownsRow B e k (.slice (some ⟨g,0,none⟩) n c) n xs) {m:Nat} (hm:m≤n):w.ownsRow B e k (.slice (some ⟨g,0,none⟩) m c) m (xs.take (m*k)):=by
 have hmk:m*k≤n*k:=Nat.mul_le_mul_right k hm;obtain⟨hl,h0 | ⟨g',cap,cur,hv,hb,hh,h1,h2,h3,ht⟩⟩:=h
 ·cases h0.1
 ·injection hv with hv hvn hvc;injection hv with hv;injection hv with hv;subst hv;subst hvc;refine⟨by rw[List.length_take];omega,.inr ⟨g,c,cur,rfl,hb,hh,by omega,h2,h3,?_⟩⟩;rw[← ht,List.take_take,Nat.min_eq_left hmk]
end
section
variable {α:Type} {F:α→List Value} {k:Nat}
theorem flat_takeK (hF:∀a,(F a).length=k):∀(l:List α) (i:Nat),(l.take i).flatMap F=(l.flatMap F).take (i*k)
 | [],i=>by simp
 | a::l,0=>by simp
 | a::l,i+1=>by rw[List.take_succ_cons,List.flatMap_cons,List.flatMap_cons,show (i+1)*k=(F a).length+i*k by rw[hF,Nat.add_mul,Nat.one_mul,Nat.add_comm],List.take_length_add_append,flat_takeK hF l i]
theorem flat_dropK (hF:∀a,(F a).length=k):∀(l:List α) (i:Nat),(l.drop i).flatMap F=(l.flatMap F).drop (i*k)
 | [],i=>by simp
 | a::l,0=>by simp
 | a::l,i+1=>by rw[List.drop_succ_cons,List.flatMap_cons,show (i+1)*k=(F a).length+i*k by rw[hF,Nat.add_mul,Nat.one_mul,Nat.add_comm],List.drop_length_add_append,flat_dropK hF l i]
end
section
variable {α β:Type} {cs:β→List Value} {Is:World→β→α→Prop} {e k:Nat} {w:World} {B g n c:Nat} {xs:List α}
theorem Own.del (hk:∀b,(cs b).length=k) (h1:∀b,∀u∈cs b,u.oneCell'=true) (h:Own cs Is e k w B ⟨some ⟨g,0,none⟩,n,c⟩ xs) {i:Nat} (hi:i < n) (hI:∀W',Fr (fun x=>x=g) w W'→∀p a,Is w p a→Is W' p a) (h0:0 < k):
  ∃news:List Value,news.length=(n - 1 - i)*k∧(∀j u,news[j]?=some u→w.cell? ⟨g,(i+1)*k+j,none⟩=some u)∧(∀u∈news,u.oneCell'=true)∧(∀W' j,W'=w∨W'=w.setCells g (i*k) news→j < n*k→(W'.cell? ⟨g,j,none⟩).isSome=true∧W'.frozen? ⟨g,j,none⟩=false)∧
   ∀zs:List Value,zs.length=k→Own cs Is e k ((w.setCells g (i*k) news).setCells g ((n - 1)*k) zs) B ⟨some ⟨g,0,none⟩,n - 1,c⟩ (xs.eraseIdx i)∧Fr (fun x=>x=g) w ((w.setCells g (i*k) news).setCells g ((n - 1)*k) zs):=by
 obtain⟨ts,t1,rfl,t3⟩:=h;have hF:∀p:β×α,(cs p.1).length=k:=fun p=>hk p.1
 have hlen:=t1.1;rw[flat_len (F:=fun p:β×α=>cs p.1) hF] at hlen;have hts:ts.length=n:=Nat.eq_of_mul_eq_mul_right h0 hlen;obtain⟨q,rfl⟩:∃q,n=i+1+q:=⟨n - (i+1),by omega⟩;have e1:i+1+q - 1 - i=q:=by omega
 have e2:i+1+q - 1=i+q:=by omega
 have m1:(i+1+q)*k=i*k+k+q*k:=by rw[Nat.add_mul,Nat.add_mul,Nat.one_mul]
 have m2:(i+1)*k=i*k+k:=by rw[Nat.add_mul,Nat.one_mul]
 have m3:(i+q)*k=i*k+q*k:=Nat.add_mul _ _ _;obtain⟨c1,c2,c3⟩:=row_there t1;have hnl:((ts.drop (i+1)).flatMap fun p=>cs p.1).length=q*k:=by rw[flat_len (F:=fun p:β×α=>cs p.1) hF,List.length_drop,hts];congr 1;omega
 obtain⟨s1,F1⟩:=setCells_own (((ts.drop (i+1)).flatMap fun p=>cs p.1)) (i*k) t1 (by rw[hnl,m1];omega);obtain⟨d1,d2,_⟩:=row_there s1;rw[e1,e2];refine⟨(ts.drop (i+1)).flatMap fun p=>cs p.1,hnl,fun j u hj=>?_,fun u hu=>?_,fun W' j hW hj=>?_,fun zs hz=>?_⟩
 ·rw[flat_dropK (F:=fun p:β×α=>cs p.1) hF,List.getElem?_drop] at hj;exact c1 _ _ hj
 ·obtain⟨p,_,hp⟩:=List.mem_flatMap.1 hu;exact h1 _ u hp
 ·rcases hW with rfl | rfl
  ·refine⟨?_,c2 j⟩;rw[c1 j _ (ge (by rw[t1.1];exact hj))];rfl
  ·refine⟨?_,d2 j⟩;rw[d1 j _ (ge (by rw[s1.1];exact hj))];rfl
 ·obtain⟨s2,F2⟩:=setCells_own zs ((i+q)*k) s1 (by rw[hz,m1,m3];omega);have s3:=row_cut s2 (m:=i+q) (show i+q≤i+1+q by omega);have F12:=F1.trans F2;refine⟨⟨ts.eraseIdx i,?_,by rw[List.eraseIdx_eq_take_drop_succ,List.eraseIdx_eq_take_drop_succ,List.map_append,List.map_take,List.map_drop],fun p hp=>hI _ F12 _ _ (t3 p (List.mem_of_mem_eraseIdx hp))⟩,F12⟩;have e3:(ts.eraseIdx i).flatMap (fun p=>cs p.1)=((ts.flatMap fun p=>cs p.1).take (i*k))++(ts.drop (i+1)).flatMap fun p=>cs p.1:=by
   rw[List.eraseIdx_eq_take_drop_succ,List.flatMap_append,flat_takeK (F:=fun p:β×α=>cs p.1) hF]
  rw[e3];have e4:∀(a b d:List Value) (m:Nat),a.length=m→(a++b++d).take m=a:=fun a b d m hm=>by rw[List.append_assoc,List.take_append_of_le_length (by omega),List.take_of_length_le (by omega)]
  have e5:(((ts.flatMap fun p=>cs p.1).take (i*k))++((ts.drop (i+1)).flatMap fun p=>cs p.1)).length=(i+q)*k:=by
   rw[List.length_append,hnl,List.length_take,t1.1,m1,m3];omega
  have e6:∀(a b:List Value) (m:Nat),a.length=m→(a++b).take m=a:=fun a b m hm=>by rw[List.take_append_of_le_length (by omega),List.take_of_length_le (by omega)]
  rw[e4 _ _ _ _ (by rw[List.length_take,s1.1,m1,m3];omega),e6 _ _ _ e5] at s3;exact s3
end
section
variable {P:Program}
theorem run_copyK (w:World) (dT sT ty elem:TypeId) (b o dLen dCap:Nat) (a:Addr) (sLen sCap k:Nat) (cs:List Value)
  (hu:P.underlying dT=some (.slice elem)) (hs:(P.info? elem).map (·.size)=some k) (hn:Nat.min sLen dLen*k=cs.length)
  (hsrc:∀j v,cs[j]?=some v→w.cell? (a.add j)=some v) (hc:∀j,j < cs.length→(w.cell? ⟨b,o+j,none⟩).isSome=true) (hf:∀j,j < cs.length→w.frozen? ⟨b,o+j,none⟩=false) (h1:∀v∈cs,v.oneCell'=true):
  (Builtin.copy_ #[dT,sT] ty #[.slice (some ⟨b,o,none⟩) dLen dCap,.slice (some a) sLen sCap]).run P w=.ok (goInt (Nat.min sLen dLen)) (w.setCells b o cs):=by
 have hl:=run_loadCells_list (P:=P) w a cs hsrc;have hst:=run_storeCells_cells (P:=P) b o cs 0 w (by simpa using hc) (by simpa using hf) h1;cases hq:P.info? elem with
 | none=>simp[hq] at hs
 | some i=>
  have hi:i.size=k:=by simpa [hq] using hs
  simp[Builtin.copy_,run_underlying hu,Builtin.lenOf,Builtin.firstCells,sizeOf,typeInfo,hq,hi,hn,hl,hst]
end
theorem run_clrI (w:World) (ty:TypeId) (g o c:Nat) (hc:(w.cell? ⟨g,o,none⟩).isSome=true) (hf:w.frozen? ⟨g,o,none⟩=false):
  (Builtin.clear_ #[220] ty #[.slice (some ⟨g,o,none⟩) 1 c]).run Tryz.prog w=.ok (.tuple #[]) (w.setCells g o [.int .i64 0]):=by
 have hzv:(zeroValue 3).run Tryz.prog w=.ok (.int .i64 0) w:=by kernel_rfl
 have hu:Tryz.prog.underlying 220=some (.slice 3):=by kernel_rfl
 have hst:=run_storeCells_cells (P:=Tryz.prog) g o [.int .i64 0] 0 w (fun j hj=>(by rw[show j=0 from by simpa using hj];exact hc)) (fun j hj=>(by rw[show j=0 from by simpa using hj];exact hf)) (fun v hv=>by rw[mj hv];rfl);simp only[Nat.add_zero] at hst;have he:Builtin.zeroCells (Value.int .i64 0).cells 1=#[.int .i64 0]:=by kernel_rfl
 simp[Builtin.clear_,run_underlying hu,hzv,he,hst]
theorem run_clrR (w:World) (ty:TypeId) (g o c:Nat) (hc:∀j,j < 3→(w.cell? ⟨g,o+j,none⟩).isSome=true∧w.frozen? ⟨g,o+j,none⟩=false):
  (Builtin.clear_ #[31] ty #[.slice (some ⟨g,o,none⟩) 1 c]).run Tryz.prog w=.ok (.tuple #[]) (w.setCells g o [.bool false,.slice none 0 0,.slice none 0 0]):=by
 have hzv:(zeroValue 38).run Tryz.prog w=.ok (.agg Rl) w:=by kernel_rfl
 have hu:Tryz.prog.underlying 31=some (.slice 38):=by kernel_rfl
 have hst:=run_storeCells_cells (P:=Tryz.prog) g o [.bool false,Nl,Nl] 0 w (fun j hj=>by rw[Nat.add_zero];exact (hc j hj).1) (fun j hj=>by rw[Nat.add_zero];exact (hc j hj).2) (Rv.one Rv.nil);simp only[Nat.add_zero] at hst;have he:Builtin.zeroCells (Value.agg Rl).cells 1=Rl:=by kernel_rfl
 simp[Builtin.clear_,run_underlying hu,hzv,he,hst]
section
attribute [local go_sem] Oper.semAt_some
theorem Gr.fr_ext {X:Nat→Prop} {w w' w'':World} (h:Gr w w') (F:Fr X w' w''):Fr X w w'':=Fr.trans (h.fr.wide fun _ _ e=>e.elim) F
def idxF (l:List Nat) (v:Nat):Nat→Nat→Option Nat
 | 0,_=>none
 | n+1,i=>if v=nAt l i then some i else idxF l v n (i+1)
theorem tidx_any (w:World) (B v:Nat) (x:Sv) (l:List Nat) (h:OwnN w B x l) (hn:l.length < 100000):
  Calls Tryz.prog 220 #[x.v,iv v] w fun e w'=>e=.returned (.int .i64 (optI (idxF l v l.length 0)))∧Gr w w':=by
 obtain⟨xA,xn,xc⟩:=x;have hxn:l.length=xn:=h.len (fun _=>rfl) (by decide);subst hxn;have HG:=I (Gr.refl w);have HX:=I h;clear h;go_enter Tryz.func220,Tryz.ntmps220;go_wp2_with fail;go_loopw [8] (fun s0 wr=>∃(j:Nat),s0=.int .i64 j∧j≤l.length∧Hid (idxF l v (l.length - j) j=idxF l v l.length 0)∧Hid (OwnN wr B ⟨xA,l.length,xc⟩ l)∧Hid (Gr w wr)) (fun j _=>l.length - (intOf j).toNat)
 case atStart=>exact⟨0,rfl,nq _,I rfl,HX,HG⟩
 case round=>
  clear HX HG;obtain⟨j,rfl,hr1,HI,HX,HG⟩:=hrel;by_cases hin:j < l.length
  ·have hj9:j < 100000:=nm hin hn;obtain⟨ad,hA,c0,_⟩:=HX.at (nAt_get hin);simp only at hA;subst hA;have hi:=HI.out;rw[show l.length - j=(l.length - (j+1))+1 from by omega,idxF] at hi;have HI1:=I hi;clear hi HI;by_cases he:v=nAt l j
   ·have d_he:=dt he;have e_he:((v) == (nAt l j))=true:=beq_iff_eq.2 he;have n_he:((v) != (nAt l j))=false:=by simp[he]
    subst he;have hi:=HI1.out;rw[if_pos rfl] at hi;have HI:=I hi;clear hi;have e2:((nAt l j:Int) == (nAt l j:Int))=true:=beq_self_eq_true _;go_wp2;go_ret;exact⟨by rw[← HI.out];rfl,HG.out⟩
   ·have d_he:=df he;have e_he:((v) == (nAt l j))=false:=beq_eq_false_iff_ne.2 he;have n_he:((v) != (nAt l j))=true:=bne_iff_ne.2 he;have hi:=HI1.out;rw[if_neg he] at hi;have HI:=I hi;clear hi;have e2:((v:Int) == (nAt l j:Int))=false:=beq_eq_false_iff_ne.2 (by omega);have e3:¬(v:Int)=(nAt l j:Int):=by omega
    go_wp2;go_roundw
    ·exact⟨j+1,by go_num,by omega,HI,HX,HG⟩
    ·simp[intOf];omega
  ·obtain rfl:j=l.length:=by omega
   rw[Nat.sub_self,idxF] at HI;go_wp2;go_ret;exact⟨by rw[← HI.out];rfl,HG.out⟩
theorem tdelI_any (w:World) (B g n c i:Nat) (l:List Nat) (h0:OwnN w B ⟨some ⟨g,0,none⟩,n,c⟩ l) (hi2:i+1 < n) (hn:n < 100000):
  Calls Tryz.prog 361 #[.slice (some ⟨g,0,none⟩) n c,iv i,.int .i64 ((i:Int)+1)] w fun e w'=>e=.returned (.slice (some ⟨g,0,none⟩) (n - 1) c)∧OwnN w' B ⟨some ⟨g,0,none⟩,n - 1,c⟩ (l.eraseIdx i)∧Fr (fun k=>k=g) w w':=by
 have hi:i < n:=by omega
 have G:=(Gr.refl w).drew;have h:=OwnN.up h0 G;obtain⟨cur,hb⟩:∃cur,Bk w.drew g 3 cur:=Own.bk h rfl;obtain⟨news,n1,n2,n3,n4,n5⟩:=Own.del (cs:=ncs) (Is:=fun _ (p a:Nat)=>p=a) (k:=1) (fun _=>rfl) ncs_one h hi (fun _ _ _ _ e=>e) (by decide);have hcap:n≤c:=by
  obtain⟨ts,t1,_⟩:=h;exact (row_there t1).2.2
 clear h h0 hb cur;obtain⟨i0,hi0⟩:∃i0,Tryz.prog.info? 3=some i0:=Option.isSome_iff_exists.1 (by kernel_rfl);have hs0:i0.size=1:=by
  have h9:(Tryz.prog.info? 3).map (·.size)=some 1:=by kernel_rfl
  rw[hi0] at h9;injection h9
 have hu:Tryz.prog.underlying 220=some (.slice 3):=by kernel_rfl
 obtain⟨q,hq⟩:∃q,n=i+1+q:=⟨n - (i+1),by omega⟩;subst hq;rw[show i+1+q - 1 - i=q from by omega] at n1;rw[show i+1+q - 1=i+q from by omega] at n5 ⊢;have n6:∀j,j < 1→((w.drew.setCells g (i*1) news).cell? ⟨g,(i+q)*1+j,none⟩).isSome=true∧(w.drew.setCells g (i*1) news).frozen? ⟨g,(i+q)*1+j,none⟩=false:=fun j hj=>n4 _ _ (.inr rfl) (by omega)
 have hap:∀ty,(Builtin.append_ #[220,220] ty #[.slice (some ⟨g,0,none⟩) i c,.slice (some ⟨g,i+1,none⟩) q (c - (i+1))]).run Tryz.prog w.drew=.ok (.slice (some ⟨g,0,none⟩) (i+q) c) (w.drew.setCells g (i) news):=fun ty=>by
  have h9:=run_append_room_cells (P:=Tryz.prog) w.drew 220 ty 3 i0 hu hi0 g 0 i c ⟨g,(i+1)*1,none⟩ q (c - (i+1)) news (by rw[n1,hs0]) (fun j u hj=>by rw[Addr.add_mid];exact n2 j u hj) n3 (by omega) (fun j hj=>by rw[Nat.zero_add,hs0];exact (n4 _ _ (.inl rfl) (by rw[n1] at hj;omega)).1) (fun j hj=>by rw[Nat.zero_add,hs0];exact (n4 _ _ (.inl rfl) (by rw[n1] at hj;omega)).2);rw[Nat.zero_add,hs0] at h9;simpa using h9
 have hcl:∀ty cc,(Builtin.clear_ #[220] ty #[.slice (some ⟨g,i+q,none⟩) (i+1+q - (i+q)) cc]).run Tryz.prog (w.drew.setCells g (i) news)=.ok (.tuple #[]) ((w.drew.setCells g (i) news).setCells g (i+q) [.int .i64 0]):=fun ty cc=>by
  rw[show i+1+q - (i+q)=1 from by omega];exact run_clrI _ ty g _ cc (by have:=(n6 0 (by decide)).1;simpa using this) (by have:=(n6 0 (by decide)).2;simpa using this)
 simp only[Nat.mul_one] at n5;have H5:=I n5;have HA:=I hap;have hcl9:=hcl;have HG:=I G;have hi9:i < 100000:=by omega
 have b1:((i:Int) == (i:Int)+1)=false:=beq_eq_false_iff_ne.2 (by omega);have b2:¬(i:Int)=(i:Int)+1:=by omega
 have b3:i≤c:=by omega
 have b4:i+1≤c:=by omega
 have b6:¬c=i+1:=by omega
 have b7:(i:Int)+1≤(i:Int)+1+(q:Int):=by omega
 have b5:(0:Int)≤(i:Int)+1:=by omega
 clear n1 n2 n3 n4 n5 n6 hap hcl hi G;go_enter Tryz.func361,Tryz.ntmps361;go_upto_region 5 with fail;refine wp_region_E (fun _=>True) (by kernel_rfl) ?_;show anyE _ _ _ _ 8 _ _ _;generalize w.drew=v0 at*;refine anyE.tk 0 trivial ?_;refine anyE.tk 1 trivial ?_;refine anyE.tk 2 trivial ?_;refine anyE.tk 3 trivial ?_;refine anyE.tk 4 trivial ?_;refine anyE.tk 5 trivial ?_;refine anyE.k 6 fun K hK=>?_
 refine Lib.wp_append_run _ _ _ 220 220 (by rfl) _ _ (by rfl) (by rfl) _ _ (HA.out _) ?_;refine hK.out _ _ ⟨Or.inl (trivial),?_⟩;clear hK K;refine ptt ?_;refine anyE.tk 7 trivial ?_;refine anyE.done (by kernel_rfl) ?_;go_wp2;go_ret;obtain⟨x1,x2⟩:=H5.out [.int .i64 0] rfl;exact⟨rfl,x1,HG.fr_ext x2⟩
theorem tdelR_any (w:World) (B g n c i:Nat) (l:List Q) (h0:OwnR w B ⟨some ⟨g,0,none⟩,n,c⟩ l) (hi2:i+1 < n) (hn:n < 100000):
  Calls Tryz.prog 362 #[.slice (some ⟨g,0,none⟩) n c,iv i,.int .i64 ((i:Int)+1)] w fun e w'=>e=.returned (.slice (some ⟨g,0,none⟩) (n - 1) c)∧OwnR w' B ⟨some ⟨g,0,none⟩,n - 1,c⟩ (l.eraseIdx i)∧Fr (fun k=>k=g) w w':=by
 have hi:i < n:=by omega
 have G:=(Gr.refl w).drew;have h:=OwnR.up h0 G;obtain⟨cur,hb⟩:∃cur,Bk w.drew g 38 cur:=Own.bk h rfl;obtain⟨news,n1,n2,n3,n4,n5⟩:=Own.del (cs:=Rv.cs) (Is:=fun w (r:Rv) (q:Q)=>r.Is w q) (k:=3) Rv.len Rv.one h hi (fun W' F p a hp=>Rv.Is.tf' hp F hb) (by decide);have hcap:n≤c:=by
  obtain⟨ts,t1,_⟩:=h;exact (row_there t1).2.2
 clear h h0 hb cur;obtain⟨i0,hi0⟩:∃i0,Tryz.prog.info? 38=some i0:=Option.isSome_iff_exists.1 (by kernel_rfl);have hs0:i0.size=3:=by
  have h9:(Tryz.prog.info? 38).map (·.size)=some 3:=by kernel_rfl
  rw[hi0] at h9;injection h9
 have hu:Tryz.prog.underlying 31=some (.slice 38):=by kernel_rfl
 obtain⟨q,hq⟩:∃q,n=i+1+q:=⟨n - (i+1),by omega⟩;subst hq;rw[show i+1+q - 1 - i=q from by omega] at n1;rw[show i+1+q - 1=i+q from by omega] at n5 ⊢;have n6:∀j,j < 3→((w.drew.setCells g (i*3) news).cell? ⟨g,(i+q)*3+j,none⟩).isSome=true∧(w.drew.setCells g (i*3) news).frozen? ⟨g,(i+q)*3+j,none⟩=false:=fun j hj=>n4 _ _ (.inr rfl) (by omega)
 have hap:∀ty,(Builtin.append_ #[31,31] ty #[.slice (some ⟨g,0,none⟩) i c,.slice (some ⟨g,(i+1)*3,none⟩) q (c - (i+1))]).run Tryz.prog w.drew=.ok (.slice (some ⟨g,0,none⟩) (i+q) c) (w.drew.setCells g (i*3) news):=fun ty=>by
  have h9:=run_append_room_cells (P:=Tryz.prog) w.drew 31 ty 38 i0 hu hi0 g 0 i c ⟨g,(i+1)*3,none⟩ q (c - (i+1)) news (by rw[n1,hs0]) (fun j u hj=>by rw[Addr.add_mid];exact n2 j u hj) n3 (by omega) (fun j hj=>by rw[Nat.zero_add,hs0];exact (n4 _ _ (.inl rfl) (by rw[n1] at hj;omega)).1) (fun j hj=>by rw[Nat.zero_add,hs0];exact (n4 _ _ (.inl rfl) (by rw[n1] at hj;omega)).2);rw[Nat.zero_add,hs0] at h9;exact h9
 have hcl:∀ty cc,(Builtin.clear_ #[31] ty #[.slice (some ⟨g,(i+q)*3,none⟩) (i+1+q - (i+q)) cc]).run Tryz.prog (w.drew.setCells g (i*3) news)=.ok (.tuple #[]) ((w.drew.setCells g (i*3) news).setCells g ((i+q)*3) [.bool false,Nl,Nl]):=fun ty cc=>by
  rw[show i+1+q - (i+q)=1 from by omega];exact run_clrR _ ty g _ cc n6
 have H5:=I n5;have HA:=I hap;have hcl9:=hcl;have HG:=I G;have hi9:i < 100000:=by omega
 have b1:((i:Int) == (i:Int)+1)=false:=beq_eq_false_iff_ne.2 (by omega);have b2:¬(i:Int)=(i:Int)+1:=by omega
 have b3:i≤c:=by omega
 have b4:i+1≤c:=by omega
 have b6:¬c=i+1:=by omega
 have b7:(i:Int)+1≤(i:Int)+1+(q:Int):=by omega
 have b5:(0:Int)≤(i:Int)+1:=by omega
 clear n1 n2 n3 n4 n5 n6 hap hcl hi G;go_enter Tryz.func362,Tryz.ntmps362;go_upto_region 5 with fail;refine wp_region_E (fun _=>True) (by kernel_rfl) ?_;show anyE _ _ _ _ 8 _ _ _;generalize w.drew=v0 at*;refine anyE.tk 0 trivial ?_;refine anyE.tk 1 trivial ?_;refine anyE.tk 2 trivial ?_;refine anyE.tk 3 trivial ?_;refine anyE.tk 4 trivial ?_;refine anyE.tk 5 trivial ?_;refine anyE.k 6 fun K hK=>?_
 refine Lib.wp_append_run _ _ _ 31 31 (by rfl) _ _ (by rfl) (by rfl) _ _ (HA.out _) ?_;refine hK.out _ _ ⟨Or.inl (trivial),?_⟩;clear hK K;refine ptt ?_;refine anyE.tk 7 trivial ?_;refine anyE.done (by kernel_rfl) ?_;go_wp2;go_ret;obtain⟨x1,x2⟩:=H5.out [.bool false,Nl,Nl] rfl;exact⟨rfl,x1,HG.fr_ext x2⟩
def cmpZ (a b:Int):Int:=if a < b then -1 else if b < a then 1 else 0
def orL:List Int→Int
 | []=>0
 | x::r=>if x=0 then orL r else x
def cmpRw (a b:Rw):Int:=orL [cmpZ a.kind b.kind,cmpZ a.index b.index,cmpZ a.lo b.lo,cmpZ a.hi b.hi]
theorem isnan_any (w:World) (x:Int):
  Calls Tryz.prog 346 #[.int .i64 x] w fun e w'=>e=.returned (.bool false)∧Gr w w':=by
 have HG:=I (Gr.refl w);go_enter Tryz.func346,Tryz.ntmps346;go_upto_region 1 with fail;have e1:(x != x)=false:=by simp
 go_wp2;go_ret;exact⟨rfl,HG.out⟩
theorem cmpc_any (w:World) (a b:Int):
  Calls Tryz.prog 285 #[.int .i64 a,.int .i64 b] w fun e w'=>e=.returned (.int .i64 (cmpZ a b))∧Gr w w':=by
 have HG:=I (Gr.refl w);go_enter Tryz.func285,Tryz.ntmps285;go_wp2_with fail;refine cm0 (isnan_any w a) fun w1 G=>?_
 replace HG:=HG.tr G

 go_wp2_with fail;refine cm0 (isnan_any w1 b) fun w2 G=>?_
 replace HG:=HG.tr G

 by_cases h1:a < b
 ·have d1:=dt h1;have HE:Hid (cmpZ a b=-1):=if_pos h1;go_wp2;go_ret;exact⟨by rw[HE.out];rfl,HG.out⟩
 ·have d1:=df h1;by_cases h2:b < a
  ·have d2:=dt h2;have HE:Hid (cmpZ a b=1):=(if_neg h1).trans (if_pos h2);go_wp2;go_ret;exact⟨by rw[HE.out];rfl,HG.out⟩
  ·have d2:=df h2;have HE:Hid (cmpZ a b=0):=(if_neg h1).trans (if_neg h2);go_wp2;go_ret;exact⟨by rw[HE.out];rfl,HG.out⟩
theorem or_any (w:World) (z:Sv) (l:List Int) (hz:z.Is w 1 (l.map (Value.int .i64))) (hn:z.n≤1000):
  Calls Tryz.prog 367 #[z.v] w fun e w'=>e=.returned (.int .i64 (orL l))∧Gr w w':=by
 obtain⟨zA,zn,zc⟩:=z;have hl:l.length=zn:=by have:=hz.len;rw[List.length_map] at this;simpa using this
 have HG:=I (Gr.refl w);have HZ:=I hz;have HL:=I hl;have HN:=I hn;clear hz hl hn;go_enter Tryz.func367,Tryz.ntmps367;go_wp2_with fail;go_loopw [2,8] (fun s0 s1 wr=>∃(k:Nat),s0=.int .i64 0∧s1=.int .i64 k∧k≤zn∧Hid (orL (l.drop k)=orL l)∧Hid (Gr w wr)) (fun _ i _=>zn - (intOf i).toNat)
 case atStart=>exact⟨0,rfl,rfl,nq _,rfl,HG⟩
 case round=>
  clear HG;obtain⟨k,rfl,rfl,hr2,HC,HG⟩:=hrel;by_cases hkn:k < zn
  ·obtain⟨s,hs⟩:∃s,l[k]?=some s:=⟨_,ge (by rw[HL.out];exact hkn)⟩;obtain⟨ad,hA,_,d0⟩:=(Sv.Is.gr HZ HG).look (i:=k) (u:=.int .i64 s) (by rw[List.getElem?_map,hs];rfl);simp only at hA;subst hA;have hm9:k < 1000:=by have:=HN.out;omega
   rw[show l.drop k=s::l.drop (k+1) from by rw[List.drop_eq_getElem?_toList_append,hs];rfl,orL] at HC;clear hs;by_cases hv:s=0
   ·have e1:(s != 0)=false:=by rw[hv];rfl
    rw[if_pos hv] at HC;go_wp2;go_roundw
    ·exact⟨k+1,rfl,by go_num,by omega,HC,HG⟩
    ·simp[intOf];omega
   ·have e1:(s != 0)=true:=by simpa using hv
    rw[if_neg hv] at HC;go_wp2;go_ret;exact⟨by rw[← HC.out];rfl,HG.out⟩
  ·obtain rfl:k=zn:=by omega
   rw[List.drop_eq_nil_of_le (by rw[HL.out];exact nr _)] at HC;go_wp2;go_ret;exact⟨by rw[← HC.out];rfl,HG.out⟩
theorem comparer_any (w:World) (a b:Rw):
  Calls Tryz.prog 311 #[.agg #[.int .i64 a.kind,.int .i64 a.index,.int .i64 a.lo,.int .i64 a.hi],.agg #[.int .i64 b.kind,.int .i64 b.index,.int .i64 b.lo,.int .i64 b.hi]] w fun e w'=>e=.returned (.int .i64 (cmpRw a b))∧Gr w w':=by
 go_enter Tryz.func311,Tryz.ntmps311;go_upto_region 1 with fail;refine nw2h fun W HG D_p D_q=>?_
 have p_:=D_p.c4;have q_:=D_q.c4;generalize w.heap.size+1=q at*;refine wpr ?_;have kc:=I fun W' (G:Gr W.drew W')=>ai (G.kb D_p).c4 <| (G.kb D_q).c4
 have hst:∀p∈([(4,fun v _=>v=.int .i64 (cmpZ a.kind b.kind)),(9,fun v _=>v=.int .i64 (cmpZ a.index b.index)),(14,fun v _=>v=.int .i64 (cmpZ a.lo b.lo)),(19,fun v _=>v=.int .i64 (cmpZ a.hi b.hi)),(20,fun v W=>∃x:Sv,v=x.v∧x.n=4∧x.Is W 1 ([cmpZ a.kind b.kind,cmpZ a.index b.index,cmpZ a.lo b.lo,cmpZ a.hi b.hi].map (Value.int .i64))),(21,fun v _=>v=.int .i64 (orL [cmpZ a.kind b.kind,cmpZ a.index b.index,cmpZ a.lo b.lo,cmpZ a.hi b.hi]))]:List (Nat×(Value→World→Prop))),∀(u:Value) (wA0 wB0:World),Gr W.drew wA0→Gr wA0 wB0→p.2 u wA0→p.2 u wB0:=by
  intro p hp u wA0 wB0 h0 G h;simp only[List.mem_cons,List.not_mem_nil,or_false] at hp;rcases hp with rfl | rfl | rfl | rfl | rfl | rfl
  ·exact h
  ·exact h
  ·exact h
  ·exact h
  ·obtain⟨x,e1,e2,e3⟩:=h;exact⟨x,e1,e2,Sv.Is.gr e3 G⟩
  ·exact h
 refine wpAny_walk (m:=1) (last:=#[true,true,true,true,true,true,true,true,true,true,true,true,true,true,true,true,true,true,true,true,true,true,false]) [0,1,2,3,4,5,6,7,8,9,10,11,12,13,14,15,16,17,18,19,20,21] [(4,fun v _=>v=.int .i64 (cmpZ a.kind b.kind)),(9,fun v _=>v=.int .i64 (cmpZ a.index b.index)),(14,fun v _=>v=.int .i64 (cmpZ a.lo b.lo)),(19,fun v _=>v=.int .i64 (cmpZ a.hi b.hi)),(20,fun v W=>∃x:Sv,v=x.v∧x.n=4∧x.Is W 1 ([cmpZ a.kind b.kind,cmpZ a.index b.index,cmpZ a.lo b.lo,cmpZ a.hi b.hi].map (Value.int .i64))),(21,fun v _=>v=.int .i64 (orL [cmpZ a.kind b.kind,cmpZ a.index b.index,cmpZ a.lo b.lo,cmpZ a.hi b.hi]))] (by kernel_rfl) (by decide) (by kernel_rfl) hst ?_;clear hst;iterate 4 refine .tk ?_
 refine .dk (fun W1 G1 F1=>cmpc_any W1 a.kind b.kind) ?_;rintro _ ⟨_,-,-,rfl⟩;iterate 4 refine .tk ?_
 refine .dk (fun W1 G1 F1=>cmpc_any W1 a.index b.index) ?_;rintro _ ⟨_,-,-,rfl⟩;iterate 4 refine .tk ?_
 refine .dk (fun W1 G1 F1=>cmpc_any W1 a.lo b.lo) ?_;rintro _ ⟨_,-,-,rfl⟩;iterate 4 refine .tk ?_
 refine .dk (fun W1 G1 F1=>cmpc_any W1 a.hi b.hi) ?_;rintro _ ⟨_,-,-,rfl⟩;refine .dc (fun W1 G1 F1=>?_) ?_
 ·obtain⟨p_,q_⟩:=kc.out W1 G1;refine dov ?_;exact⟨(Gr.refl W1).alloc _,⟨some ⟨W1.heap.size,0,none⟩,4,4⟩,rfl,rfl,⟨rfl,nr _,(by show (4:Nat)≤_;decide),(fun e=>by cases e),(Bk.made W1 3 #[.int .i64 (cmpZ a.kind b.kind),.int .i64 (cmpZ a.index b.index),.int .i64 (cmpZ a.lo b.lo),.int .i64 (cmpZ a.hi b.hi)]).sees ⟨[],rfl⟩⟩⟩
 rintro _ ⟨_,-,-,⟨z4,rfl,-⟩⟩;refine .dk (fun W1 G1 F1=>by have f4:=lk F1 4;have f4:=(show z4.n=4∧z4.Is W1 1 ([cmpZ a.kind b.kind,cmpZ a.index b.index,cmpZ a.lo b.lo,cmpZ a.hi b.hi].map (Value.int .i64)) from by obtain⟨⟨xA,xn,xc⟩,e1,e2,e3⟩:=f4;obtain⟨yA,yn,yc⟩:=z4;simp only[Sv.v,Value.slice.injEq] at e1;obtain⟨rfl,rfl,rfl⟩:=e1;exact⟨e2,e3⟩);exact or_any W1 z4 [cmpZ a.kind b.kind,cmpZ a.index b.index,cmpZ a.lo b.lo,cmpZ a.hi b.hi] f4.2 (by rw[f4.1];decide)) ?_;rintro _ ⟨_,-,-,rfl⟩;refine .done fun W1 G1 F1=>?_
 have hkind:=lh F1 0;have hindex:=lh F1 1;have hlo:=lh F1 2;have hhi:=lh F1 3;have hz4:=lh F1 4;have hor:=lh F1 5;replace kc:=kc.out W1 G1;clear F1 p_ q_;have GB:=G1.od;replace HG:=HG.tr GB;clear GB G1 hkind hindex hlo hhi hz4 hor kc;refine wo 22 ?_;refine wpe ?_;go_wp2;go_ret;exact⟨rfl,HG.out⟩
abbrev OwnM (w:World) (B:Nat) (x:Sv) (l:List Mm):Prop:=Own Mv.cs Mv.Is 310 7 w B x l
theorem OwnM.up {w w':World} {B:Nat} {x:Sv} {l:List Mm} (h:OwnM w B x l) (G:Gr w w'):OwnM w' B x l:=Own.gr h (fun _ _ ha=>ha.gr G) G
theorem OwnM.mults {w:World} {B:Nat} {x:Sv} {l:List Mm} (h:OwnM w B x l):Mults w x l:=h.rows (by decide)
theorem OwnM.st {w w':World} {B p t:Nat} {x:Sv} {l:List Mm} {us:Array Value} (h:OwnM w B x l) (F:Fr (fun b=>b=p) w w') (hb:Bk w p t us) (h0:t≠310:=by decide) (h1:t≠300:=by decide):OwnM w' B x l:=
 Own.go h (fun m a ha=>ha.stB F hb h1) fun b hb'=>F.keep b (h.lt b hb').2 fun e=>h.ne hb h0 (e▸hb')
theorem OwnM.stEl {w W':World} {B g n c:Nat} {l:List Mm} (h:OwnM w B ⟨some ⟨g,0,none⟩,n,c⟩ l) (F:Fr (fun x=>x=g) w W') (p:Mv) (a:Mm) (hp:p.Is w a):p.Is W' a:=by
 obtain⟨ts,t1,_⟩:=h;obtain⟨bs,hb⟩:=rw_bk t1 g rfl;exact hp.stB F hb
def sink:Nat→List Mm→List Mm
 | 0,l=>l
 | j+1,l=>match l[j+1]?,l[j]? with
  | some a,some b=>if cmpRw a.1 b.1 < 0 then sink j ((l.set (j+1) b).set j a) else l
  | _,_=>l
def insGo:Nat→Nat→List Mm→List Mm
 | 0,_,l=>l
 | m+1,i,l=>insGo m (i+1) (sink i l)
def sortM (l:List Mm):List Mm:=insGo (l.length - 1) 1 l
theorem sink_lt {j:Nat} {l:List Mm} {a b:Mm} (ha:l[j+1]?=some a) (hb:l[j]?=some b) (h:cmpRw a.1 b.1 < 0):sink (j+1) l=sink j ((l.set (j+1) b).set j a):=by
 rw[sink,ha,hb];simp only[h,if_true]
theorem sink_ge {j:Nat} {l:List Mm} {a b:Mm} (ha:l[j+1]?=some a) (hb:l[j]?=some b) (h:¬cmpRw a.1 b.1 < 0):sink (j+1) l=l:=by
 rw[sink,ha,hb];simp only[h,if_false]
theorem cneg_any (w:World) (m:Mv) (x:Mm) (hm:m.Is w x) (hs:0≤x.2.sign) (hc:x.2.Sm):
  Calls Tryz.prog 308 #[.agg #[.int .i64 m.row.kind,.int .i64 m.row.index,.int .i64 m.row.lo,.int .i64 m.row.hi,.bool m.coef.neg,.slice m.coef.num.A m.coef.num.n m.coef.num.c,.slice m.coef.den.A m.coef.den.n m.coef.den.c]] w fun e w'=>e=.returned (.bool false)∧Gr w w':=by
 have HS:=I hs;have HC:=I hc;clear hs hc;go_enter Tryz.func308,Tryz.ntmps308;go_wp2_with fail;refine nw1hc fun W HG D_p=>?_
 have HM:=I ((hm).gr HG);clear hm;have p_:=D_p.c7;refine cm0 (sign_any W m.coef x.2 HM.coef (nt HC.len (by decide))) fun w1 G=>?_
 replace D_p:=G.hb D_p;replace HG:=HG.tr G;clear p_;have p_:=D_p.c7;have d1:decide (x.2.sign < 0)=false:=df (by have:=HS.out;omega);go_wp2;go_ret;exact⟨rfl,HG.out⟩
theorem cidx_any (w:World) (l:Sv) (xs:List Mm) (hl:Mults w l xs) (hx:∀x∈xs,0≤x.2.sign∧x.2.Sm):
  Calls Tryz.prog 365 #[.slice l.A l.n l.c,.func (.func 308) #[] #[]] w fun e w'=>e=.returned (.int .i64 (-1))∧Gr w w':=by
 obtain⟨A,n,c⟩:=l;have hn:xs.length=n:=hl.len;have hm:n≤9223372036854775807:=(by obtain⟨_,h1,_⟩:=hl;exact nt h1.cap h1.max);have HG:=I (Gr.refl w);have HL:=I hl;have HX:=I hx;have HN:=I hn;have HM9:=I hm;clear hl hx hn hm;go_enter Tryz.func365,Tryz.ntmps365;go_wp2_with fail;go_loopw [8] (fun s0 wr=>∃(k:Nat),s0=.int .i64 k∧k≤n∧Hid (Gr w wr)) (fun i _=>n - (intOf i).toNat)
 case atStart=>exact⟨0,rfl,nq _,HG⟩
 case round=>
  clear HG;obtain⟨k,rfl,hr1,HG⟩:=hrel;by_cases hkn:k < n
  ·obtain⟨q,hq⟩:∃q,xs[k]?=some q:=⟨_,ge (by rw[HN.out];exact hkn)⟩;obtain⟨m,ad,hm,hA,d0,d1,d2,d3,d4,d5,d6⟩:=(HL.gr HG).at hq;simp only at hA;subst hA;have hm9:k < 9223372036854775807:=nk hkn HM9;have hq9:=HX.out q (mg hq);have HC:=I (cneg_any wr m q hm hq9.1 hq9.2);have hr:=hm.row;rw[hr] at HC;clear hq hm hq9 hr;go_wp2_with fail;refine cm0 (HC.out) fun w1 G=>?_
   replace HG:=HG.tr G;clear HC d0 d1 d2 d3 d4 d5 d6;go_wp2;go_roundw
   ·exact⟨k+1,by go_num,by omega,HG⟩
   ·simp[intOf];omega
  ·obtain rfl:k=n:=by omega
   go_wp2;go_ret;exact⟨rfl,HG.out⟩
theorem ccon_any (w:World) (l:Sv) (xs:List Mm) (hl:Mults w l xs) (hx:∀x∈xs,0≤x.2.sign∧x.2.Sm):
  Calls Tryz.prog 307 #[l.v,.func (.func 308) #[] #[]] w fun e w'=>e=.returned (.bool false)∧Gr w w':=by
 have HG:=I (Gr.refl w);have H1:=I (cidx_any w l xs hl hx);clear hl hx;go_enter Tryz.func307,Tryz.ntmps307;go_wp2_with fail;refine cm0 (H1.out) fun w1 G=>?_
 replace HG:=HG.tr G

 go_wp2;go_ret;exact⟨rfl,HG.out⟩
theorem Mults.cloneO (w:World) (x:Sv) (l:List Mm) (h:Mults w x l) (hn:x.n≤1000000):
  Calls Tryz.prog 265 #[x.v] w fun e w'=>∃y:Sv,e=.returned y.v∧OwnM w' w.heap.size y l∧Gr w w':=by
 obtain⟨ts,h,t2,t3,_⟩:=h;have h1:∀u∈(ts.flatMap fun p=>Mv.cs p.1),u.oneCell'=true:=fun u hu=>by obtain⟨p,_,hp⟩:=List.mem_flatMap.1 hu;exact Mv.one _ u hp
 obtain⟨A,n,c⟩:=x;simp only at hn;have heq:=fun (W:World) (A:Option Addr) (n c:Nat)=>Lib.run_eql_slice_nil (P:=Tryz.prog) W 48 310 A n c 0 0 elemM.ht
 rcases A with _ | ad
 ·obtain⟨h9,h8⟩:=h.mk0 rfl;injection h9 with _ h7 h6;subst h7 h6;have h5:ts=[]:=by
   cases ts with
   | nil=>rfl
   | cons p r=>simp[List.flatMap_cons,Mv.cs] at h8
  subst h5;have HT:=I t2;clear h h1 t2 t3 h8;go_enter Tryz.func265,Tryz.ntmps265;go_wp2;go_ret;exact⟨Sv.none,rfl,by rw[HT.out];exact Own.nil _ _,Gr.refl w⟩
 ·have HO:Hid ((w.alloc (.cells #[] 310)).ownsRow w.heap.size 310 7 (.slice (some ⟨w.heap.size,0,none⟩) 0 0) 0 []):=⟨rfl,.inr ⟨w.heap.size,0,#[],rfl,nr _,Bk.made _ _ _,nr _,nq _,rfl,rfl⟩⟩;have HC:Hid (∀j u,(ts.flatMap fun p=>Mv.cs p.1)[j]?=some u→(w.alloc (.cells #[] 310)).cell? (ad.add j)=some u):=(h.gr ((Gr.refl w).alloc _)).cells rfl;have HU:=I h1;have H1:=I h.len;have HT:=I t2;have HS:=I t3;simp only at H1;clear h h1 t2 t3;go_enter Tryz.func265,Tryz.ntmps265;go_wp2_with (at_builtin;refine wpList_appS elemM rfl _ _ rfl w.heap.size (.slice (some ⟨w.heap.size,0,none⟩) 0 0) 0 [] rfl HO.out ad n c (ts.flatMap fun p=>Mv.cs p.1) rfl H1.out HC.out HU.out (by unfold maxLen;omega) (by omega) (by simp) ?_;intro v' w' h2 h3 h5);go_wp2;go_ret;rw[Nat.zero_add,List.nil_append] at h2;have G:=Gr.of_own h3;obtain⟨yA,yc,e9⟩:=rw_form h2;subst e9;exact⟨⟨yA,n,yc⟩,rfl,⟨ts,h2,HT.out,fun p hp=>(HS.out p hp).gr G⟩,G⟩
theorem ccmp_any (w:World) (m n:Mv):
  Calls Tryz.prog 310 #[.agg #[.int .i64 m.row.kind,.int .i64 m.row.index,.int .i64 m.row.lo,.int .i64 m.row.hi,.bool m.coef.neg,.slice m.coef.num.A m.coef.num.n m.coef.num.c,.slice m.coef.den.A m.coef.den.n m.coef.den.c],.agg #[.int .i64 n.row.kind,.int .i64 n.row.index,.int .i64 n.row.lo,.int .i64 n.row.hi,.bool n.coef.neg,.slice n.coef.num.A n.coef.num.n n.coef.num.c,.slice n.coef.den.A n.coef.den.n n.coef.den.c]] w fun e w'=>e=.returned (.int .i64 (cmpRw m.row n.row))∧Gr w w':=by
 go_enter Tryz.func310,Tryz.ntmps310;go_wp2_with fail;refine nw2hc fun W HG D_p D_q=>?_
 have p_:=D_p.c7;have q_:=D_q.c7;generalize w.heap.size+1=q at*;refine cm0 (comparer_any W m.row n.row) fun w1 G=>?_
 obtain⟨D_p,D_q,HG⟩:=G.u3 D_p D_q HG;clear p_ q_;have p_:=D_p.c7;have q_:=D_q.c7;go_wp2;go_ret;exact⟨rfl,HG.out⟩
theorem csort1_any (w v:World) (B g n c:Nat) (ad:Addr) (l:List Mm) (had:ad=⟨g,0,none⟩) (ho:OwnM v B ⟨some ad,n,c⟩ l) (hB:w.heap.size≤B) (hG:Gr w v) (hn:n≤1000) (h0:0 < n):
  Calls Tryz.prog 419 #[.slice (some ad) n c,.int .i64 0,.int .i64 n,.func (.func 310) #[] #[]] v fun e w'=>e=.returned (.tuple #[])∧OwnM w' B ⟨some ad,n,c⟩ (sortM l)∧Gr w w':=by
 have hln:l.length=n:=ho.len Mv.len (by decide);have hBg:w.heap.size≤g:=nt hB (ho.lt g (by rw[had];rfl)).1;have HG:=I hG;have HAD:=I had;have HN:=I hn;have HO:=I ho;have HLN:=I hln;have HBG:=I hBg;clear had ho hn hG hln hBg hB;go_enter Tryz.func419,Tryz.ntmps419;go_wp2_with fail;go_loopw [8] (fun s0 wr=>∃(i:Nat) (l1:List Mm),s0=.int .i64 i∧1≤i∧i≤n∧Hid (insGo (n - i) i l1=sortM l)∧Hid (l1.length=n)∧Hid (OwnM wr B ⟨some ad,n,c⟩ l1)∧Hid (Gr w wr)) (fun i _=>n - (intOf i).toNat)
 case atStart=>exact⟨1,l,rfl,nr _,h0,(by rw[← HLN.out];rfl),HLN.out,HO,HG⟩
 case round=>
  clear HO HG;obtain⟨i,l1,rfl,hr1,hr2,HS,HL1,HO,HG⟩:=hrel;by_cases hin:i < n
  ·have d1:decide ((i:Int) < (n:Int))=true:=dt (by omega);have HS2:Hid (insGo (n - (i+1)) (i+1) (sink i l1)=sortM l):=by
    have h9:=HS.out;rw[show n - i=(n - (i+1))+1 from by omega,insGo] at h9;exact I h9
   clear HS;have hin9:=I hin;have hi8:i < 1000:=by have:=HN.out;omega
   go_wp2_with fail;go_loopw [9] (fun s0 wr=>∃(J:Nat) (l2:List Mm),s0=.int .i64 J∧J≤i∧Hid (insGo (n - (i+1)) (i+1) (sink J l2)=sortM l)∧Hid (l2.length=n)∧Hid (OwnM wr B ⟨some ad,n,c⟩ l2)∧Hid (Gr w wr)) (fun j _=>(intOf j).toNat)
   case atStart=>exact⟨i,l1,rfl,nr _,HS2,HL1,HO,HG⟩
   case round=>
    clear HO HG;obtain⟨J,l2,rfl,hr1,HS,HL2,HO,HG⟩:=hrel;rcases Nat.eq_zero_or_pos J with hJ0 | hJ0
    ·subst hJ0;have d2:decide (((0:Nat):Int) > 0)=false:=by decide
     go_upto_region 4 with fail;refine wpr ?_;show wpAny _ _ _ _ 17 _ _ _;refine wg 0 (tf 17 0) [0,1,2,3,4,5,6,7,8,9,10,11,12,13,14,15,16] [] ?_;iterate 17 refine .tk ?_
     refine .done fun W1 G1 F1=>?_
     clear F1;refine wpe ?_;have GB:=G1.od;replace HO:=I (OwnM.up HO GB);replace HG:=HG.tr GB;clear GB G1;go_wp2;refine pex ?_;go_wp2;go_roundw
     ·exact⟨i+1,l2,by go_num,by omega,by have:=hin9.out;omega,HS,HL2,HO,HG⟩
     ·have:=hin9.out;simp[intOf];omega
    ·obtain⟨j,hJ⟩:∃j,J=j+1:=⟨J - 1,by omega⟩;have d2:decide ((J:Int) > 0)=true:=dt (by omega);have hJ9:J < n:=by have:=hin9.out;omega
     have hj9:j < n:=by omega
     obtain⟨xa,hxa⟩:∃q,l2[J]?=some q:=⟨_,ge (by rw[HL2.out];exact hJ9)⟩;obtain⟨xb,hxb⟩:∃q,l2[j]?=some q:=⟨_,ge (by rw[HL2.out];omega)⟩;obtain⟨ma,ad1,hma,hA,a0,a1,a2,a3,a4,a5,a6⟩:=HO.mults.at hxa;simp only[oq] at hA;subst hA;obtain⟨mb,ad2,hmb,hA,b0,b1,b2,b3,b4,b5,b6⟩:=HO.mults.at hxb;simp only[oq] at hA;subst hA;rw[← hma.row] at a0 a1 a2 a3;rw[← hmb.row] at b0 b1 b2 b3;have HMA:=I hma;have HMB:=I hmb;have HXA:=I hxa;have HXB:=I hxb;have hm9:J < 1000:=by have:=HN.out;omega
     have hw1:IntKind.i64.wrap ((J:Int) - 1)=(j:Int):=by rw[wi _ (by omega)];omega
     have HJ:=I hJ;have d2b:decide ((0:Int) < (J:Int))=true:=dt (by omega);clear hma hmb hxa hxb hJ;go_upto_region 4 with fail;refine wpr ?_;have kc:=I fun W' (G:Gr wr.drew W')=>G.kk a0 <| G.kk a1 <| G.kk a2 <| G.kk a3 <| G.kk a4 <| G.kk a5 <| G.kk a6 <| G.kk b0 <| G.kk b1 <| G.kk b2 <| G.kk b3 <| G.kk b4 <| ai (G.keep b5) (G.keep b6)
     refine wg 0 (tf 17 0) [0,1,2,3,4,5,6,7,8,9,10,11,12,13,14,15,16] [(14,fun v _=>v=.int .i64 (cmpRw ma.row mb.row))] ?_;iterate 14 refine .tk ?_
     refine .dk (fun W1 G1 F1=>ccmp_any W1 ma mb) ?_;rintro _ ⟨_,-,-,rfl⟩;iterate 2 refine .tk ?_
     refine .done fun W1 G1 F1=>?_
     have hcm:=lh F1 0;clear F1;have kc1:=kc.out W1 G1;clear kc a0 a1 a2 a3 a4 a5 a6 b0 b1 b2 b3 b4 b5 b6;obtain⟨a0,a1,a2,a3,a4,a5,a6,b0,b1,b2,b3,b4,b5,b6⟩:=kc1;refine wpe ?_;have GB:=G1.od;replace HO:=I (OwnM.up HO GB);obtain⟨HMA,HMB,HG⟩:=GB.u3 HMA HMB HG;clear GB G1 hcm;by_cases hc9:cmpRw ma.row mb.row < 0
     ·have d3:=dt hc9;have HSK:Hid (sink J l2=sink j ((l2.set J xb).set j xa)):=I (by have e9:=HJ.out;subst e9;exact sink_lt HXA HXB (by rw[← HMA.row,← HMB.row];exact hc9));rw[HSK.out] at HS;clear HSK;go_upto_region 6 with fail;have gd:=(Gr.refl W1).drew;have hS1:(fun W'=>W'.cell? (ad.add (J*7))=some (.int .i64 ma.row.kind)∧W'.cell? ⟨(ad.add (J*7)).block,(ad.add (J*7)).off+1,none⟩=some (.int .i64 ma.row.index)∧W'.cell? ⟨(ad.add (J*7)).block,(ad.add (J*7)).off+2,none⟩=some (.int .i64 ma.row.lo)∧W'.cell? ⟨(ad.add (J*7)).block,(ad.add (J*7)).off+3,none⟩=some (.int .i64 ma.row.hi)∧W'.cell? ⟨(ad.add (J*7)).block,(ad.add (J*7)).off+4,none⟩=some (.bool ma.coef.neg)∧W'.cell? ⟨(ad.add (J*7)).block,(ad.add (J*7)).off+5,none⟩=some ma.coef.num.v∧W'.cell? ⟨(ad.add (J*7)).block,(ad.add (J*7)).off+6,none⟩=some ma.coef.den.v∧W'.cell? (ad.add (j*7))=some (.int .i64 mb.row.kind)∧W'.cell? ⟨(ad.add (j*7)).block,(ad.add (j*7)).off+1,none⟩=some (.int .i64 mb.row.index)∧W'.cell? ⟨(ad.add (j*7)).block,(ad.add (j*7)).off+2,none⟩=some (.int .i64 mb.row.lo)∧W'.cell? ⟨(ad.add (j*7)).block,(ad.add (j*7)).off+3,none⟩=some (.int .i64 mb.row.hi)∧W'.cell? ⟨(ad.add (j*7)).block,(ad.add (j*7)).off+4,none⟩=some (.bool mb.coef.neg)∧W'.cell? ⟨(ad.add (j*7)).block,(ad.add (j*7)).off+5,none⟩=some mb.coef.num.v∧W'.cell? ⟨(ad.add (j*7)).block,(ad.add (j*7)).off+6,none⟩=some mb.coef.den.v) W1.drew:=⟨gd.keep a0,gd.keep a1,gd.keep a2,gd.keep a3,gd.keep a4,gd.keep a5,gd.keep a6,gd.keep b0,gd.keep b1,gd.keep b2,gd.keep b3,gd.keep b4,gd.keep b5,gd.keep b6⟩;clear a0 a1 a2 a3 a4 a5 a6 b0 b1 b2 b3 b4 b5 b6;replace HO:=I (OwnM.up HO gd);replace HMA:=I (HMA.gr gd);replace HMB:=I (HMB.gr gd);replace HG:=I (HG.trans gd);clear gd;refine wp_region_T [9,13] (fun _=>True) (fun W'=>W'.cell? (ad.add (J*7))=some (.int .i64 ma.row.kind)∧W'.cell? ⟨(ad.add (J*7)).block,(ad.add (J*7)).off+1,none⟩=some (.int .i64 ma.row.index)∧W'.cell? ⟨(ad.add (J*7)).block,(ad.add (J*7)).off+2,none⟩=some (.int .i64 ma.row.lo)∧W'.cell? ⟨(ad.add (J*7)).block,(ad.add (J*7)).off+3,none⟩=some (.int .i64 ma.row.hi)∧W'.cell? ⟨(ad.add (J*7)).block,(ad.add (J*7)).off+4,none⟩=some (.bool ma.coef.neg)∧W'.cell? ⟨(ad.add (J*7)).block,(ad.add (J*7)).off+5,none⟩=some ma.coef.num.v∧W'.cell? ⟨(ad.add (J*7)).block,(ad.add (J*7)).off+6,none⟩=some ma.coef.den.v∧W'.cell? (ad.add (j*7))=some (.int .i64 mb.row.kind)∧W'.cell? ⟨(ad.add (j*7)).block,(ad.add (j*7)).off+1,none⟩=some (.int .i64 mb.row.index)∧W'.cell? ⟨(ad.add (j*7)).block,(ad.add (j*7)).off+2,none⟩=some (.int .i64 mb.row.lo)∧W'.cell? ⟨(ad.add (j*7)).block,(ad.add (j*7)).off+3,none⟩=some (.int .i64 mb.row.hi)∧W'.cell? ⟨(ad.add (j*7)).block,(ad.add (j*7)).off+4,none⟩=some (.bool mb.coef.neg)∧W'.cell? ⟨(ad.add (j*7)).block,(ad.add (j*7)).off+5,none⟩=some mb.coef.num.v∧W'.cell? ⟨(ad.add (j*7)).block,(ad.add (j*7)).off+6,none⟩=some mb.coef.den.v) (by kernel_rfl) ?_;show anyT [9,13] _ _ _ _ _ 18 _ _ _;generalize W1.drew=W2 at*;refine anyT.tk 0 trivial ?_;refine anyT.tk 1 trivial ?_;refine anyT.tk 2 trivial ?_;refine anyT.tk 3 trivial ?_;refine anyT.tk 4 trivial ?_;refine anyT.tk 5 trivial ?_;refine anyT.tk 6 trivial ?_;refine anyT.tk 7 trivial ?_;refine anyT.tk 8 trivial ?_;refine anyT.tt 9 ⟨trivial,hS1⟩ ?_;refine anyT.tk 10 trivial ?_;refine anyT.tk 11 trivial ?_;refine anyT.tk 12 trivial ?_;refine anyT.tt 13 ⟨trivial,hS1⟩ ?_;refine anyT.tk 14 trivial ?_;clear hS1;refine anyT.k 15 fun K hK=>?_
      refine doesAt_wp (K:=fun v W'=>v=undef∧OwnM W' B ⟨some ad,n,c⟩ (l2.set J xb)∧Fr (fun x=>x=g) W2 W') (doesAt_elA rfl Mv.len HAD.out HO.out J (a0:=xa) HXA.out mb xb (by rfl) (by rfl) HMB.out (fun W' F p a hp=>OwnM.stEl (HAD.out▸HO.out) F p a hp) (by kernel_rfl) (Mv.one _) (fun W' h1 h2=>⟨rfl,h1,h2⟩)) ?_;rintro v W3 ⟨rfl,O2,F2⟩;have HMA2:=I (OwnM.stEl (HAD.out▸HO.out) F2 _ _ HMA);replace HG:=HG.fa F2 HBG;have HX3:Hid ((l2.set J xb)[j]?=some xb):=I (by rw[List.getElem?_set_ne (by have:=HJ.out;omega)];exact HXB.out);refine hK.out _ _ ⟨⟨trivial,fun _=>Or.inr (by kernel_rfl)⟩,?_⟩;clear hK K;refine ptt ?_;refine anyT.tk 16 trivial ?_;refine anyT.k 17 fun K hK=>?_
      refine doesAt_wp (K:=fun v W'=>v=undef∧OwnM W' B ⟨some ad,n,c⟩ ((l2.set J xb).set j xa)∧Fr (fun x=>x=g) W3 W') (doesAt_elA rfl Mv.len HAD.out O2 j (a0:=xb) HX3.out ma xa (by rfl) (by rfl) HMA2.out (fun W' F p a hp=>OwnM.stEl (HAD.out▸O2) F p a hp) (by kernel_rfl) (Mv.one _) (fun W' h1 h2=>⟨rfl,h1,h2⟩)) ?_;rintro v W4 ⟨rfl,O3,F3⟩;replace HG:=HG.fa F3 HBG;have HO4:=I O3;refine hK.out _ _ ⟨⟨trivial,fun _=>Or.inr (by kernel_rfl)⟩,?_⟩;clear hK K;refine ptt ?_;refine anyT.done (by kernel_rfl) ?_;go_wp2;go_roundw
      ·exact⟨j,(l2.set J xb).set j xa,by go_num,by have:=HJ.out;omega,HS,I (by rw[List.length_set,List.length_set];exact HL2.out),HO4,HG⟩
      ·have:=HJ.out;simp[intOf];omega
     ·have d3:=df hc9;have HSK:Hid (sink J l2=l2):=I (by have e9:=HJ.out;subst e9;exact sink_ge HXA HXB (by rw[← HMA.row,← HMB.row];exact hc9));rw[HSK.out] at HS;have hc8:0≤cmpRw ma.row mb.row:=by omega
      clear HSK HMA HMB;go_wp2;refine pex ?_;go_wp2;go_roundw
      ·exact⟨i+1,l2,by go_num,by omega,by have:=hin9.out;omega,HS,HL2,HO,HG⟩
      ·have:=hin9.out;simp[intOf];omega
  ·have d1:decide ((i:Int) < (n:Int))=false:=df (by omega);have HE:Hid (l1=sortM l):=by
    have h9:=HS.out;rw[show n - i=0 from by omega,insGo] at h9;exact I h9
   go_wp2;refine pex ?_
   first | (refine bodyPost_ret (results_none rfl _ _ _) rfl ?_) | (refine bodyPost_end (results_none rfl _ _ _) rfl ?_)
   exact⟨rfl,by rw[← HE.out];exact HO.out,HG.out⟩
def colF (m:Mm):Option Mm:=if 0 < (Q.add Q.zero m.2).sign then some (m.1,Q.add Q.zero m.2) else none
def colM (l:List Mm):List Mm:=(sortM l).filterMap colF
theorem colF_take {l:List Mm} {i:Nat} {s:Mm} (h:l[i]?=some s):(l.take (i+1)).filterMap colF=(l.take i).filterMap colF++(colF s).toList:=by
 rw[List.take_add_one,h,List.filterMap_append];rfl
def SzLe (n:Nat) (w:World):Prop:=n≤w.heap.size
theorem SzLe.gr {n:Nat} {w w':World} (h:SzLe n w) (G:Gr w w'):SzLe n w':=nt h G.size
theorem SzLe.st {n p t:Nat} {us:Array Value} {w w':World} (h:SzLe n w) (F:Fr (fun b=>b=p) w w') (_:Bk w p t us):SzLe n w':=nt h F.size
theorem SzLe.fr {X:Nat→Prop} {n:Nat} {w w':World} (h:SzLe n w) (F:Fr X w w'):SzLe n w':=nt h F.size
theorem rw4_ne {a b:Rw} (h:a≠b):a.kind=b.kind→a.index=b.index→a.lo=b.lo→¬a.hi=b.hi:=by
 intro h1 h2 h3 h4
 apply h
 cases a;cases b
 simp only at h1 h2 h3 h4;rw[h1,h2,h3,h4]
def Apart:List Mm→Prop
 | a::b::l=>b.1≠a.1∧Apart (b::l)
 | _=>True
theorem Apart.at:∀{l:List Mm} {i:Nat} {a b:Mm},Apart l→l[i]?=some a→l[i+1]?=some b→b.1≠a.1
 | [],i,a,b,_,h,_=>by simp at h
 | [c],0,a,b,_,h,k=>by simp at k
 | [c],i+1,a,b,_,h,k=>by simp at h
 | c::d::l,0,a,b,h,ha,hb=>by simp at ha hb;subst ha hb;exact h.1
 | c::d::l,i+1,a,b,h,ha,hb=>Apart.at (l:=d::l) h.2 (by simpa using ha) (by simpa using hb)
theorem csort0_any (w:World) (A:Option Addr) (c:Nat):
  Calls Tryz.prog 419 #[.slice A 0 c,.int .i64 0,.int .i64 0,.func (.func 310) #[] #[]] w fun e w'=>e=.returned (.tuple #[])∧Gr w w':=by
 have HG:=I (Gr.refl w);go_enter Tryz.func419,Tryz.ntmps419;go_wp2_with fail;refine wp_loop_rounds 1 ?_;rw[rounds_succ];go_wp2_with fail;refine pex ?_
 first | (refine bodyPost_ret (results_none rfl _ _ _) rfl ?_) | (refine bodyPost_end (results_none rfl _ _ _) rfl ?_)
 exact⟨rfl,HG.out⟩
theorem cstab_any (w v:World) (B:Nat) (x:Sv) (l:List Mm) (ho:OwnM v B x l) (hB:w.heap.size≤B) (hG:Gr w v) (hn:x.n < 20):
  Calls Tryz.prog 366 #[x.v,.int .i64 x.n,.func (.func 310) #[] #[]] v fun e w'=>e=.returned (.tuple #[])∧OwnM w' B x (sortM l)∧Gr w w':=by
 obtain⟨xA,xn,xc⟩:=x;simp only at hn;have HG:=I hG;have HO:=I ho;have HB:=I hB;clear ho hG hB;go_enter Tryz.func366,Tryz.ntmps366;go_wp2_with fail;refine wp_loop_rounds 1 ?_;rw[rounds_succ];go_wp2_with fail;rcases Nat.eq_zero_or_pos xn with h0 | h0
 ·subst h0;have hl:l=[]:=List.length_eq_zero_iff.1 (HO.len Mv.len (by decide));subst hl;refine cm0 (csort0_any v xA xc) fun w1 G=>?_
  replace HO:=I (HO.up G);replace HG:=HG.tr G

  go_wp2_with fail;refine wp_loop_rounds 1 ?_;rw[rounds_succ];go_wp2;refine pex ?_
  first | (refine bodyPost_ret (results_none rfl _ _ _) rfl ?_) | (refine bodyPost_end (results_none rfl _ _ _) rfl ?_)
  exact⟨rfl,HO.out,HG.out⟩
 ·have hl:l.length=xn:=HO.len Mv.len (by decide);obtain⟨g,c,e9,hg⟩:=Own.form HO Mv.len (by decide) (i:=0) (a:=l[0]) (ge _);rw[hl] at e9;injection e9 with e1 e2 e3;subst e1 e3;refine (csort1_any w v B g xn xc ⟨g,0,none⟩ l rfl HO HB HG (by omega) h0).mono ?_;rintro e w1 ⟨rfl,O,G⟩;replace HO:=I O;replace HG:=I G;clear G O;go_wp2_with fail;refine wp_loop_rounds 1 ?_;rw[rounds_succ];go_wp2;refine pex ?_
  first | (refine bodyPost_ret (results_none rfl _ _ _) rfl ?_) | (refine bodyPost_end (results_none rfl _ _ _) rfl ?_)
  exact⟨rfl,HO.out,HG.out⟩
theorem cstable_any (w v:World) (B:Nat) (x:Sv) (l:List Mm) (ho:OwnM v B x l) (hB:w.heap.size≤B) (hG:Gr w v) (hn:x.n < 20):
  Calls Tryz.prog 309 #[x.v,.func (.func 310) #[] #[]] v fun e w'=>e=.returned (.tuple #[])∧OwnM w' B x (sortM l)∧Gr w w':=by
 obtain⟨xA,xn,xc⟩:=x;simp only at hn;have HG:=I hG;have HO:=I ho;have HN:=I hn;have HB:=I hB;clear ho hG hB;go_enter Tryz.func309,Tryz.ntmps309;go_wp2_with fail;refine (cstab_any w v B ⟨xA,xn,xc⟩ l HO HB HG HN).mono ?_;rintro e w1 ⟨rfl,O,G⟩;replace HO:=I O;replace HG:=I G;clear G O;go_wp2;refine pex ?_
 first | (refine bodyPost_ret (results_none rfl _ _ _) rfl ?_) | (refine bodyPost_end (results_none rfl _ _ _) rfl ?_)
 exact⟨rfl,HO.out,HG.out⟩
theorem collectO_any (w:World) (x:Sv) (l:List Mm) (hx:Mults w x l) (hn:x.n < 20) (h0:∀m∈l,0≤m.2.sign∧m.2.Sm) (hS:∀m∈sortM l,m.2.Sm∧(Q.add Q.zero m.2).Sm) (hd:Apart (sortM l)):
  Calls Tryz.prog 235 #[.slice x.A x.n x.c] w fun e w'=>∃y:Sv,e=.returned (.tuple #[y.v,.int .i64 0])∧OwnM w' w.heap.size y (colM l)∧Gr w w':=by
 obtain⟨xA,xn,xc⟩:=x;simp only at hn;have hln:l.length=xn:=hx.len;have HG:=I (Gr.refl w);have HX:=I ((hx).gr HG.out);have HN:=I hn;change Hid _ at h0 hS;have HD:=I hd;have HLN:=I hln;clear hx hn hd hln;simp only[Sv.v] at*;go_enter Tryz.func235,Tryz.ntmps235;go_wp2_with fail;refine cm0 (ccon_any w ⟨xA,xn,xc⟩ l HX.out h0.out) fun w1 G=>?_
 replace HX:=I (HX.out.gr G);replace HG:=HG.tr G

 go_wp2_with fail;have HW1:=I HG.out.size;refine cm1 (Mults.cloneO w1 ⟨xA,xn,xc⟩ l HX.out (by have:=HN.out;show xn≤1000000;omega)) fun z w2 HO G=>?_
 replace HG:=HG.tr G

 obtain⟨zA,zn,zc⟩:=z;simp only[Sv.v];have hzn:zn=xn:=by have:=HO.out.len Mv.len (by decide);have:=HLN.out;simp only at *;omega
 subst hzn;clear HX;go_wp2_with fail;refine (cstable_any w w2 _ ⟨zA,zn,zc⟩ l HO.out HW1.out HG.out HN.out).mono ?_;rintro e wB ⟨rfl,O,G⟩;replace HO:=I O;replace HG:=I G;have HLE:=I (HO.out.len Mv.len (by decide));have HDJ:=I (fun b h=>(HO.out.lt b h).2);have HB5:Hid (SzLe wB.heap.size wB):=I (nr _);have LB0:=I HG.out.size;have HZ:Hid (OwnM wB wB.heap.size Sv.none (((sortM l).take 0).filterMap colF)):=I (Own.nil _ _);clear O G;go_wp2_with fail;go_loopw [5,6] (fun s0 s1 wr=>∃(i:Nat) (y:Sv),s0=.slice y.A y.n y.c∧s1=.int .i64 i∧i≤zn∧Hid (y.n≤i)∧Hid (OwnM wr w1.heap.size ⟨zA,zn,zc⟩ (sortM l))∧Hid (SzLe wB.heap.size wr)∧Hid (OwnM wr wB.heap.size y (((sortM l).take i).filterMap colF))∧Hid (Gr w wr)) (fun _ i _=>zn - (intOf i).toNat)
 case atStart=>exact⟨0,Sv.none,rfl,rfl,nq _,nr _,HO,HB5,HZ,HG⟩
 case round=>
  clear HO HB5 HZ HG;obtain⟨i,y,rfl,rfl,hr2,HYL,HO,HB5,HZ,HG⟩:=hrel;by_cases hin:i < zn
  ·obtain⟨s,hs⟩:∃q,(sortM l)[i]?=some q:=⟨_,ge (by have:=HLE.out;omega)⟩;have HSI:=I hs;have hz20:zn < 20:=HN.out;have HSS:=I (hS.out s (mg hs));clear hs;obtain⟨m0,ad,hm,hA,d0,d1,d2,d3,d4,d5,d6⟩:=HO.out.mults.at HSI.out;simp only[oq] at hA;subst hA;clear hm;have HS9:=HG.out.size;have N_sm:Hid (w.heap.size≤wr.heap.size+1):=I (Nat.le_succ_of_le HS9);have X_r_sm:=dnx (wr.heap.size) (wr.heap.size+1);clear HS9;go_wp2_with fail;refine nw2 fun w3 GB D_r D_sm=>?_
   replace HO:=I (OwnM.up HO.out GB);replace HB5:=I (HB5.out.gr GB);replace HZ:=I (OwnM.up HZ.out GB);replace HG:=HG.tr GB;clear GB;generalize wr.heap.size+1=sm at*;generalize wr.heap.size=r at*;by_cases hj:i+1 < zn
   ·obtain⟨s2,hs2⟩:∃q,(sortM l)[i+1]?=some q:=⟨_,ge (by have:=HLE.out;omega)⟩;have HS2:=I hs2;have HNE:=I (HD.out.at HSI.out hs2);have hj8:decide ((i:Int)+1 < (zn:Int))=true:=dt (by omega);have hj5:(0:Int)≤(i:Int)+1:=by omega
    have hj6:(i:Int)+1 < (zn:Int):=by omega
    clear hs2;obtain⟨m,ad,hm,hA,d0,d1,d2,d3,d4,d5,d6⟩:=HO.out.mults.at HSI.out;simp only[oq] at hA;subst hA;have HM:=I hm;clear hm;obtain⟨m2,ad,hm,hA,e0,e1,e2,e3,e4,e5,e6⟩:=HO.out.mults.at HS2.out;simp only[oq] at hA;subst hA;clear hm;refine wp_loop_rounds 2 ?_;rw[rounds_succ];go_upto_region 9 with fail;obtain⟨r_0,r_1,r_2,r_3⟩:=D_r.out.c4;refine wpr ?_;have kc:=I fun W' (G:Gr w3.drew W')=>G.kk r_0 <| G.kk r_1 <| G.kk r_2 <| G.kk r_3 <| G.kk d0 <| G.kk d1 <| G.kk d2 <| G.kk d3 <| G.kk d4 <| G.kk d5 <| G.kk d6 <| G.kk e0 <| G.kk e1 <| G.kk e2 <| G.kk e3 <| G.kk e4 <| G.kk e5 <| G.keep e6
    refine wg 0 (tf 13 0) [0,1,2,3,4,5,6,7,8,9,10,11,12] [] ?_;iterate 13 refine .tk ?_
    refine .done fun W1 G1 F1=>?_
    clear F1;have kc1:=kc.out W1 G1;clear kc r_0 r_1 r_2 r_3 d0 d1 d2 d3 d4 d5 d6 e0 e1 e2 e3 e4 e5 e6;obtain⟨r_0,r_1,r_2,r_3,d0,d1,d2,d3,d4,d5,d6,e0,e1,e2,e3,e4,e5,e6⟩:=kc1;refine wpe ?_;have GB:=G1.od;replace HO:=I (OwnM.up HO.out GB);replace HB5:=I (HB5.out.gr GB);replace HZ:=I (OwnM.up HZ.out GB);replace HM:=I (HM.out.gr GB);replace D_r:=GB.hb D_r;replace D_sm:=GB.hb D_sm;replace HG:=HG.tr GB;clear GB G1;obtain⟨v1,hW9⟩:∃x,x=W1:=⟨_,rfl⟩;subst hW9;go_upto_region 11 with fail;have sm_:=D_sm.out.c3;refine wpr ?_;have kc:=I fun W' (G:Gr v1.drew W')=>ai (G.kb D_sm).c3 <| G.kk d0 <| G.kk d1 <| G.kk d2 <| G.kk d3 <| G.kk d4 <| G.kk d5 <| G.kk d6 <| G.kk e0 <| G.kk e1 <| G.kk e2 <| G.kk e3 <| G.kk e4 <| G.kk e5 <| G.kk e6 <| G.kk r_0 <| G.kk r_1 <| G.kk r_2 <| G.keep r_3
    refine wg 1 (tf 7 1) [0,1,2,3,4,5,6] [(6,Rv.At (Q.add Q.zero s.2))] ?_;iterate 6 refine .tk ?_
    refine .dk (fun W1 G1 F1=>radd_any W1 Rv.nil m.coef Q.zero s.2 (Rv.Is.zero _) (HM.out.coef.gr G1.od) (by simp[Q.zero,limbs]) (nt HSS.out.1.len (by decide)) (by have:=HSS.out.1.ul;simpa [Q.zero,Q.un] using this)) ?_;rintro _ ⟨_,-,-,⟨n,rfl,-⟩⟩;refine .done fun W1 G1 F1=>?_
    have hn:=lh F1 0;replace kc:=kc.out W1 G1;clear F1 sm_ d0 d1 d2 d3 d4 d5 d6 e0 e1 e2 e3 e4 e5 e6 r_0 r_1 r_2 r_3;have GB:=G1.od;replace HO:=I (OwnM.up HO.out GB);replace HB5:=I (HB5.out.gr GB);replace HZ:=I (OwnM.up HZ.out GB);replace HM:=I (HM.out.gr GB);replace D_r:=GB.hb D_r;replace D_sm:=GB.hb D_sm;replace HG:=HG.tr GB;have HQ:=I (hn.is);clear GB G1 hn kc;have fz5:=D_sm.out.frozen;have sm_:=D_sm.out.c3;refine wo 7 ?_;refine wpe ?_;clear fz5;refine ks D_sm fun w4 B5 F5=>?_
    replace HO:=I (OwnM.st HO.out F5 D_sm.out (by decide) (by decide));replace HB5:=I (HB5.out.st F5 D_sm.out);replace HZ:=I (OwnM.st HZ.out F5 D_sm.out (by decide) (by decide));replace HM:=I (HM.out.stB F5 D_sm.out (by decide));replace HQ:=I (HQ.out.tf' F5 D_sm.out (by decide));replace HG:=HG.fa F5 N_sm;replace D_r:=F5.hb D_r X_r_sm;replace D_sm:=B5;clear B5 F5 sm_;go_wp2_with fail;rw[rounds_succ];go_upto_region 9 with fail;obtain⟨r_0,r_1,r_2,r_3⟩:=D_r.out.c4;obtain⟨m3,ad,hm,hA,e0,e1,e2,e3,e4,e5,e6⟩:=HO.out.mults.at HS2.out;simp only[oq] at hA;subst hA;clear hm;refine wpr ?_;have kc:=I fun W' (G:Gr w4.drew W')=>G.kk r_0 <| G.kk r_1 <| G.kk r_2 <| G.kk r_3 <| G.kk e0 <| G.kk e1 <| G.kk e2 <| G.kk e3 <| G.kk e4 <| G.kk e5 <| G.keep e6
    refine wg 0 (tf 13 0) [0,1,2,3,4,5,6,7,8,9,10,11,12] [] ?_;iterate 11 refine .tk ?_
    refine Walk.take (v:=.bool false) rfl rfl (Or.inl ⟨by rfl,?wy70⟩) ?wr70;case wy70=>(intro w' hw';obtain⟨r_0,r_1,r_2,r_3,e0,e1,e2,e3,e4,e5,e6⟩:=kc.out w' hw';go_simp;exact rw4_ne HNE.out)
    refine ptt ?_;refine .tk ?_;refine .done fun W1 G1 F1=>?_
    clear F1;refine wpe ?_;have GB:=G1.od;replace HO:=I (OwnM.up HO.out GB);replace HB5:=I (HB5.out.gr GB);replace HZ:=I (OwnM.up HZ.out GB);replace HM:=I (HM.out.gr GB);replace HQ:=I (HQ.out.gr GB);replace D_r:=GB.hb D_r;replace D_sm:=GB.hb D_sm;replace HG:=HG.tr GB;clear GB G1 kc r_0 r_1 r_2 r_3 e0 e1 e2 e3 e4 e5 e6;obtain⟨v2,hW9⟩:∃x,x=W1:=⟨_,rfl⟩;subst hW9;have sm_:=D_sm.out.c3;obtain⟨r_0,r_1,r_2,r_3⟩:=D_r.out.c4;go_wp2_with fail;refine cm0 (sign_any v2 n (Q.add Q.zero s.2) HQ.out (nt HSS.out.2.len (by decide))) fun w5 G=>?_
    replace HO:=I (OwnM.up HO.out G);replace HB5:=I (HB5.out.gr G);replace HZ:=I (OwnM.up HZ.out G);replace HM:=I (HM.out.gr G);replace HQ:=I (HQ.out.gr G);replace D_r:=G.hb D_r;replace D_sm:=G.hb D_sm;replace HG:=HG.tr G;clear sm_ r_0 r_1 r_2 r_3;have sm_:=D_sm.out.c3;obtain⟨r_0,r_1,r_2,r_3⟩:=D_r.out.c4;by_cases hq:0 < (Q.add Q.zero s.2).sign
    ·have dq:decide ((Q.add Q.zero s.2).sign > 0)=true:=dt hq;have HE9:Hid (((sortM l).take (i+1)).filterMap colF=((sortM l).take i).filterMap colF++[(s.1,Q.add Q.zero s.2)]):=I (by rw[colF_take HSI.out,colF,if_pos hq];rfl);clear hq;have HMV:Hid (Mv.Is w5 ⟨s.1,n⟩ (s.1,Q.add Q.zero s.2)):=I ⟨rfl,HQ.out⟩;have HYN9:Hid (y.n≤1000):=I (by have:=HYL.out;omega);clear HM;obtain⟨B1,GB⟩:=made1 w5 310 #[.int .i64 s.1.kind,.int .i64 s.1.index,.int .i64 s.1.lo,.int .i64 s.1.hi,.bool n.neg,.slice n.num.A n.num.n n.num.c,.slice n.den.A n.den.n n.den.c];replace HO:=I (OwnM.up HO.out GB);replace HB5:=I (HB5.out.gr GB);replace HZ:=I (OwnM.up HZ.out GB);replace HQ:=I (HQ.out.gr GB);replace HMV:=I (HMV.out.gr GB);replace D_r:=GB.hb D_r;replace D_sm:=GB.hb D_sm;replace HG:=HG.tr GB;obtain⟨ts,t1,t2,t3⟩:=HZ.out;have T1:=I t1;have T2:=I t2;have T3:=I t3;have BC:=I (bk_cells B1);have LB:=I HG.out.size;clear t1 t2 t3 GB B1;go_wp2_with (at_builtin;go_loud (refine wpList_appS elemM rfl _ _ rfl wB.heap.size (.slice y.A y.n y.c) y.n (ts.flatMap fun p=>p.1.cs) rfl T1.out ⟨w5.heap.size,0,none⟩ 1 1 [.int .i64 s.1.kind,.int .i64 s.1.index,.int .i64 s.1.lo,.int .i64 s.1.hi,.bool n.neg,.slice n.num.A n.num.n n.num.c,.slice n.den.A n.den.n n.den.c] rfl rfl BC.out (by simp[Value.oneCell']) (by unfold maxLen;have:=HYN9.out;omega) (by have:=HYN9.out;omega) HB5.out ?_;intro v' w6 e1 e2 e3;have F:=fr_own0 e2;obtain⟨y2,rfl,hyn,hy⟩:=Own.push HZ.out ts T2.out T3.out HMV.out e1 (fun p a hp=>⟨hp.row,hp.coef.tf F (fun b cs fr e hh=>by obtain⟨cur,hc⟩:=rw_bk T1.out b e;exact Bk.not_ty hc (by decide) _ _ hh)⟩);have HY:=I hy;have FF:=I F;have HYN:=I hyn;clear e1 e2 e3 F hy hyn));replace HO:=I (Own.go HO.out (fun p a hp=>⟨hp.row,hp.coef.tf FF.out (fun b cs fr e hh=>by obtain⟨cur,hc⟩:=rw_bk T1.out b e;exact Bk.not_ty hc (by decide) _ _ hh)⟩) (fun b hb=>FF.out.keep b (HO.out.lt b hb).2 (fun e=>ni _ (nk (HDJ.out b hb) (HZ.out.lt b e).1))));replace HB5:=I (HB5.out.fr FF.out);clear HQ;clear HMV;replace D_r:=I (FF.out.bk D_r.out (fun e=>HZ.out.ne D_r.out (by decide) e));replace D_sm:=I (FF.out.bk D_sm.out (fun e=>HZ.out.ne D_sm.out (by decide) e));replace HG:=I (HG.out.step FF.out (fun b _ e=>(nt LB0.out (HZ.out.lt b e).1)));replace HZ:=HY;clear HY FF T1 T2 T3 BC LB sm_ r_0 r_1 r_2 r_3;rw[← HE9.out] at HZ;go_roundw
     ·exact⟨i+1,y2,by go_num,by go_num,by omega,I (by have:=HYL.out;have:=HYN.out;omega),HO,HB5,HZ,HG⟩
     ·simp[intOf];omega
    ·have dq:decide ((Q.add Q.zero s.2).sign > 0)=false:=df hq;have HE9:Hid (((sortM l).take (i+1)).filterMap colF=((sortM l).take i).filterMap colF):=I (by rw[colF_take HSI.out,colF,if_neg hq];simp);clear hq;rw[← HE9.out] at HZ;go_wp2;go_roundw
     ·exact⟨i+1,y,by go_num,by go_num,by omega,I (by have:=HYL.out;omega),HO,HB5,HZ,HG⟩
     ·simp[intOf];omega
   ·have hj9:i+1=zn:=by omega
    have hj8:decide ((i:Int)+1 < (zn:Int))=false:=df (by omega);obtain⟨m,ad,hm,hA,d0,d1,d2,d3,d4,d5,d6⟩:=HO.out.mults.at HSI.out;simp only[oq] at hA;subst hA;have HM:=I hm;clear hm;refine wp_loop_rounds 2 ?_;rw[rounds_succ];go_upto_region 9 with fail;obtain⟨r_0,r_1,r_2,r_3⟩:=D_r.out.c4;refine wpr ?_;have kc:=I fun W' (G:Gr w3.drew W')=>G.kk r_0 <| G.kk r_1 <| G.kk r_2 <| G.kk r_3 <| G.kk d0 <| G.kk d1 <| G.kk d2 <| G.kk d3 <| G.kk d4 <| G.kk d5 <| G.keep d6
    refine wg 0 (tf 13 0) [0,1,2,3,4,5,6,7,8,9,10,11,12] [] ?_;iterate 13 refine .tk ?_
    refine .done fun W1 G1 F1=>?_
    clear F1;have kc1:=kc.out W1 G1;clear kc r_0 r_1 r_2 r_3 d0 d1 d2 d3 d4 d5 d6;obtain⟨r_0,r_1,r_2,r_3,d0,d1,d2,d3,d4,d5,d6⟩:=kc1;refine wpe ?_;have GB:=G1.od;replace HO:=I (OwnM.up HO.out GB);replace HB5:=I (HB5.out.gr GB);replace HZ:=I (OwnM.up HZ.out GB);replace HM:=I (HM.out.gr GB);replace D_r:=GB.hb D_r;replace D_sm:=GB.hb D_sm;replace HG:=HG.tr GB;clear GB G1;obtain⟨v1,hW9⟩:∃x,x=W1:=⟨_,rfl⟩;subst hW9;go_upto_region 11 with fail;have sm_:=D_sm.out.c3;refine wpr ?_;have kc:=I fun W' (G:Gr v1.drew W')=>ai (G.kb D_sm).c3 <| G.kk d0 <| G.kk d1 <| G.kk d2 <| G.kk d3 <| G.kk d4 <| G.kk d5 <| G.kk d6 <| G.kk r_0 <| G.kk r_1 <| G.kk r_2 <| G.keep r_3
    refine wg 1 (tf 7 1) [0,1,2,3,4,5,6] [(6,Rv.At (Q.add Q.zero s.2))] ?_;iterate 6 refine .tk ?_
    refine .dk (fun W1 G1 F1=>radd_any W1 Rv.nil m.coef Q.zero s.2 (Rv.Is.zero _) (HM.out.coef.gr G1.od) (by simp[Q.zero,limbs]) (nt HSS.out.1.len (by decide)) (by have:=HSS.out.1.ul;simpa [Q.zero,Q.un] using this)) ?_;rintro _ ⟨_,-,-,⟨n,rfl,-⟩⟩;refine .done fun W1 G1 F1=>?_
    have hn:=lh F1 0;replace kc:=kc.out W1 G1;clear F1 sm_ d0 d1 d2 d3 d4 d5 d6 r_0 r_1 r_2 r_3;have GB:=G1.od;replace HO:=I (OwnM.up HO.out GB);replace HB5:=I (HB5.out.gr GB);replace HZ:=I (OwnM.up HZ.out GB);replace D_r:=GB.hb D_r;replace D_sm:=GB.hb D_sm;replace HG:=HG.tr GB;have HQ:=I (hn.is);clear GB G1 hn kc;have fz5:=D_sm.out.frozen;have sm_:=D_sm.out.c3;refine wo 7 ?_;refine wpe ?_;clear fz5;refine ks D_sm fun w4 B5 F5=>?_
    replace HO:=I (OwnM.st HO.out F5 D_sm.out (by decide) (by decide));replace HB5:=I (HB5.out.st F5 D_sm.out);replace HZ:=I (OwnM.st HZ.out F5 D_sm.out (by decide) (by decide));replace HQ:=I (HQ.out.tf' F5 D_sm.out (by decide));replace HG:=HG.fa F5 N_sm;replace D_r:=F5.hb D_r X_r_sm;replace D_sm:=B5;clear B5 F5 sm_;go_wp2_with fail;rw[rounds_succ];go_upto_region 9 with fail;obtain⟨r_0,r_1,r_2,r_3⟩:=D_r.out.c4;refine wpr ?_;have kc:=I fun W' (G:Gr w4.drew W')=>G.kk r_0 <| G.kk r_1 <| G.kk r_2 <| G.keep r_3
    refine wg 0 (tf 13 0) [0,1,2,3,4,5,6,7,8,9,10,11,12] [] ?_;iterate 13 refine .tk ?_
    refine .done fun W1 G1 F1=>?_
    clear F1;refine wpe ?_;have GB:=G1.od;replace HO:=I (OwnM.up HO.out GB);replace HB5:=I (HB5.out.gr GB);replace HZ:=I (OwnM.up HZ.out GB);replace HQ:=I (HQ.out.gr GB);replace D_r:=GB.hb D_r;replace D_sm:=GB.hb D_sm;replace HG:=HG.tr GB;clear GB G1 kc r_0 r_1 r_2 r_3;obtain⟨v2,hW9⟩:∃x,x=W1:=⟨_,rfl⟩;subst hW9;have sm_:=D_sm.out.c3;obtain⟨r_0,r_1,r_2,r_3⟩:=D_r.out.c4;go_wp2_with fail;refine cm0 (sign_any v2 n (Q.add Q.zero s.2) HQ.out (nt HSS.out.2.len (by decide))) fun w5 G=>?_
    replace HO:=I (OwnM.up HO.out G);replace HB5:=I (HB5.out.gr G);replace HZ:=I (OwnM.up HZ.out G);replace HQ:=I (HQ.out.gr G);replace D_r:=G.hb D_r;replace D_sm:=G.hb D_sm;replace HG:=HG.tr G;clear sm_ r_0 r_1 r_2 r_3;have sm_:=D_sm.out.c3;obtain⟨r_0,r_1,r_2,r_3⟩:=D_r.out.c4;by_cases hq:0 < (Q.add Q.zero s.2).sign
    ·have dq:decide ((Q.add Q.zero s.2).sign > 0)=true:=dt hq;have HE9:Hid (((sortM l).take (i+1)).filterMap colF=((sortM l).take i).filterMap colF++[(s.1,Q.add Q.zero s.2)]):=I (by rw[colF_take HSI.out,colF,if_pos hq];rfl);clear hq;have HMV:Hid (Mv.Is w5 ⟨s.1,n⟩ (s.1,Q.add Q.zero s.2)):=I ⟨rfl,HQ.out⟩;have HYN9:Hid (y.n≤1000):=I (by have:=HYL.out;omega);clear HM;obtain⟨B1,GB⟩:=made1 w5 310 #[.int .i64 s.1.kind,.int .i64 s.1.index,.int .i64 s.1.lo,.int .i64 s.1.hi,.bool n.neg,.slice n.num.A n.num.n n.num.c,.slice n.den.A n.den.n n.den.c];replace HO:=I (OwnM.up HO.out GB);replace HB5:=I (HB5.out.gr GB);replace HZ:=I (OwnM.up HZ.out GB);replace HMV:=I (HMV.out.gr GB);replace HG:=HG.tr GB;obtain⟨ts,t1,t2,t3⟩:=HZ.out;have T1:=I t1;have T2:=I t2;have T3:=I t3;have BC:=I (bk_cells B1);have LB:=I HG.out.size;clear t1 t2 t3 GB B1;go_wp2_with (at_builtin;go_loud (refine wpList_appS elemM rfl _ _ rfl wB.heap.size (.slice y.A y.n y.c) y.n (ts.flatMap fun p=>p.1.cs) rfl T1.out ⟨w5.heap.size,0,none⟩ 1 1 [.int .i64 s.1.kind,.int .i64 s.1.index,.int .i64 s.1.lo,.int .i64 s.1.hi,.bool n.neg,.slice n.num.A n.num.n n.num.c,.slice n.den.A n.den.n n.den.c] rfl rfl BC.out (by simp[Value.oneCell']) (by unfold maxLen;have:=HYN9.out;omega) (by have:=HYN9.out;omega) HB5.out ?_;intro v' w6 e1 e2 e3;have F:=fr_own0 e2;obtain⟨y2,rfl,hyn,hy⟩:=Own.push HZ.out ts T2.out T3.out HMV.out e1 (fun p a hp=>⟨hp.row,hp.coef.tf F (fun b cs fr e hh=>by obtain⟨cur,hc⟩:=rw_bk T1.out b e;exact Bk.not_ty hc (by decide) _ _ hh)⟩);have HY:=I hy;have FF:=I F;have HYN:=I hyn;clear e1 e2 e3 F hy hyn));replace HO:=I (Own.go HO.out (fun p a hp=>⟨hp.row,hp.coef.tf FF.out (fun b cs fr e hh=>by obtain⟨cur,hc⟩:=rw_bk T1.out b e;exact Bk.not_ty hc (by decide) _ _ hh)⟩) (fun b hb=>FF.out.keep b (HO.out.lt b hb).2 (fun e=>ni _ (nk (HDJ.out b hb) (HZ.out.lt b e).1))));replace HB5:=I (HB5.out.fr FF.out);clear HQ;clear HMV;replace HG:=I (HG.out.step FF.out (fun b _ e=>(nt LB0.out (HZ.out.lt b e).1)));replace HZ:=HY;clear HY FF T1 T2 T3 BC LB sm_ r_0 r_1 r_2 r_3;rw[← HE9.out] at HZ;go_roundw
     ·exact⟨i+1,y2,by go_num,by go_num,by omega,I (by have:=HYL.out;have:=HYN.out;omega),HO,HB5,HZ,HG⟩
     ·simp[intOf];omega
    ·have dq:decide ((Q.add Q.zero s.2).sign > 0)=false:=df hq;have HE9:Hid (((sortM l).take (i+1)).filterMap colF=((sortM l).take i).filterMap colF):=I (by rw[colF_take HSI.out,colF,if_neg hq];simp);clear hq;rw[← HE9.out] at HZ;go_wp2;go_roundw
     ·exact⟨i+1,y,by go_num,by go_num,by omega,I (by have:=HYL.out;omega),HO,HB5,HZ,HG⟩
     ·simp[intOf];omega
  ·have hin9:i=zn:=by omega
   subst hin9;go_wp2;refine pex ?_;refine bret Tryz.results235 ?_;exact⟨y,rfl,by have h9:=HZ.out.low LB0.out;rwa [List.take_of_length_le (by have:=HLE.out;omega)] at h9,HG.out⟩
theorem collect_any (w:World) (x:Sv) (l:List Mm) (hx:Mults w x l) (hn:x.n < 20) (h0:∀m∈l,0≤m.2.sign∧m.2.Sm) (hS:∀m∈sortM l,m.2.Sm∧(Q.add Q.zero m.2).Sm) (hd:Apart (sortM l)):
  Calls Tryz.prog 235 #[x.v] w fun e w'=>∃y:Sv,e=.returned (.tuple #[y.v,.int .i64 0])∧Mults w' y (colM l)∧Gr w w':=
 (collectO_any w x l hx hn h0 hS hd).mono fun e w' h=>by
  obtain⟨y,h1,h2,h3⟩:=h;exact⟨y,h1,h2.mults,h3⟩
def insR (k:Nat):List Rw:=(List.range k).flatMap fun (i:Nat)=>[⟨1,(i:Int),0,0⟩,⟨2,(i:Int),0,0⟩]
def openR (j lo hi:Nat):List Rw:=[⟨5,(j:Int),0,0⟩,⟨6,(j:Int),0,0⟩,⟨11,(j:Int),(lo:Int),0⟩,⟨12,(j:Int),0,(hi:Int)⟩,⟨13,(j:Int),(lo:Int),(hi:Int)⟩]
def unR (lo hi:Nat→Nat) (k:Nat):List Rw:=(List.range k).flatMap fun j=>openR j (lo j) (hi j)
theorem insR_succ (k:Nat):insR (k+1)=insR k++[⟨1,(k:Int),0,0⟩,⟨2,(k:Int),0,0⟩]:=by
 unfold insR;rw[List.range_succ,List.flatMap_append];rfl
theorem unR_succ (lo hi:Nat→Nat) (k:Nat):unR lo hi (k+1)=unR lo hi k++openR k (lo k) (hi k):=by
 unfold unR;rw[List.range_succ,List.flatMap_append,List.flatMap_singleton]
theorem RwL.is {w:World} {y:Sv} {l:List Rw} (h:RwL w y l):y.Is w 4 (l.flatMap rwcs):=by
 obtain⟨ts,t1,rfl,t3,_⟩:=h;have e:ts.flatMap (fun p=>rwcs p.1)=(ts.map (·.2)).flatMap rwcs:=by
  rw[List.flatMap_map];clear t1
  induction ts with
  | nil=>rfl
  | cons p r ih=>rw[List.flatMap_cons,List.flatMap_cons,ih (fun q hq=>t3 q (List.mem_cons_of_mem _ hq)),show p.1=p.2 from t3 p (mf ..)]
 rw[← e];exact t1
structure OpenL (ls:List Lm) (m:Nat) (lo hi:Nat→Nat):Prop where
 best:∀j,j < m→bestL ls j=(lo j,hi j)
 each:∀j,j < m→∃a b m1 m2,lo j=a+1∧hi j=b+1∧ls[a]?=some m1∧ls[b]?=some m2∧m1.value.sign < 0∧0 < m2.value.sign
 sm:∀m∈ls,m.value.Sm
 len:ls.length≤1000
theorem all_open (w:World) (q:Qv) (x:Qm) (z:Sv) (ls:List Lm) (lo hi:Nat→Nat) (hq:q.Is w x) (hx:x.Va) (hz:Lems w z ls) (ho:OpenL ls x.g.units.length lo hi) (h9:x.g.units.length≤100):
  Calls Tryz.prog 291 #[scL q z] w fun e w'=>∃y:Sv,e=.returned y.v∧RwL w' y (insR x.g.inputs++unR lo hi x.g.units.length)∧Gr w w':=by
 obtain⟨⟨gi,⟨uA,un,uc⟩,qo⟩,ql,qh,qr,qg⟩:=q;have hgi:gi=(x.g.inputs:Int):=hq.g.inputs;subst hgi;have hun:x.g.units.length=un:=hq.g.units.len;have hi9:=hx.g.i9;have hro:=hq.rows;simp only at hro;subst hro;generalize hinp:x.g.inputs=inp at*;have hun9:un≤100:=by omega
 change Hid _ at hq hx ho;have HZ:=I hz;have HUN:=I hun;clear hz h9 hun hinp;simp only[scL] at*;go_enter Tryz.func291,Tryz.ntmps291;go_wp2_with fail;refine nw1hc fun W HG D_p=>?_
 have p_:=D_p.c12;refine cm0 (qvalid_any W ⟨⟨(inp:Int),⟨uA,un,uc⟩,qo⟩,ql,qh,Sv.none,qg⟩ x (hq.gr HG) hx) fun w1 G=>?_
 replace D_p:=G.hb D_p;replace HG:=HG.tr G;clear p_;have p_:=D_p.c12;go_wp2_with fail;have HW:Hid (OwnW w1 w.heap.size Nl 0 []):=OwnW.nil _ _;go_loopw [3,19] (fun s0 s1 wr=>∃(k:Nat) (yA:Option Addr) (yc:Nat),s0=.slice yA (2*k) yc∧s1=.int .i64 k∧k≤inp∧Hid (OwnW wr w.heap.size (.slice yA (2*k) yc) (2*k) (insR k))∧Hid (Gr w wr)∧Hid (Bk wr w.heap.size 113 #[.int .i64 (inp:Int),.slice uA un uc,qo.v,ql.v,qh.v,Nl,qg.terms.v,.bool qg.const.neg,qg.const.num.v,qg.const.den.v,Nl,z.v])) (fun _ i _=>inp - (intOf i).toNat)
 case atStart=>exact⟨0,none,0,rfl,rfl,nq _,HW,HG,D_p⟩
 case round=>
  clear HW HG D_p p_;obtain⟨k,yA,yc,rfl,rfl,hr2,HW,HG,D_p⟩:=hrel;by_cases hki:k < inp
  ·have hk9:k < 256:=by omega
   obtain⟨B1,GB⟩:=made1 wr 308 #[.int .i64 1,.int .i64 (k:Int),.int .i64 0,.int .i64 0,.int .i64 2,.int .i64 (k:Int),.int .i64 0,.int .i64 0];replace D_p:=GB.hb D_p;replace HG:=HG.tr GB;have HO9:=I (World.ownsRow.gr' HW GB);have BC:=I (bk_cells B1);clear B1 GB HW;have LB:=I HG.size;go_upto_region 8 with (at_builtin;refine wpList_appS elemRw rfl _ _ rfl w.heap.size (.slice yA (2*k) yc) (2*k) ((insR k).flatMap rwcs) rfl (by exact HO9.out) ⟨wr.heap.size,0,none⟩ 2 2 [.int .i64 1,.int .i64 (k:Int),.int .i64 0,.int .i64 0,.int .i64 2,.int .i64 (k:Int),.int .i64 0,.int .i64 0] rfl rfl BC.out (by simp[Value.oneCell']) (by unfold maxLen;omega) (by omega) LB.out ?_;intro v' w2 e1 e2 e3;have F9:=fr_own0 e2;obtain⟨zA,zc,rfl⟩:=rw_form e1;have H9:=I e1;have FF:=I F9;clear e1 e2 e3 F9)
   replace D_p:=I (FF.bk D_p (fun e=>rw_ne HO9 D_p (by decide) e));replace HG:=I (HG.step FF (fun b _ e=>(rw_lt HO9 b e).1));have HW9:Hid (OwnW w2 w.heap.size (.slice zA (2*(k+1)) zc) (2*(k+1)) (insR (k+1))):=I (by unfold OwnW;rw[insR_succ,List.flatMap_append];exact H9.out);clear FF LB H9 HO9;clear BC;go_wp2;go_roundw
   ·exact⟨k+1,zA,zc,rfl,by go_num,by omega,HW9,HG,D_p⟩
   ·simp[intOf];omega
  ·obtain rfl:k=inp:=by omega
   have p_:=D_p.c12;go_wp2_with fail;refine wp_loop_rounds 1 ?_;rw[rounds_succ];go_wp2_with fail;refine wp_loop_rounds 1 ?_;rw[rounds_succ];go_wp2_with fail;replace HW:Hid (OwnW wr w.heap.size (.slice yA (2*k+5*0) yc) (2*k+5*0) (insR k++unR lo hi 0)):=I (by rw[show unR lo hi 0=[] from rfl,List.append_nil];exact HW.out);go_loopw [3,69] (fun s0 s1 wr=>∃(j:Nat) (yA:Option Addr) (yc:Nat),s0=.slice yA (2*k+5*j) yc∧s1=.int .i64 j∧j≤un∧Hid (OwnW wr w.heap.size (.slice yA (2*k+5*j) yc) (2*k+5*j) (insR k++unR lo hi j))∧Hid (Gr w wr)∧Hid (Bk wr w.heap.size 113 #[.int .i64 (k:Int),.slice uA un uc,qo.v,ql.v,qh.v,Nl,qg.terms.v,.bool qg.const.neg,qg.const.num.v,qg.const.den.v,Nl,z.v])) (fun _ i _=>un - (intOf i).toNat)
   case atStart=>exact⟨0,yA,yc,rfl,rfl,nq _,HW,HG,D_p⟩
   case round=>
    clear HW HG D_p p_;obtain⟨j,yA,yc,rfl,rfl,hr2,HW,HG,D_p⟩:=hrel;by_cases hju:j < un
    ·have hj9:j < 100:=by omega
     obtain⟨a,b,m1,m2,e1,e2,e3,e4,e5,e6⟩:=ho.each j (by rw[HUN.out];exact hju);have HC:=I (ofunit_open wr ⟨⟨(k:Int),⟨uA,un,uc⟩,qo⟩,ql,qh,Sv.none,qg⟩ z ls j (lo j) (hi j) a b m1 m2 (HZ.gr HG) (ho.best j (by rw[HUN.out];exact hju)) e1 e2 ho.sm e3 e4 e5 e6 ho.len);simp only[scL] at HC;clear e1 e2 e3 e4 e5 e6;have p_:=D_p.c12;go_wp2_with fail;refine HC.mono ?_;rintro e w9 ⟨⟨sA,sn,sc⟩,rfl,hy,G⟩;replace D_p:=G.hb D_p;replace HG:=HG.tr G;have HO9:=I (World.ownsRow.gr' HW G);have HY:=hy.is;have hsn:sn=5:=(by have h1:=Rows.len rwcs_len (by decide) hy;exact h1.symm);subst hsn;obtain⟨ad,hA,_,_⟩:=HY.look (i:=0) (u:=.int .i64 5) rfl;simp only at hA;subst hA;have BC:=I (HY.cells rfl);clear hy HY HC HW G p_;have LB:=I HG.size;go_upto_region 26 with (at_builtin;refine wpList_appS elemRw rfl _ _ rfl w.heap.size (.slice yA (2*k+5*j) yc) (2*k+5*j) ((insR k++unR lo hi j).flatMap rwcs) rfl (by exact HO9.out) ad 5 sc ((openR j (lo j) (hi j)).flatMap rwcs) rfl rfl BC.out (by simp[Value.oneCell',openR,rwcs]) (by unfold maxLen;omega) (by omega) LB.out ?_;intro v' w3 e1 e2 e3;have F9:=fr_own0 e2;obtain⟨zA,zc,rfl⟩:=rw_form e1;have H9:=I e1;have FF:=I F9;clear e1 e2 e3 F9)
     replace D_p:=I (FF.bk D_p (fun e=>rw_ne HO9 D_p (by decide) e));replace HG:=I (HG.step FF (fun b _ e=>(rw_lt HO9 b e).1));have HW9:Hid (OwnW w3 w.heap.size (.slice zA (2*k+5*(j+1)) zc) (2*k+5*(j+1)) (insR k++unR lo hi (j+1))):=I (by unfold OwnW;rw[unR_succ,← List.append_assoc,List.flatMap_append];exact H9.out);clear FF LB H9 HO9;clear BC;go_wp2;go_roundw
     ·exact⟨j+1,zA,zc,rfl,by go_num,by omega,HW9,HG,D_p⟩
     ·simp[intOf];omega
    ·obtain rfl:j=un:=by omega
     have HY:=I (OwnW.rows HW);clear HW;go_wp2;go_ret;exact⟨⟨yA,_,yc⟩,rfl,by rw[HUN.out];exact HY.out,HG.out⟩
theorem RwL.at {w:World} {x:Sv} {l:List Rw} (h:RwL w x l) {i:Nat} {a:Rw} (ha:l[i]?=some a):
  ∃(ad:Addr),x.A=some ad∧w.cell? (ad.add (i*4))=some (.int .i64 a.kind)∧w.cell? ⟨(ad.add (i*4)).block,(ad.add (i*4)).off+1,none⟩=some (.int .i64 a.index)∧w.cell? ⟨(ad.add (i*4)).block,(ad.add (i*4)).off+2,none⟩=some (.int .i64 a.lo)∧w.cell? ⟨(ad.add (i*4)).block,(ad.add (i*4)).off+3,none⟩=some (.int .i64 a.hi):=by
 obtain⟨t,ht,hc⟩:=Rows.at rwcs_len h ha;subst ht;obtain⟨ad,hA,_,c0⟩:=hc 0 _ rfl;obtain⟨ad1,h1,_,c1⟩:=hc 1 _ rfl;obtain⟨ad2,h2,_,c2⟩:=hc 2 _ rfl;obtain⟨ad3,h3,_,c3⟩:=hc 3 _ rfl;rw[hA] at h1 h2 h3;cases h1;cases h2;cases h3
 rw[add_in _ _ (by decide)] at c1 c2 c3;exact⟨ad,hA,c0,c1,c2,c3⟩
theorem RwL.len {w:World} {x:Sv} {l:List Rw} (h:RwL w x l):l.length=x.n:=Rows.len rwcs_len (by decide) h
theorem RwL.tf {w w':World} {x:Sv} {l:List Rw} {X:Nat→Prop} (h:RwL w x l) (F:Fr X w w') (hX:∀b cs fr,X b→w.heap[b]?≠some (.cells cs 308 fr)):RwL w' x l:=Rows.tf h F hX fun _ _ e=>e
theorem RwL.stW {w w':World} {p t:Nat} {us:Array Value} {x:Sv} {l:List Rw} (h:RwL w x l) (F:Fr (fun b=>b=p) w w') (hb:Bk w p t us) (h1:t≠308):RwL w' x l:=
 h.tf F (fun b cs fr e hh=>Bk.not_ty hb h1 cs fr (e▸hh))
structure FmP (V:Nat) (x:Fm):Prop where
 ok:x.Ok V
 lo:∀t∈x.terms,t.2.Lo
 c:x.const.Lo
theorem pvalid_any (w:World) (V:Nat) (z:Sv) (fs:List Fm) (o:Fv) (x:Fm) (hz:Forms w z fs) (ho:o.Is w x) (hV:V < 1000) (hF:fs.length < 1000) (hv:∀f∈fs,FmP V f) (hvo:FmP V x):
  Calls Tryz.prog 225 #[.agg #[iv V,z.v,o.terms.v,.bool o.const.neg,o.const.num.v,o.const.den.v]] w fun e w'=>e=.returned (.bool true)∧Gr w w':=by
 obtain⟨zA,zn,zc⟩:=z;have hzn:fs.length=zn:=hz.len;have hzn9:zn < 1000:=by omega
 have g1:¬((V:Int) < 0):=by omega
 have g2:¬((1280:Int) < (V:Int)):=by omega
 have g3:¬((4096:Int) < (zn:Int)):=by omega
 have HZ:=I hz;change Hid _ at ho hv hvo;have HZN:=I hzn;clear hz hzn;go_enter Tryz.func225,Tryz.ntmps225;go_upto_region 1 with fail;refine nw1h fun W HG D_p=>?_
 have p_:=D_p.c6;have p_:=D_p.c6;go_wp2_with fail;refine cm0 (lvalid_any W o x V (ho.gr HG) hvo.ok hvo.lo hvo.c) fun w1 G=>?_
 replace D_p:=G.hb D_p;replace HG:=HG.tr G;clear p_;have p_:=D_p.c6;go_wp2_with fail;go_loopw [30] (fun s0 wr=>∃(j:Nat),s0=.int .i64 j∧j≤zn∧Hid (Gr w wr)∧Hid (Bk wr w.heap.size 348 #[iv V,.slice zA zn zc,o.terms.v,.bool o.const.neg,o.const.num.v,o.const.den.v])) (fun j _=>zn - (intOf j).toNat)
 case atStart=>exact⟨0,rfl,nq _,HG,D_p⟩
 case round=>
  clear HG D_p p_;obtain⟨j,rfl,hr1,HG,D_p⟩:=hrel;by_cases hin:j < zn
  ·obtain⟨x1,hx1⟩:∃x1,fs[j]?=some x1:=⟨_,ge (by rw[HZN.out];exact hin)⟩;obtain⟨f,ad,hf,hA,d0,d1,d2,d3⟩:=(HZ.gr HG).at hx1;simp only at hA;subst hA;have HVI:=I (hv.out x1 (mg hx1));have HFI:=I hf;clear hf hx1;go_upto_region 6 with fail;clear d0 d1 d2 d3;refine nw1 fun w2 GB D_b=>?_
   obtain⟨HFI,D_p,HG⟩:=GB.u3 HFI D_p HG;clear GB;generalize wr.heap.size=b at*;have p_:=D_p.c6;have b_:=D_b.c4;go_wp2_with fail;refine cm0 (lvalid_any w2 f x1 V HFI HVI.ok HVI.lo HVI.c) fun w3 G=>?_
   replace D_p:=G.hb D_p;replace HG:=HG.tr G;clear p_ b_;clear HFI;go_wp2;go_roundw
   ·exact⟨j+1,by go_num,by omega,HG,D_p⟩
   ·simp[intOf];omega
  ·obtain rfl:j=zn:=by omega
   go_wp2;go_ret;exact⟨rfl,HG.out⟩
theorem cprog_any (w:World) (q:Qv) (x:Qm) (z:Sv) (f:Fv) (xf:Fm) (rs:List Rw) (fo:Nat→Fm) (hq:q.Is w x) (hx:x.Va) (V:Nat) (hV:x.g.inputs+x.g.units.length=V) (hf:f.Is w xf) (hfo:FmP V xf) (hall:∀W,Gr w W→Calls Tryz.prog 291 #[.agg (q.qz z)] W fun e w'=>∃y:Sv,e=.returned y.v∧RwL w' y rs∧Gr W w') (hform:∀i r,rs[i]?=some r→∀W,Gr w W→Calls Tryz.prog 292 #[.agg #[.int .i64 q.g.inputs,.slice q.g.units.A q.g.units.n q.g.units.c,.slice q.g.outs.A q.g.outs.n q.g.outs.c,.slice q.lo.A q.lo.n q.lo.c,.slice q.hi.A q.hi.n q.hi.c,.slice none 0 0,.slice q.goal.terms.A q.goal.terms.n q.goal.terms.c,.bool q.goal.const.neg,.slice q.goal.const.num.A q.goal.const.num.n q.goal.const.num.c,.slice q.goal.const.den.A q.goal.const.den.n q.goal.const.den.c,.slice none 0 0,.slice z.A z.n z.c],.agg #[.int .i64 r.kind,.int .i64 r.index,.int .i64 r.lo,.int .i64 r.hi]] W fun e w'=>∃g:Fv,e=.returned (.tuple #[g.v,.bool true])∧g.Is w' (fo i)∧Gr W w') (hn:rs.length≤1000):
  Calls Tryz.prog 224 #[.agg (q.qz z),f.v] w fun e w'=>∃y zr:Sv,e=.returned (.tuple #[.agg #[iv V,.slice zr.A zr.n zr.c,.slice f.terms.A f.terms.n f.terms.c,.bool f.const.neg,.slice f.const.num.A f.const.num.n f.const.num.c,.slice f.const.den.A f.const.den.n f.const.den.c],.slice y.A y.n y.c,.int .i64 0])∧Forms w' zr ((List.range rs.length).map fo)∧RwL w' y rs∧f.Is w' xf∧Gr w w':=by
 have hro:=hq.rows;change Hid _ at hq hx hf hfo hall hform hV;have HN:=I hn;clear hn hro;simp only[Fv.v] at*;go_enter Tryz.func224,Tryz.ntmps224;go_upto_region 1 with fail;refine nw3h fun W HG D_s D_b D_r=>?_
 have s_:=D_s.c12;have b_:=D_b.c4;have N_r:=dnl (w.heap.size) (w.heap.size+1+1);generalize w.heap.size+1+1=r at*;generalize w.heap.size+1=b at*;go_wp2_with fail;refine cm0 (vars_any W q.g x.g (hq.g.gr HG) hx.g) fun w1 G=>?_
 obtain⟨D_s,D_b,D_r,HG⟩:=G.u4 D_s D_b D_r HG;clear s_ b_;have s_:=D_s.c12;have b_:=D_b.c4;rw[hV.out];go_wp2_with fail;refine cm0 (qvalid_any w1 ⟨q.g,q.lo,q.hi,Sv.none,q.goal⟩ x (hq.gr HG).nil hx) fun w2 G=>?_
 obtain⟨D_s,D_b,D_r,HG⟩:=G.u4 D_s D_b D_r HG;clear s_ b_;have s_:=D_s.c12;have b_:=D_b.c4;go_wp2_with fail;refine cm0 (lvalid_any w2 f xf V (hf.gr HG) hfo.ok hfo.lo hfo.c) fun w3 G=>?_
 obtain⟨D_s,D_b,D_r,HG⟩:=G.u4 D_s D_b D_r HG;clear s_ b_;have s_:=D_s.c12;have b_:=D_b.c4;have N_p:=HG.hs;have X_s_p:=D_s.nn;have X_r_p:=D_r.nn;go_upto_region 5 with fail;clear s_ b_;refine nw1 fun w4 GB D_p=>?_
 obtain⟨D_s,D_r,HG⟩:=GB.u3 D_s D_r HG;clear GB;generalize w3.heap.size=p at*;have s_:=D_s.c12;go_wp2_with fail;refine cm1 (hall.out w4 HG) fun y w5 HYR G=>?_
 obtain⟨D_s,D_r,D_p,HG⟩:=G.u4 D_s D_r D_p HG;clear s_;obtain⟨yA,yn,yc⟩:=y;have hyn:rs.length=yn:=HYR.len;have HYN:=I hyn;have hyn9:yn≤1000:=by rw[← hyn];exact HN.out
 have HZ:Hid (OwnF w5 w.heap.size Sv.none []):=I (Own.nil _ _);clear hyn;simp only[Sv.v];go_wp2_with fail;clear D_b;go_loopw [36] (fun s0 wr=>∃(j:Nat) (zr:Sv),s0=.int .i64 j∧j≤yn∧Hid (RwL wr ⟨yA,yn,yc⟩ rs)∧Hid (OwnF wr w.heap.size zr ((List.range j).map fo))∧Hid (Gr w wr)∧Hid (Bk wr w.heap.size 113 (q.qz z))∧Hid (Bk wr r 348 #[.int .i64 0,Nl,Nl,.bool false,Nl,Nl])∧Hid (Bk wr p 348 #[.int .i64 (V:Int),zr.v,f.terms.v,.bool f.const.neg,f.const.num.v,f.const.den.v])) (fun j _=>yn - (intOf j).toNat)
 case atStart=>exact⟨0,Sv.none,rfl,nq _,HYR,HZ,HG,D_s,D_r,D_p⟩
 case round=>
  clear HYR HZ HG D_s D_r D_p;obtain⟨j,zr,rfl,hr1,HYR,HZ,HG,D_s,D_r,D_p⟩:=hrel;by_cases hin:j < yn
  ·have hj9:j < 1000:=by omega
   obtain⟨ro,hro⟩:∃ro,rs[j]?=some ro:=⟨_,ge (by rw[HYN.out];exact hin)⟩;have HRJ:=I hro;obtain⟨ad,hA,d0,d1,d2,d3⟩:=HYR.at hro;simp only at hA;subst hA;clear hro;go_upto_region 9 with fail;clear d0 d1 d2 d3;refine nw1 fun w6 GB D_rw=>?_
   replace HYR:=I (HYR.gr GB);replace HZ:=I (OwnF.up HZ GB);obtain⟨D_s,D_r,D_p,HG⟩:=GB.u4 D_s D_r D_p HG;clear GB;generalize wr.heap.size=rw at*;have s_:=D_s.c12;have rw_:=D_rw.c4;go_wp2_with fail;refine cm1 (hform.out j ro HRJ w6 HG) fun g w7 HGV G=>?_
   replace HYR:=I (HYR.gr G);replace HZ:=I (OwnF.up HZ G);obtain⟨D_s,D_r,D_p,HG⟩:=G.u4 D_s D_r D_p HG;clear s_ rw_;go_upto_region 10 with fail;refine nw1 fun w8 GB D_fb=>?_
   replace HYR:=I (HYR.gr GB);replace HZ:=I (OwnF.up HZ GB);obtain⟨HGV,D_s,D_r,D_p,HG⟩:=GB.u5 HGV D_s D_r D_p HG;clear GB;generalize w7.heap.size=fb at*;have fb_:=D_fb.c4;have p_:=D_p.c6;have HZL:Hid (zr.n≤1000):=I (by have h9:=HZ.len Fv.len (by decide);rw[← h9,List.length_map,List.length_range];omega);obtain⟨B1,GB⟩:=made1 w8 40 g.ar;replace HYR:=I (HYR.gr GB);replace HZ:=I (OwnF.up HZ GB);obtain⟨HGV,D_s,D_r,D_p,HG⟩:=GB.u5 HGV D_s D_r D_p HG;obtain⟨ts,t1,t2,t3⟩:=HZ.out;have T1:=I t1;have T2:=I t2;have T3:=I t3;have BC:=I (bk_cells B1);have LB:=I HG.size;clear t1 t2 t3 GB B1;have k9_0_:=D_p.c6;go_upto_region 11 with (at_builtin;refine wpList_appS elemF rfl _ _ rfl w.heap.size zr.v zr.n (ts.flatMap fun p=>p.1.cs) rfl T1.out ⟨w8.heap.size,0,none⟩ 1 1 [g.terms.v,.bool g.const.neg,g.const.num.v,g.const.den.v] rfl rfl BC.out (by simp[Value.oneCell']) (by unfold maxLen;have:=HZL.out;omega) (by have:=HZL.out;omega) LB.out ?_;intro v' w9 e1 e2 e3;have F:=fr_own0 e2;obtain⟨y,rfl,hyn,hy⟩:=Own.push HZ ts T2 T3 HGV e1 (OwnF.step HZ F);have HY:=I hy;have FF:=I F;have D5:=I (FF.bk D_p (fun e=>HZ.ne D_p (by decide) e));have fz9:=D5.frozen;have o9:=D5.c6.2.1;have HYN:=I hyn;clear e1 e2 e3 F hy hyn)
   replace HYR:=I (HYR.tf FF (fun b cs fr e hh=>by obtain⟨cur,hc⟩:=rw_bk T1 b e;exact Bk.not_ty hc (by decide) _ _ hh));replace D_s:=I (FF.bk D_s (fun e=>HZ.ne D_s (by decide) e));replace D_r:=I (FF.bk D_r (fun e=>HZ.ne D_r (by decide) e));replace D_p:=I (FF.bk D_p (fun e=>HZ.ne D_p (by decide) e));replace HG:=I (HG.step FF (fun b _ e=>(HZ.lt b e).1));replace HZ:=HY;clear HY FF T1 T2 T3 BC LB D5 fz9 o9 fb_ p_ k9_0_;refine ks D_p fun w10 B5 F5=>?_
   replace HYR:=I (HYR.stW F5 D_p (by decide));replace HZ:=I (OwnF.st HZ F5 D_p);replace HG:=HG.fa F5 N_p;replace D_s:=F5.hb D_s X_s_p;replace D_r:=F5.hb D_r X_r_p;replace D_p:=B5;clear B5 F5;have HE9:(List.range j).map fo++[fo j]=(List.range (j+1)).map fo:=by rw[List.range_succ,List.map_append];rfl
   rw[HE9] at HZ;clear HE9;clear HGV;go_wp2;go_roundw
   ·exact⟨j+1,y,by go_num,by omega,HYR,HZ,HG,D_s,D_r,D_p⟩
   ·simp[intOf];omega
  ·obtain rfl:j=yn:=by omega
   have p_:=D_p.c6;have HFZ:=I (hf.gr HG);have HZF:=I HZ.forms;clear HZ;have z0_:=D_r.c6;have fz:=D_r.frozen;go_wp2;refine ks D_r fun w6 B5 F5=>?_
   replace HYR:=I (HYR.stW F5 D_r (by decide));replace HFZ:=I (HFZ.tf' F5 D_r);replace HZF:=I (HZF.st F5 D_r);replace HG:=HG.fa F5 N_r;replace D_r:=B5;clear B5 F5 p_ z0_;have r_:=D_r.c6;clear fz;refine pex ?_;refine bret Tryz.results224 ?_;exact⟨⟨yA,j,yc⟩,zr,rfl,by rw[HYN.out];exact HZF.out,HYR.out,HFZ.out,HG.out⟩
def BndAt (k i:Nat) (a:Q) (v:Value) (W:World):Prop:=∃(r:Rv) (y:Sv),v=.tuple #[r.v,y.v,.bool true]∧r.Is W a∧Mults W y [(⟨(k:Int),(i:Int),0,0⟩,Q.one)]
theorem BndAt.gr {k i:Nat} {a:Q} {v:Value} {W W':World} (h:BndAt k i a v W) (G:Gr W W'):BndAt k i a v W':=by
 obtain⟨r,y,rfl,h1,h2⟩:=h;exact⟨r,y,rfl,h1.gr G,h2.gr G⟩
theorem BndAt.is {k i:Nat} {a:Q} {r:Rv} {y:Sv} {W:World} (h:BndAt k i a (.tuple #[r.v,y.v,.bool true]) W):r.Is W a∧Mults W y [(⟨(k:Int),(i:Int),0,0⟩,Q.one)]:=by
 obtain⟨r',y',e,h1,h2⟩:=h;obtain⟨e1,⟨f1,f2,f3⟩,⟨g1,g2,g3⟩⟩:=r;obtain⟨e1',⟨f1',f2',f3'⟩,⟨g1',g2',g3'⟩⟩:=r';obtain⟨a1,a2,a3⟩:=y;obtain⟨a1',a2',a3'⟩:=y';simp only[Rv.v,Sv.v,Value.tuple.injEq,Value.agg.injEq,Array.mk.injEq,List.cons.injEq,Value.bool.injEq,Value.slice.injEq,true_and,and_true] at e;obtain⟨⟨rfl,⟨rfl,rfl,rfl⟩,rfl,rfl,rfl⟩,rfl,rfl,rfl⟩:=e;exact⟨h1,h2⟩
def MvAt (x:Mm) (v:Value) (W:World):Prop:=∃m:Mv,v=.agg #[.int .i64 m.row.kind,.int .i64 m.row.index,.int .i64 m.row.lo,.int .i64 m.row.hi,.bool m.coef.neg,.slice m.coef.num.A m.coef.num.n m.coef.num.c,.slice m.coef.den.A m.coef.den.n m.coef.den.c]∧m.Is W x
theorem MvAt.gr {x:Mm} {v:Value} {W W':World} (h:MvAt x v W) (G:Gr W W'):MvAt x v W':=by
 obtain⟨m,rfl,h1⟩:=h;exact⟨m,rfl,h1.gr G⟩
theorem MvAt.is (m:Mv) {x:Mm} {W:World} (h:MvAt x (.agg #[.int .i64 m.row.kind,.int .i64 m.row.index,.int .i64 m.row.lo,.int .i64 m.row.hi,.bool m.coef.neg,.slice m.coef.num.A m.coef.num.n m.coef.num.c,.slice m.coef.den.A m.coef.den.n m.coef.den.c]) W):m.Is W x:=by
 obtain⟨n,e,h1⟩:=h;obtain rfl:n=m:=Mv.of_eq (m:=m) (n:=n) e;exact h1
structure ColOk (l:List Mm):Prop where
 n:l.length < 20
 h0:∀m∈l,0≤m.2.sign∧m.2.Sm
 hS:∀m∈sortM l,m.2.Sm∧(Q.add Q.zero m.2).Sm
 hd:Apart (sortM l)
theorem ColOk.go {w:World} {x:Sv} {l:List Mm} (h:ColOk l) (hx:Mults w x l):
  Calls Tryz.prog 235 #[x.v] w fun e w'=>∃y:Sv,e=.returned (.tuple #[y.v,.int .i64 0])∧Mults w' y (colM l)∧Gr w w':=
 collect_any w x l hx (by have:=hx.len;have:=h.n;omega) h.h0 h.hS h.hd
theorem one_sm:Q.one.Sm:=⟨by decide,by decide⟩
def absQ (q:Q):Q:=Q.max q q.neg'
def bndQ (x:Qm) (t:Tm):Q:=if t.2.sign < 0 then (x.hi[t.1.toNat]?).getD Q.zero else (x.lo[t.1.toNat]?).getD Q.zero
def lowS (x:Qm):Q→List Tm→Q
 | a,[]=>a
 | a,t::l=>lowS x (Q.add a (Q.mul t.2 (bndQ x t))) l
def lowM (l:List Tm):List Mm:=l.map fun t=>(⟨if t.2.sign < 0 then 2 else 1,t.1,0,0⟩,Q.mul (absQ t.2) Q.one)
structure LowT (x:Qm) (a:Q) (t:Tm):Prop where
 v0:0≤t.1
 vi:t.1.toNat < x.g.inputs
 s:t.2.Sm
 ns:t.2.neg'.Sm
 b:(bndQ x t).Sm
 m:(Q.mul t.2 (bndQ x t)).Sm
 ab:(absQ t.2).Sm
 a:a.Sm
def LowOk (x:Qm):Q→List Tm→Prop
 | _,[]=>True
 | a,t::l=>LowT x a t∧LowOk x (Q.add a (Q.mul t.2 (bndQ x t))) l
end
end Go.Proofs.YtmhphnljfcncpaaGreatDoor
