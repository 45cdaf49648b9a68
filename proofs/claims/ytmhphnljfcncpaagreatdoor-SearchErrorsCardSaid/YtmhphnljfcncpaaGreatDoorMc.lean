/- Walks of the search and of what it calls, part 3. -/
import Derived.Test.YtmhphnljfcncpaaGreatDoorMb
import Derived.Test.YtmhphnljfcncpaaGreatDoorLaid
import Derived.Lib.ItoaNum
set_option linter.unusedVariables false
set_option linter.unusedSimpArgs false
set_option maxRecDepth 100000
set_option maxHeartbeats 8000000
namespace Go.Proofs.YtmhphnljfcncpaaGreatDoor
open Go.RowKit
section
attribute [local go_sem] Oper.semAt_some
theorem num_empty (w:World) (ad:Addr):Sv.Num w ⟨some ad,0,0⟩ []:=⟨⟨by simp,nr _,by simp,fun e=>(by cases e),Sees.nil⟩,Lim.nil,fun _ _ h=>absurd h (ni _)⟩
theorem append_types {P:Program} {t tx e e':TypeId} (ht:P.underlying t=some (.slice e)) (hx:P.underlying tx=some (.slice e')) (ty:TypeId) (b:Option Addr) (n c:Nat) (x:Value) (w:World):
  (Builtin.append_ #[t,tx] ty #[.slice b n c,x]).run P w=(Builtin.append_ #[t,t] ty #[.slice b n c,x]).run P w:=by
 simp[Builtin.append_,run_underlying ht,run_underlying hx]
theorem wpList_appX {P:Program} {t tx e size bytes:Nat} (h:ElemS P t e size bytes) (hu:P.underlying tx=some (.slice e)) {w:World} {ops:Array Oper} {rest:List Oper} {o:Oper} {a:Act} {Q:Exit→Act→World→Prop} (hgd:o.guard=none) (s x:Operand) (ho:o.op=.call { callee:=.builtin .append,args:=#[s,x],argTypes:=#[t,tx] })
  (base:Nat) (v:Value) (n:Nat) (xs:List Value) (hs:a.eval s=v) (hown:w.ownsRow base e size v n xs) (ad:Addr) (m c:Nat) (news:List Value) (hx:a.eval x=.slice (some ad) m c) (hl:news.length=m*size) (hnews:∀j u,news[j]?=some u→w.cell? (ad.add j)=some u) (h1:∀u∈news,u.oneCell'=true)
  (h63:n+m≤maxLen) (hbytes:(n+m)*bytes≤140737488355328) (hbase:base≤w.heap.size)
  (hK:∀v' w',w'.ownsRow base e size v' (n+m) (xs++news)→w.grownBy w' v.ownBlock→(v'.ownBlock=v.ownBlock∨v'.ownBlock=some w.heap.size)→wpList P ops Q rest (a.put o.dst v') w'):
  wpList P ops Q (o::rest) a w:=by
 obtain⟨i,z,hi,hz,hsz,hby,hzs⟩:=h.hi;obtain⟨v',w',hrun,h2,h3,_,h5⟩:=run_append_own_at (P:=P) w base t o.type e i z size bytes h.ht hi hz hsz hby hzs h.pos v n xs hown ad m c news hl hnews h1 h63 hbytes hbase;obtain⟨b0,c0,rfl⟩:=rw_form hown;rw[← append_types h.ht hu] at hrun;refine wpList_plain hgd fun _ hK'=>?_
 unfold Oper.wp execOp;simp only[ho,resolve,invoke,builtin,Sem.run_bind,Sem.run_pure,Result.andThen_ok,List.map_toArray,List.map_cons,List.map_nil,hs,hx,hrun];exact hK' _ _ (hK v' w' h2 h3 h5)
theorem rmake_any (w:World) (x:Sv) (l:List Nat) (h:x.Num w l) (hl9:l.length≤1000000):
  Calls Tryz.prog 180 #[x.v] w fun e w'=>∃y:Sv,e=.returned y.v∧y.Num w' (limbs (val l))∧Gr w w':=by
 obtain⟨A,n,c⟩:=x;have HI:=I h;have hn:=h.is.cap;have hc:=h.is.max;have HL:=I h.len;simp only at hn hc HL ⊢;have hn9:n≤1000000:=by rw[← HL.out];exact hl9
 have HU:=I (show Tryz.prog.underlying 35=some (.slice 300) by kernel_rfl);clear h hl9;go_enter Tryz.func180,Tryz.ntmps180;go_wp2;go_loopw [3] (fun s wr=>∃k:Nat,s=.int .i64 k∧k≤n∧Hid (∀i x,k≤i→l[i]?=some x→x=0)∧Hid (Gr w wr)) (fun s _=>(intOf s).toNat)
 case atStart=>exact⟨n,rfl,nr _,(fun i x hi hx=>by rw[List.getElem?_eq_none (by rw[HL.out];exact hi)] at hx;cases hx),Gr.refl w⟩
 case round=>
  obtain⟨k,rfl,hk,hZ,hG⟩:=hrel;cases k with
  | zero=>
   have HE:Hid (limbs (val l)=[]):=by
    rw[← trimmed (k:=0) HI.lim (nq _) hZ.out (fun x hx=>absurd hx (by omega))];exact List.take_zero
   cases A with
   | none=>
    go_wp2;go_ret;exact⟨⟨some ⟨wr.heap.size,0,none⟩,0,0⟩,rfl,by rw[HE.out];exact num_empty _ _,hG.alloc _⟩
   | some ad=>
    go_wp2;go_ret;exact⟨⟨some ⟨wr.heap.size,0,none⟩,0,0⟩,rfl,by rw[HE.out];exact num_empty _ _,hG.alloc _⟩
  | succ j=>
   obtain⟨y,ad,hy,hy9,hA,hb,d⟩:=(HI.gr hG).at (i:=j) hk;simp only at hA;subst hA;have hw1:IntKind.i64.wrap ((j:Int)+1 - 1)=(j:Int):=by rw[wi _ (by omega)];omega
   have hw2:IntKind.i64.wrap (((j+1:Nat):Int) - 1)=(j:Int):=by rw[wi _ (by omega)];omega
   by_cases hy0:y=0
   ·subst hy0;have HZ:=I (zero_down hZ hy);clear hy hy9 hb hZ;go_wp2;go_roundw
    case rel=>exact⟨j,by go_num,by omega,HZ,hG⟩
    case measure=>first | (simp[intOf];done) | (simp[intOf];omega)
   ·have HT:=I (trimmed (k:=j+1) HI.lim (by rw[HL.out];exact hk) hZ (fun x _ hx=>by
     rw[Nat.add_sub_cancel,hy] at hx;injection hx with hx;omega))
    have HY:=I ((HI.gr hG).take (k:=j+1) hk);rw[HT.out] at HY;have HO:Hid ((wr.alloc (.cells #[] 300)).ownsRow wr.heap.size 300 1 (.slice (some ⟨wr.heap.size,0,none⟩) 0 0) 0 []):=⟨rfl,.inr ⟨wr.heap.size,0,#[],rfl,nr _,Bk.made _ _ _,nr _,nq _,rfl,rfl⟩⟩;have HC:Hid (∀i u,((limbs (val l)).map lv)[i]?=some u→(wr.alloc (.cells #[] 300)).cell? (ad.add i)=some u):=(HY.is.gr ((Gr.refl wr).alloc _)).cells rfl;have H1:Hid (((limbs (val l)).map lv).length=(j+1)*1):=HY.is.len;have HL1:Hid (∀u∈(limbs (val l)).map lv,u.oneCell'=true):=fun u hu=>by
     obtain⟨y,_,rfl⟩:=List.mem_map.1 hu;rfl
    clear hy hy9 hb hZ;go_wp2_with (at_builtin;refine wpList_appX elemN HU.out rfl _ _ rfl wr.heap.size (.slice (some ⟨wr.heap.size,0,none⟩) 0 0) 0 [] rfl HO.out ad (j+1) c ((limbs (val l)).map lv) rfl H1.out HC.out HL1.out (by unfold maxLen;omega) (by omega) (by simp) ?_;intro v' w' h2 h3 h5);go_wp2;go_ret;rw[Nat.zero_add,List.nil_append] at h2;obtain⟨z,rfl,_,hz,hty⟩:=Sv.of_row h2 (by decide);exact⟨z,rfl,⟨hz,limbs_lim _,hty⟩,hG.trans (Gr.of_own h3)⟩
theorem rnof_any (w:World) (x:Nat) (hx:x < 18446744073709551616):Calls Tryz.prog 114 #[.int .u64 x] w fun e w'=>∃z:Sv,e=.returned z.v∧z.Num w' (limbs x)∧Gr w w':=by
 obtain⟨lo,hi,hlo,hhi,e⟩:∃lo hi,lo < B32∧hi < B32∧x=lo+B32*hi:=⟨x % B32,x / B32,Nat.mod_lt _ (by decide),Nat.div_lt_of_lt_mul (by rw[B32_eq];omega),(Nat.mod_add_div x B32).symm⟩;have E1:(x:Int) % 4294967296=lo:=by rw[B32_eq] at e hlo;omega
 have E2:(x:Int) / 4294967296=hi:=by rw[B32_eq] at e hlo hhi;omega
 have HR:Hid (Lb (w.alloc (.cells #[.int .u32 lo,.int .u32 hi] 300)) w.heap.size [lo,hi]):=Bk.made w 300 #[.int .u32 lo,.int .u32 hi];have HG:=I ((Gr.refl w).alloc (.cells #[.int .u32 lo,.int .u32 hi] 300));have HT:=I (rmake_any _ ⟨some ⟨w.heap.size,0,none⟩,2,2⟩ [lo,hi] (num_of_row HR (fun y hy=>by simp at hy;rcases hy with rfl | rfl<;>assumption) rfl (by decide)) (by simp));rw[show val [lo,hi]=x by rw[e];simp[val]] at HT;clear e;go_enter Tryz.func114,Tryz.ntmps114;go_wp2_with fail;refine cm1 HT fun z w1 HZ G1=>?_
 have HG1:=I (HG.trans G1);clear HT;go_wp2;go_ret;exact⟨z,rfl,HZ.out,HG1.out⟩
theorem limb_any (w:World) (x:Sv) (l:List Nat) (i:Nat) (hx:x.Num w l) (hi:i≤1000000000):
  Calls Tryz.prog 186 #[x.v,.int .i64 i] w fun e w'=>e=.returned (.int .u32 (lim0 l i))∧w'=w:=by
 obtain⟨A,n,c⟩:=x;have hl:=hx.len;simp only at hl;by_cases h:i < n
 ·obtain⟨p,ad,hp,hp9,hA,hb,d⟩:=hx.at (i:=i) h;simp only at hA;subst hA;have HE:=I (lim0_at hp);clear hp hp9 hb hx hl;go_enter Tryz.func186,Tryz.ntmps186;go_wp2;go_ret;exact⟨by rw[HE.out];rfl,rfl⟩
 ·have HE:Hid (lim0 l i=0):=lim0_past (by omega);have hd:decide ((i:Int) < n)=false:=by simp;omega
  clear hx hl;go_enter Tryz.func186,Tryz.ntmps186;go_wp2;go_ret;exact⟨by rw[HE.out];rfl,rfl⟩
theorem ruint_any (w:World) (x:Sv) (m:Nat) (hx:x.Num w (limbs m)) (hm:m < 18446744073709551616):
  Calls Tryz.prog 253 #[x.v] w fun e w'=>e=.returned (.tuple #[.int .u64 m,.bool true])∧Gr w w':=by
 have hl2:(limbs m).length≤2:=limbs_len_le (by rw[B32_eq];exact hm);have H1:=I (rmake_any w x _ hx (nt hl2 (by decide)));rw[vl] at H1;clear hx;go_enter Tryz.func253,Tryz.ntmps253;go_wp2_with fail;go_at_call 180
 refine cm2 H1 fun u w1 hu G1=>?_
 obtain⟨A,n,c⟩:=u;have hn:=hu.len;simp only at hn;have HU:=I hu;have HG1:=I G1;have HN:=I hn;rw[hn] at hl2;clear hu H1 hn;simp only[Sv.v] at*;rcases (show n=0∨n=1∨n=2 by omega) with rfl | rfl | rfl
 ·have HE:Hid (m=0):=limbs_len0.1 HN;go_wp2;go_returns;exact⟨by rw[HE.out];rfl,HG1.out⟩
 ·obtain⟨p,ad,hp,hp9,hA,hb,d⟩:=HU.at (i:=0) Nat.one_pos;simp only at hA;subst hA;have HE:Hid (m=p):=by
   have h:=vl m
   match hh:limbs m,HN.out with
   | [z],_=>
    rw[hh] at hp h;obtain rfl:z=p:=by simpa using hp
    rw[← h];exact (show val [z]=z by simp[val])
  rw[add_zero] at d;clear hp hb;rw[B32_eq] at hp9;go_wp2;go_returns;exact⟨by rw[HE.out];rfl,HG1.out⟩
 ·obtain⟨p,ad,hp,hp9,hA,hb,d⟩:=HU.at (i:=0) (nm Nat.one_pos (Nat.lt_succ_self _));obtain⟨q,ad2,hq,hq9,hA2,hb2,d'⟩:=HU.at (i:=1) (Nat.lt_succ_self _);simp only at hA hA2;subst hA;injection hA2 with hA2;subst hA2;have HE:Hid (m=p+B32*q):=by
   have h:=vl m
   match hh:limbs m,HN.out with
   | [z,y],_=>
    rw[hh] at hp hq h;obtain rfl:z=p:=by simpa using hp
    obtain rfl:y=q:=by simpa using hq
    rw[← h];exact (show val [z,y]=z+B32*y by simp[val])
  rw[add_zero] at d;have d2:w1.drew.cell? ⟨ad.block,ad.off+1,none⟩=some (.int .u32 (q:Int)):=d';have d1:w1.drew.cell? ad=some (.int .u32 (p:Int)):=d;clear hp hq hb hb2 d';rw[B32_eq] at hp9 hq9;have E0:=I (or_top hp9 hq9);go_wp2;go_region
  all_goals go_wp2
  all_goals go_returns
  all_goals exact⟨by rw[HE.out,← E0.out];rfl,HG1.drew⟩
theorem bitLen_bd {x:Nat} (h:0 < x) (hx:x < B32):0 < Lib.bitLen x∧Lib.bitLen x≤32:=by
 obtain⟨h1,h2,_⟩:=Lib.bitLenAux_bounds 64 x (nm hx (by decide)) (by omega);refine⟨h1,Nat.le_of_not_lt fun h3=>?_⟩;have h4:2 ^ 32≤2 ^ (Lib.bitLenAux 64 x - 1):=Nat.pow_le_pow_right (by decide) (by unfold Lib.bitLen at h3;omega);rw[B32_eq] at hx;omega
theorem bits_any (w:World) (x:Sv) (l:List Nat) (hx:x.Num w l) (hl:l.length≤1000000):
  Calls Tryz.prog 213 #[x.v] w fun e w'=>(∃r:Nat,e=.returned (.int .i64 r)∧r≤100000000∧((r:Int) == 0)=decide (val l=0))∧Gr w w':=by
 have H1:=I (trim_any w x l hx);have HA:Hid ((limbs (val l)).length≤1000000):=nt (limbs_len_le (val_lt hx.lim)) hl;clear hx hl;go_enter Tryz.func213,Tryz.ntmps213;go_wp2_with fail;refine cm2 H1 fun u w1 hu G1=>?_
 obtain⟨A,n,c⟩:=u;have HN:=I hu.len;have hn9:n≤1000000:=nt (Nat.le_of_eq HN.symm) HA;have HU:=I hu;have HG1:=I G1;clear hu H1;simp only[Sv.v] at*;by_cases h0:n=0
 ·have HZ:Hid (val l=0):=limbs_len0.1 (HN.trans h0);have hd:((n:Int) == 0)=true:=by simp[h0]
  go_wp2;go_ret;exact⟨⟨0,rfl,by omega,by rw[HZ.out];rfl⟩,HG1.out⟩
 ·have HZ:Hid (decide (val l=0)=false):=by
   have h:¬val l=0:=fun h=>h0 (HN.symm.trans (limbs_len0.2 h))
   exact df h
  have hd:((n:Int) == 0)=false:=by simp;omega
  obtain⟨j,rfl⟩:∃j,n=j+1:=⟨n - 1,by omega⟩;obtain⟨p,ad,hp,hp9,hAe,hbl,d1⟩:=HU.at (i:=j) (Nat.lt_succ_self j);simp only at hAe;subst hAe;have hp0:p≠0:=by
   have:=limbs_cano (val l) p;rw[List.getLast?_eq_getElem?,HN.out] at this;exact this hp
  obtain⟨hpos,hpos2⟩:=bitLen_bd (x:=p) (by omega) hp9;have HL:=I (fun W=>Tryz.bits_Len32 (p:Int) W (by omega) (by rw[B32_eq] at hp9;omega));clear hp hbl hp0;have hj:((j+1:Nat):Int) - 1=j:=by omega
  rw[Int.toNat_natCast] at HL;generalize Lib.bitLen p=q at*;go_wp2_with fail;refine (HL.out w1).mono ?_;rintro e w2 ⟨rfl,rfl⟩;clear HL;have hw:IntKind.i64.wrap (32*(j:Int)+q)=32*(j:Int)+q:=wi _ (by omega);go_wp2;go_ret;exact⟨⟨32*j+q,by go_num,by omega,by rw[HZ.out];simp;omega⟩,HG1.out⟩
theorem under_any (w:World) (x:Rv) (q:Q) (hx:x.Is w q) (hl:(limbs q.den).length≤1000000):
  Calls Tryz.prog 260 #[x.v] w fun e w'=>∃y:Sv,e=.returned y.v∧y.Num w' (limbs q.un)∧Gr w w':=by
 obtain⟨s,num,den⟩:=x;have b1:=Bk.made w 38 #[.bool s,num.v,den.v];have HG1:=I ((Gr.refl w).alloc (.cells #[.bool s,num.v,den.v] 38));have HB:=I b1;have HD:=I (hx.den.gr HG1);have H1:=I (bits_any _ den _ HD hl);have HO:=I one_any;rw[vl] at H1;have c2:=b1.cell 2;clear hx hl b1;simp only[Rv.v] at*;go_enter Tryz.func260,Tryz.ntmps260;go_wp2_with fail;refine H1.mono ?_;rintro e w1 ⟨⟨r,rfl,hr,hr0⟩,G1⟩;have HG2:=I (HG1.trans G1);have HD2:=I (HD.gr G1);have c3:=(G1.bk HB).cell 2;clear G1 H1 HB c2;by_cases h0:q.den=0
 ·have HU:Hid (q.un=1):=by unfold Q.un;exact if_pos h0
  rw[dt h0] at hr0;go_wp2_with fail;refine cm1 (HO.out w1) fun y w2 HY G2=>?_
  have HG3:=I (HG2.trans G2)

  go_wp2;go_ret;exact⟨y,rfl,by rw[HU.out];exact HY.out,HG3.out⟩
 ·have HU:Hid (q.un=q.den):=by unfold Q.un;exact if_neg h0
  rw[df h0] at hr0;go_wp2;go_ret;exact⟨den,rfl,by rw[HU.out];exact HD2.out,HG2.out⟩
theorem div_any (w:World) (x y:Sv) (a b:Nat) (hx:x.Num w (limbs a)) (hy:y.Num w (limbs b)) (ha:(limbs a).length≤1000000) (hb0:0 < b) (hb:b < B32):
  Calls Tryz.prog 326 #[x.v,y.v] w fun e w'=>∃p q:Sv,e=.returned (.tuple #[p.v,q.v,.int .i64 0])∧p.Num w' (limbs (a / b))∧q.Num w' (limbs (a % b))∧Gr w w':=by
 have H1:=I (trim_any w x _ hx);rw[vl] at H1;have HY:=I hy;have HA:=I ha;have HL1:=I (limbs_one (n:=b) (by omega) hb);have HBB:=I hb;clear hx hy ha hb;go_enter Tryz.func326,Tryz.ntmps326;go_wp2_with fail;refine cm1 H1 fun u w1 HU G1=>?_
 have HG1:=I G1;have H2:=I (trim_any w1 y _ (HY.gr G1));rw[vl] at H2;clear H1 HY;go_wp2_with fail;refine cm2 H2 fun v w2 hv G2=>?_
 have HG2:=I (HG1.trans G2);have HU2:=I (HU.gr G2);have HV:=I hv;have H3:=I (cmp_any w2 u v _ _ (HU.gr G2) hv);rw[vl,vl] at H3;clear hv HG1 HU H2;obtain⟨B,m,d⟩:=v;have hm:m=1:=by
  have:=HV.len;rw[HL1.out] at this;exact this.symm
 subst hm;simp only[Sv.v] at*;go_wp2_with fail;refine cm0 H3 fun w3 G3=>?_
 have HG3:=I (HG2.trans G3);have HU3:=I (HU2.gr G3);have HV3:=I (HV.gr G3);clear HG2 HU2 HV H3;by_cases hab:a < b
 ·have HC:Hid (cmpN a b=-1):=cmpN_lt hab;rw[HC.out];have H4:=I (make_any w3 u _ HU3 HA);rw[vl] at H4;have E1:Hid (a / b=0):=Nat.div_eq_of_lt hab;have E2:Hid (a % b=a):=Nat.mod_eq_of_lt hab;go_wp2_with fail;refine cm1 H4 fun z w4 HZ G4=>?_
  have HG4:=I (HG3.trans G4);clear H4;go_wp2;go_returns;exact⟨Sv.none,z,rfl,by rw[E1.out,limbs_zero];exact Sv.Num.none _,by rw[E2.out];exact HZ.out,HG4.out⟩
 ·have hcn:decide (cmpN a b < 0)=false:=by
   unfold cmpN;rw[if_neg hab];split<;>simp
  generalize cmpN a b=cm at*;obtain⟨p,ad,hp,hp9,hAe,hbl,d1⟩:=HV3.at (i:=0) Nat.one_pos;simp only at hAe;subst hAe;rw[HL1.out] at hp;obtain rfl:b=p:=by simpa using hp
  rw[add_zero] at d1;have H4:=I (fun W hW=>short_any W u _ b (HU3.gr hW) HA hb0 HBB);rw[vl] at H4;clear hp hp9 hbl;go_wp2_with fail;refine (H4.out _ (Gr.refl _)).mono ?_;rintro e w4 ⟨z,z2,rfl,hz,hz2,G4⟩;have HZ:=I hz;have HZ2:=I hz2;have HG4:=I (HG3.trans G4);clear hz hz2 G4 H4;go_wp2;go_returns;exact⟨z,z2,rfl,HZ.out,HZ2.out,HG4.out⟩
theorem gcd_any (w:World) (x y:Sv) (a b:Nat) (hx:x.Num w (limbs a)) (hy:y.Num w (limbs b)) (ha:(limbs a).length≤1000000) (hb0:0 < b) (hb:b < B32):
  Calls Tryz.prog 332 #[x.v,y.v] w fun e w'=>∃p:Sv,e=.returned p.v∧p.Num w' (limbs (Nat.gcd a b))∧Gr w w':=by
 have H1:=I (trim_any w x _ hx);rw[vl] at H1;have HY:=I hy;have HA:=I ha;have HL1:=I (limbs_one (n:=b) (by omega) hb);have HBB:=I hb;have hb9:b < 4294967296:=hb;clear hx hy ha hb;go_enter Tryz.func332,Tryz.ntmps332;go_wp2_with fail;refine cm1 H1 fun u w1 HU G1=>?_
 have HG1:=I G1;have H2:=I (trim_any w1 y _ (HY.gr G1));rw[vl] at H2;clear H1 HY;go_wp2_with fail;refine cm2 H2 fun v w2 hv G2=>?_
 have HG2:=I (HG1.trans G2);have HU2:=I (HU.gr G2);have HV:=I hv;have hm:v.n=1:=by
  have:=HV.len;rw[HL1.out] at this;exact this.symm
 clear hv HG1 HU H2;obtain⟨B,m,d⟩:=v;simp only at hm;subst hm;simp only[Sv.v] at*;go_wp2;go_loopw [0,1] (fun s0 s1 wr=>s0=.slice u.A u.n u.c∧s1=.slice B 1 d∧wr=w2) (fun _ _ _=>0)
 case atStart=>exact⟨rfl,rfl,rfl⟩
 case round=>
  obtain⟨rfl,rfl,rfl⟩:=hrel;have H3:=I (div_any wr u ⟨B,1,d⟩ a b HU2 HV HA hb0 HBB);have hr9:a % b < 4294967296:=nm (Nat.mod_lt _ hb0) hb9;have HGC:Hid (Nat.gcd b (a % b)=Nat.gcd a b):=by rw[Nat.gcd_comm a b,Nat.gcd_rec b a,Nat.gcd_comm];exact rfl
  go_wp2_with fail;refine H3.mono ?_;rintro e w3 ⟨q,r,rfl,hq,hr,G3⟩;have HG3:=I (HG2.trans G3);have H4:=I (uint_any w3 ⟨B,1,d⟩ b (HV.gr G3) (by omega));have HR:=I hr;clear hq hr G3 H3;generalize a % b=rr at*;go_wp2_with fail;refine cm0 H4 fun w4 G4=>?_
  have HG4:=I (HG3.trans G4);have H5:=I (uint_any w4 r rr (HR.gr G4) (by omega));clear H4;go_wp2_with fail;refine cm0 H5 fun w5 G5=>?_
  have HG5:=I (HG4.trans G5);clear H5;go_wp2;go_loopw [11,13] (fun s s' wx=>∃p q:Nat,s=.int .u64 p∧s'=.int .u64 q∧p < 4294967296∧q < 4294967296∧Hid (Nat.gcd p q=Nat.gcd a b)∧Hid (Gr w wx)) (fun _ s' _=>(intOf s').toNat)
  case atStart=>exact⟨b,rr,rfl,rfl,hb9,hr9,HGC,HG5⟩
  case round=>
   obtain⟨p,q,rfl,rfl,hp,hq,hgc,hG⟩:=hrel;by_cases h0:0 < q
   ·have HN:Hid (Nat.gcd q (p % q)=Nat.gcd a b):=by rw[← hgc.out,Nat.gcd_comm p q,Nat.gcd_rec q p,Nat.gcd_comm];exact rfl
    have hlt:p % q < q:=Nat.mod_lt _ h0;have E0:Hid ((p:Int) % (q:Int)=((p % q:Nat):Int)):=(Int.natCast_emod p q).symm;have HGd:Hid (Gr w wr.drew):=hG.drew;have hq0:¬(q:Int)=0:=by omega
    have hq1:((q:Int) == 0)=false:=by simp;omega
    go_wp2;go_region
    all_goals go_wp2
    all_goals go_roundw
    all_goals rw[E0.out]
    all_goals first
     | exact⟨q,p % q,rfl,rfl,hq,by omega,HN,HGd⟩
     | (simp[intOf];exact hlt)
     | (simp[intOf];omega)
   ·obtain rfl:q=0:=by omega
    have hgg:Hid (Nat.gcd a b=p):=by rw[← hgc.out];exact Nat.gcd_zero_right p
    have HO:=I (fun W=>of_any W p (by omega));go_wp2_with fail;refine cm1 (HO.out _) fun z w6 HZ G6=>?_
    have HG6:=I (hG.trans G6);clear HO;go_wp2;go_ret;exact⟨z,rfl,by rw[hgg.out];exact HZ.out,HG6.out⟩
theorem rdiv_any (w:World) (x y:Sv) (a b:Nat) (hx:x.Num w (limbs a)) (hy:y.Num w (limbs b)) (ha:a < 18446744073709551616) (hb0:0 < b) (hb:b < 18446744073709551616):
  Calls Tryz.prog 179 #[x.v,y.v] w fun e w'=>∃p q:Sv,e=.returned (.tuple #[p.v,q.v,.int .i64 0])∧p.Num w' (limbs (a / b))∧q.Num w' (limbs (a % b))∧Gr w w':=by
 have H1:=I (ruint_any w x a hx ha);have HY:=I hy;have hbd:((b:Int) == 0)=false:=by simp;omega
 have hbd2:¬(b:Int)=0:=by omega
 have hbd3:¬b=0:=by omega
 have hq:a / b < 18446744073709551616:=nj (Nat.div_le_self a b) ha;have hr:a % b < 18446744073709551616:=nj (Nat.mod_le a b) ha;have E1:(a:Int) / (b:Int)=((a / b:Nat):Int):=(Int.natCast_ediv a b).symm;have E2:(a:Int) % (b:Int)=((a % b:Nat):Int):=(Int.natCast_emod a b).symm;have E3:=tdiv_nat a b;have E4:=tmod_nat a b;have HD1:=I (fun W=>rnof_any W (a / b) hq);have HD2:=I (fun W=>rnof_any W (a % b) hr);generalize a / b=qv at*;generalize a % b=rv at*;have E5:IntKind.u64.wrap (qv:Int)=(qv:Int):=IntWalk.u64_in _ (by omega);clear hx hy;go_enter Tryz.func179,Tryz.ntmps179;go_wp2_with fail;go_at_call 253
 refine cm0 H1 fun w1 G1=>?_
 have HG1:=I G1;have H2:=I (ruint_any w1 y b (HY.gr G1) hb);clear H1;go_wp2_with fail;go_at_call 253
 refine cm0 H2 fun w2 G2=>?_
 have HG2:=I (HG1.trans G2);clear H2 HG1 HY;go_wp2_with fail
 first | (go_region_held3 (fun W=>True) (first | go_keep | trivial) (first | (go_at_call 114;refine (HD2.out w3).mono ?_;rintro e w4 ⟨v,rfl,hv,G4⟩;have HV:=I hv;have HU4:=I (HU.out.gr G4);have HG4:=I (HG3.out.trans G4);clear hv G4) | (go_at_call 114;refine (HD1.out _).mono ?_;rintro e w3 ⟨u,rfl,hu,G3⟩;have HU:=I hu;have HG3:=I (HG2.out.drew.trans G3);clear hu G3))) | fail
 go_wp2;go_returns;exact⟨u,v,rfl,HU4.out,HV.out,HG4.out⟩
theorem num_unique {w:World} {x:Sv} {l l':List Nat} (h:x.Num w l) (h':x.Num w l'):l=l':=by
 apply List.ext_getElem?
 intro i;rcases Nat.lt_or_ge i x.n with hi | hi
 ·obtain⟨y,ad,hy,_,hA,_,hc⟩:=h.at hi;obtain⟨z,ad',hz,_,hA',_,hc'⟩:=h'.at hi;rw[hA] at hA';injection hA' with hA';subst hA';rw[hc] at hc';simp only[oq,Value.int.injEq,true_and] at hc';rw[hy,hz];exact congrArg some (by omega)
 ·rw[List.getElem?_eq_none (by rw[h.len];exact hi),List.getElem?_eq_none (by rw[h'.len];exact hi)]
open Classical in
noncomputable def numOf (w:World) (v:Value):Nat:=if h:∃m,∃x:Sv,v=x.v∧x.Num w (limbs m) then Classical.choose h else 0
theorem numOf_eq {w:World} {x:Sv} {m:Nat} (h:x.Num w (limbs m)):numOf w x.v=m:=by
 have he:∃m,∃y:Sv,x.v=y.v∧y.Num w (limbs m):=⟨m,x,rfl,h⟩;unfold numOf;rw[dif_pos he];obtain⟨y,hy,hn⟩:=Classical.choose_spec he;obtain⟨A,n,c⟩:=x;obtain⟨B,k,d⟩:=y;simp only[Sv.v,Value.slice.injEq] at hy;obtain⟨rfl,rfl,rfl⟩:=hy;exact limbs_inj (num_unique hn h)
theorem rgcd_any (w:World) (x y:Sv) (a b:Nat) (hx:x.Num w (limbs a)) (hy:y.Num w (limbs b)) (ha:a < 18446744073709551616) (hb:b < 18446744073709551616):
  Calls Tryz.prog 178 #[x.v,y.v] w fun e w'=>∃p:Sv,e=.returned p.v∧p.Num w' (limbs (Nat.gcd a b))∧Gr w w':=by
 have hl:∀n,n < 18446744073709551616→(limbs n).length≤1000000:=fun n h=>nt (limbs_len_le (k:=2) (by rw[B32_eq];exact h)) (by decide)
 have H1:=I (rmake_any w x _ hx (hl a ha));rw[vl] at H1;have HY:=I hy;have HLB:=I (hl b hb);clear hx hy hl;go_enter Tryz.func178,Tryz.ntmps178;go_wp2_with fail;go_at_call 180
 refine cm1 H1 fun u w1 HU G1=>?_
 have HG1:=I G1;have H2:=I (rmake_any w1 y _ (HY.gr G1) HLB);rw[vl] at H2;clear H1 HY;go_wp2_with fail;go_at_call 180
 refine cm1 H2 fun v w2 HV G2=>?_
 have HG2:=I (HG1.trans G2);have HU2:=I (HU.gr G2);clear HG1 HU H2;simp only[Sv.v] at*;go_wp2;go_loopw [0,1] (fun s0 s1 wr=>∃(p q:Sv) (m n:Nat),s0=.slice p.A p.n p.c∧s1=.slice q.A q.n q.c∧m < 18446744073709551616∧n < 18446744073709551616∧Hid (Nat.gcd m n=Nat.gcd a b)∧Hid ((limbs n).length=q.n)∧Hid (p.Num wr (limbs m))∧Hid (q.Num wr (limbs n))∧Hid (Gr w wr)∧Hid (n≤n)) (fun _ s1 wx=>numOf wx s1)
 case atStart=>exact⟨u,v,a,b,rfl,rfl,ha,hb,rfl,HV.len,HU2,HV,HG2,nr _⟩
 case round=>
  obtain⟨p,q,m,n,rfl,rfl,hm,hn,hgc,hln,hP,hQ,hG,_⟩:=hrel;by_cases h0:n=0
  ·have hq1:¬0 < q.n:=by
    have:q.n=0:=by rw[← hln.out,h0,limbs_zero];rfl
    omega
   have hq0:decide ((0:Int) < q.n)=false:=by simp;omega
   have hgg:Hid (Nat.gcd a b=m):=by rw[← hgc.out,h0];exact Nat.gcd_zero_right m
   clear h0;go_wp2;go_ret;exact⟨p,rfl,by rw[hgg.out];exact hP.out,hG.out⟩
  ·have hq1:0 < q.n:=by
    have:q.n≠0:=by rw[← hln.out];exact fun e=>h0 (limbs_len0.1 e)
    omega
   have hq0:decide ((0:Int) < q.n)=true:=by simp;omega
   have HD:=I (rdiv_any wr p q m n hP hQ hm (by omega) hn);have hmn:m % n < n:=Nat.mod_lt _ (by omega);have HN:Hid (Nat.gcd n (m % n)=Nat.gcd a b):=by rw[← hgc.out,Nat.gcd_comm m n,Nat.gcd_rec n m,Nat.gcd_comm];exact rfl
   have HM:=I (numOf_eq hQ);simp only[Sv.v] at HM;generalize m % n=rr at*;go_wp2_with fail;go_at_call 179
   refine HD.mono ?_;rintro e w3 ⟨z,r,rfl,hz,hr,G3⟩;have HQ3:=I (hQ.gr G3);have HR:=I hr;have HG3:=I (hG.trans G3);have HM2:=I (numOf_eq hr);simp only[Sv.v] at HM2;clear hz hr G3 HD;simp only[Sv.v];go_wp2;go_roundw
   case rel=>exact⟨q,r,n,rr,rfl,rfl,hn,by omega,HN,HR.len,HQ3,HR,HG3,nr _⟩
   case measure=>
    rw[HM.out,HM2.out];exact hmn
theorem quot_any (w:World) (s:Bool) (x y:Sv) (a b:Nat) (hx:x.Num w (limbs a)) (hy:y.Num w (limbs b)) (ha:(limbs a).length≤1000000) (hb0:0 < b) (hb:b < B32):
  Calls Tryz.prog 259 #[.bool s,x.v,y.v] w fun e w'=>∃r:Rv,e=.returned r.v∧r.Is w' (quot s a b)∧Gr w w':=by
 have b1:=Bk.made w 38 Rl;have HG1:=I ((Gr.refl w).alloc (.cells Rl 38));have HB:=I b1;have H1:=I (make_any _ x _ (hx.gr HG1) ha);rw[vl] at H1;have HY:=I (hy.gr HG1);have HA:=I ha;have HBB:=I hb;clear hx hy ha hb b1;go_enter Tryz.func259,Tryz.ntmps259;go_wp2_with fail;refine cm1 H1 fun u w1 HU G1=>?_
 have HG2:=I (HG1.trans G1);have HB2:=I (G1.bk HB);have H2:=I (make_any w1 y _ (HY.gr G1) (nt (limbs_len_le (k:=1) (by rw[Nat.pow_one];exact HBB.out)) (by decide)));rw[vl] at H2;have hpz:=I (nr w.heap.size);clear H1 HY HB;generalize hpe:w.heap.size=p at*;have HPE:=I hpe;clear hpe;obtain⟨A,n,c⟩:=u;have HN:=I HU.len;simp only[Sv.v] at*;by_cases h0:a=0
 ·have hn0:n=0:=by rw[← HN.out,h0,limbs_zero];rfl
  subst hn0;have HQ:Hid (quot s a b=Q.zero):=by unfold quot;exact if_pos h0
  clear h0;have c0_:=HB2.c3;have fz:=HB2.frozen;go_wp2;refine pex ?_;refine ks HB2 fun W5 B5 F5=>?_
  have d_:=B5.c3;refine bret Tryz.results259 ?_;exact⟨⟨false,Sv.none,Sv.none⟩,rfl,by rw[HQ.out];exact⟨rfl,by rw[limbs_zero];exact Sv.Num.none _,by rw[limbs_zero];exact Sv.Num.none _⟩,HG2.fr_at F5 (Nat.le_of_eq HPE)⟩
 ·have hn0:n≠0:=fun e=>h0 (limbs_len0.1 (HN.trans e))
  have hnd:((n:Int) == 0)=false:=by simp;omega
  go_wp2_with fail;refine cm2 H2 fun v w2 hv G2=>?_
  have HV:=I hv;have HG3:=I (HG2.trans G2);have HU3:=I (HU.gr G2);have HB3:=I (G2.bk HB2);have H3:=I (unit_any w2 v b hv);clear hv HG2 HU HB2 H2;go_wp2_with fail;refine cm0 H3 fun w3 G3=>?_
  have HG4:=I (HG3.trans G3);have HU4:=I (HU3.gr G3);have HV4:=I (HV.gr G3);have HB4:=I (G3.bk HB3);clear HG3 HU3 HB3 H3 HV;by_cases hb1:b=1
  ·have hbd:decide (b=1)=true:=by simp[hb1]
   have HQ:Hid (quot s a b=⟨s,a,0⟩):=by
    unfold quot;rw[if_neg h0,hb1,Nat.gcd_one_right,Nat.div_one];exact rfl
   have c0_:=HB4.c3;have fz:=HB4.frozen;go_wp2;refine pex ?_;refine ks HB4 fun W5 B5 F5=>?_
   have d_:=B5.c3;refine bret Tryz.results259 ?_;exact⟨⟨s,⟨A,n,c⟩,Sv.none⟩,rfl,by rw[HQ.out];exact⟨rfl,(HU4.fr F5 HB4 (noLimb_rat _ _ _ _ _ _ _)),by rw[limbs_zero];exact Sv.Num.none _⟩,HG4.fr_at F5 (Nat.le_of_eq HPE)⟩
  ·have hbd:decide (b=1)=false:=by simp[hb1]
   have H5:=I (gcd_any w3 ⟨A,n,c⟩ v a b HU4 HV4 HA hb0 HBB);have hg0:0 < Nat.gcd a b:=Nat.gcd_pos_of_pos_right a hb0;have hgb:Nat.gcd a b < B32:=nj (Nat.le_of_dvd hb0 (Nat.gcd_dvd_right a b)) HBB;have HQ0:Hid (quot s a b=⟨s,a / Nat.gcd a b,den0 (b / Nat.gcd a b)⟩):=by unfold quot;exact if_neg h0
   go_wp2_with fail;refine cm2 H5 fun z w4 hz G4=>?_
   have HZ:=I hz;have HG5:=I (HG4.trans G4);have HU5:=I (HU4.gr G4);have HV5:=I (HV4.gr G4);have HB5:=I (G4.bk HB4);have H6:=I (unit_any w4 z _ hz);clear hz HG4 HU4 HV4 HB4 H5;generalize Nat.gcd a b=g at*;go_wp2_with fail;refine cm0 H6 fun w5 G5=>?_
   have HG6:=I (HG5.trans G5);have HU6:=I (HU5.gr G5);have HV6:=I (HV5.gr G5);have HZ6:=I (HZ.gr G5);have HB6:=I (G5.bk HB5);clear HG5 HU5 HV5 HB5 H6 HZ;by_cases hg1:g=1
   ·have hgd:decide (g=1)=true:=by simp[hg1]
    have HQ:Hid (quot s a b=⟨s,a,b⟩):=by
     rw[HQ0.out,hg1,Nat.div_one,Nat.div_one];exact congrArg (Q.mk s a) (if_neg hb1)
    have H7:=I (unit_any w5 v b HV6);go_wp2_with fail;refine cm0 H7 fun w6 G6=>?_
    have HG7:=I (HG6.trans G6);have HU7:=I (HU6.gr G6);have HV7:=I (HV6.gr G6);have HB7:=I (G6.bk HB6);clear H7;have c0_:=HB7.c3;have fz:=HB7.frozen;go_wp2;refine pex ?_;refine ks HB7 fun W5 B5 F5=>?_
    have d_:=B5.c3;refine bret Tryz.results259 ?_;exact⟨⟨s,⟨A,n,c⟩,v⟩,rfl,by rw[HQ.out];exact⟨rfl,(HU7.fr F5 HB7 (noLimb_rat _ _ _ _ _ _ _)),(HV7.fr F5 HB7 (noLimb_rat _ _ _ _ _ _ _))⟩,HG7.fr_at F5 (Nat.le_of_eq HPE)⟩
   ·have hgd:decide (g=1)=false:=by simp[hg1]
    have H7:=I (div_any w5 ⟨A,n,c⟩ z a g HU6 HZ6 HA hg0 hgb);go_wp2_with fail;refine H7.mono ?_;rintro e w6 ⟨q1,r1,rfl,hq1,hr1,G6⟩;have HN1:=I hq1;have HG7:=I (HG6.trans G6);have HB7:=I (G6.bk HB6);have H8:=I (div_any w6 v z b g (HV6.gr G6) (HZ6.gr G6) (nt (limbs_len_le (k:=1) (by rw[Nat.pow_one];exact HBB.out)) (by decide)) hg0 hgb);clear hq1 hr1 G6 H7 HG6 HB6;go_wp2_with fail;refine H8.mono ?_;rintro e w7 ⟨q2,r2,rfl,hq2,hr2,G7⟩;have HN2:=I hq2;have HN3:=I (HN1.gr G7);have HG8:=I (HG7.trans G7);have HB8:=I (G7.bk HB7);have H9:=I (unit_any w7 q2 _ hq2);clear hq2 hr2 G7 H8 HG7 HB7 HN1;go_wp2_with fail;refine cm0 H9 fun w8 G8=>?_
    have HN4:=I (HN2.gr G8);have HN5:=I (HN3.gr G8);have HG9:=I (HG8.trans G8);have HB9:=I (G8.bk HB8);clear H9 HG8 HB8 HN2 HN3;by_cases hd1:b / g=1
    ·have hdd:decide (b / g=1)=true:=by simp[hd1]
     have HQ:Hid (quot s a b=⟨s,a / g,0⟩):=by rw[HQ0.out,hd1];exact rfl
     have c0_:=HB9.c3;have fz:=HB9.frozen;go_wp2;refine pex ?_;refine ks HB9 fun W5 B5 F5=>?_
     have d_:=B5.c3;refine bret Tryz.results259 ?_;exact⟨⟨s,q1,Sv.none⟩,rfl,by rw[HQ.out];exact⟨rfl,(HN5.fr F5 HB9 (noLimb_rat _ _ _ _ _ _ _)),by rw[limbs_zero];exact Sv.Num.none _⟩,HG9.fr_at F5 (Nat.le_of_eq HPE)⟩
    ·have hdd:decide (b / g=1)=false:=by simp[hd1]
     have HQ:Hid (quot s a b=⟨s,a / g,b / g⟩):=by
      rw[HQ0.out];exact congrArg (Q.mk s (a / g)) (if_neg hd1)
     have c0_:=HB9.c3;have fz:=HB9.frozen;go_wp2;refine pex ?_;refine ks HB9 fun W5 B5 F5=>?_
     have d_:=B5.c3;refine bret Tryz.results259 ?_;exact⟨⟨s,q1,q2⟩,rfl,by rw[HQ.out];exact⟨rfl,(HN5.fr F5 HB9 (noLimb_rat _ _ _ _ _ _ _)),(HN4.fr F5 HB9 (noLimb_rat _ _ _ _ _ _ _))⟩,HG9.fr_at F5 (Nat.le_of_eq HPE)⟩
theorem imake_any (w:World) (s:Bool) (x:Sv) (a:Nat) (hx:x.Num w (limbs a)) (ha:(limbs a).length≤1000000):
  Calls Tryz.prog 214 #[.bool s,x.v] w fun e w'=>∃r:Iv,e=.returned r.v∧r.Is w' (s&&decide (0 < a)) a∧Gr w w':=by
 have b1:=Bk.made w 169 #[.bool false,Nl];have HG1:=I ((Gr.refl w).alloc (.cells #[.bool false,Nl] 169));have HB:=I b1;have H1:=I (make_any _ x _ (hx.gr HG1) ha);rw[vl] at H1;clear hx ha b1;go_enter Tryz.func214,Tryz.ntmps214;go_wp2_with fail;refine cm1 H1 fun u w1 HU G1=>?_
 have HG2:=I (HG1.trans G1);have HB2:=I (G1.bk HB);clear H1 HB;generalize hpe:w.heap.size=p at*;have HPE:=I hpe;clear hpe;obtain⟨A,n,c⟩:=u;have HN:=I HU.len;simp only[Sv.v] at*;obtain⟨q,hq⟩:∃q,q=(s&&decide (0 < a)):=⟨_,rfl⟩;have HQ:=I hq;have hqn:q=(s&&decide ((0:Int) < n)):=by
  rw[hq]
  congr 1
  by_cases h:a=0
  ·have:n=0:=by rw[← HN.out,h,limbs_zero];rfl
   simp[h,this]
  ·have:n≠0:=fun e=>h (limbs_len0.1 (HN.trans e))
   rw[dt (by omega),dt (by omega)]
 obtain⟨B5,F5⟩:=HB2.put2 (.bool q) (.slice A n c);have c0_:=HB2.c2;have fz:=HB2.frozen;have H5:=I F5;obtain⟨d0,d1⟩:=B5.c2;clear F5 B5 hq;cases s
 ·obtain rfl:q=false:=by rw[hqn];rfl
  clear hqn;go_wp2;generalize (w1.setCell ⟨p,0,none⟩ (.bool false)).setCell ⟨p,1,none⟩ (.slice A n c)=W5 at*;refine pex ?_;refine bodyPost_ret (by simp[results,Tryz.results214,go_sem,d0,d1];try rfl) rfl ?_;exact⟨⟨false,⟨A,n,c⟩⟩,rfl,⟨HQ.out,HU.fr H5 HB2 (noLimb_int _ _ _ _)⟩,HG2.fr_at H5 (Nat.le_of_eq HPE)⟩
 ·by_cases hn:n=0
  ·subst hn;have hd:decide ((0:Int) < (0:Nat))=false:=rfl;obtain rfl:q=false:=by rw[hqn,hd];rfl
   clear hqn;go_wp2;generalize (w1.setCell ⟨p,0,none⟩ (.bool false)).setCell ⟨p,1,none⟩ (.slice A 0 c)=W5 at*;refine pex ?_;refine bodyPost_ret (by simp[results,Tryz.results214,go_sem,d0,d1];try rfl) rfl ?_;exact⟨⟨false,⟨A,0,c⟩⟩,rfl,⟨HQ.out,HU.fr H5 HB2 (noLimb_int _ _ _ _)⟩,HG2.fr_at H5 (Nat.le_of_eq HPE)⟩
  ·have hd:decide ((0:Int) < n)=true:=by simp;omega
   have hd2:decide (0 < n)=true:=by simp;omega
   obtain rfl:q=true:=by rw[hqn,hd];rfl
   clear hqn;go_wp2;generalize (w1.setCell ⟨p,0,none⟩ (.bool true)).setCell ⟨p,1,none⟩ (.slice A n c)=W5 at*;refine pex ?_;refine bodyPost_ret (by simp[results,Tryz.results214,go_sem,d0,d1];try rfl) rfl ?_;exact⟨⟨true,⟨A,n,c⟩⟩,rfl,⟨HQ.out,HU.fr H5 HB2 (noLimb_int _ _ _ _)⟩,HG2.fr_at H5 (Nat.le_of_eq HPE)⟩
def isg (s:Bool) (m:Nat):Int:=if m=0 then 0 else if s then -1 else 1
theorem isign_any (w:World) (x:Iv) (s:Bool) (m:Nat) (hx:x.Is w s m) (hm:(limbs m).length≤1000000):
  Calls Tryz.prog 149 #[x.v] w fun e w'=>e=.returned (.int .i64 (isg s m))∧Gr w w':=by
 obtain⟨s',mag⟩:=x;obtain rfl:s'=s:=hx.neg;have b1:=Bk.made w 169 #[.bool s',mag.v];have HG1:=I ((Gr.refl w).alloc (.cells #[.bool s',mag.v] 169));have HB:=I b1;have H1:=I (bits_any _ mag _ (hx.mag.gr HG1) hm);rw[vl] at H1;have c1:=b1.cell 1;clear hx hm b1;simp only[Iv.v] at*;go_enter Tryz.func149,Tryz.ntmps149;go_wp2_with fail;refine H1.mono ?_;rintro e w1 ⟨⟨r,rfl,hr,hr0⟩,G1⟩;have HG2:=I (HG1.trans G1);have c0:=(G1.bk HB).cell 0;clear G1 H1 HB c1;by_cases h0:m=0
 ·have HE:Hid (isg s' m=0):=by unfold isg;exact if_pos h0
  rw[dt h0] at hr0;go_wp2;go_ret;exact⟨by rw[HE.out];rfl,HG2.out⟩
 ·have HE:Hid (isg s' m=if s' then -1 else 1):=by unfold isg;exact if_neg h0
  rw[df h0] at hr0;cases s'
  ·go_wp2;go_ret;exact⟨by rw[HE.out];rfl,HG2.out⟩
  ·go_wp2;go_ret;exact⟨by rw[HE.out];rfl,HG2.out⟩
def orOne (m:Nat):Nat:=if m=0 then 1 else m
theorem un_or (q:Q):q.un=orOne q.den:=rfl
theorem rimake_any (w:World) (s:Bool) (x:Sv) (a:Nat) (hx:x.Num w (limbs a)) (ha:(limbs a).length≤1000000):
  Calls Tryz.prog 113 #[.bool s,x.v] w fun e w'=>∃r:Iv,e=.returned r.v∧r.Is w' (s&&decide (0 < a)) a∧Gr w w':=by
 have b1:=Bk.made w 169 #[.bool false,Nl];have HG1:=I ((Gr.refl w).alloc (.cells #[.bool false,Nl] 169));have HB:=I b1;have H1:=I (rmake_any _ x _ (hx.gr HG1) ha);rw[vl] at H1;clear hx ha b1;go_enter Tryz.func113,Tryz.ntmps113;go_wp2_with fail;refine cm1 H1 fun u w1 HU G1=>?_
 have HG2:=I (HG1.trans G1);have HB2:=I (G1.bk HB);clear H1 HB;generalize hpe:w.heap.size=p at*;have HPE:=I hpe;clear hpe;obtain⟨A,n,c⟩:=u;have HN:=I HU.len;simp only[Sv.v] at*;obtain⟨q,hq⟩:∃q,q=(s&&decide (0 < a)):=⟨_,rfl⟩;have HQ:=I hq;have hqn:q=(s&&decide ((0:Int) < n)):=by
  rw[hq]
  congr 1
  by_cases h:a=0
  ·have:n=0:=by rw[← HN.out,h,limbs_zero];rfl
   simp[h,this]
  ·have:n≠0:=fun e=>h (limbs_len0.1 (HN.trans e))
   rw[dt (by omega),dt (by omega)]
 obtain⟨B5,F5⟩:=HB2.put2 (.bool q) (.slice A n c);have c0_:=HB2.c2;have fz:=HB2.frozen;have H5:=I F5;obtain⟨d0,d1⟩:=B5.c2;clear F5 B5 hq;cases s
 ·obtain rfl:q=false:=by rw[hqn];rfl
  clear hqn;go_wp2;generalize (w1.setCell ⟨p,0,none⟩ (.bool false)).setCell ⟨p,1,none⟩ (.slice A n c)=W5 at*;refine pex ?_;refine bodyPost_ret (by simp[results,Tryz.results113,go_sem,d0,d1];try rfl) rfl ?_;exact⟨⟨false,⟨A,n,c⟩⟩,rfl,⟨HQ.out,HU.fr H5 HB2 (noLimb_int _ _ _ _)⟩,HG2.fr_at H5 (Nat.le_of_eq HPE)⟩
 ·by_cases hn:n=0
  ·subst hn;have hd:decide ((0:Int) < (0:Nat))=false:=rfl;obtain rfl:q=false:=by rw[hqn,hd];rfl
   clear hqn;go_wp2;generalize (w1.setCell ⟨p,0,none⟩ (.bool false)).setCell ⟨p,1,none⟩ (.slice A 0 c)=W5 at*;refine pex ?_;refine bodyPost_ret (by simp[results,Tryz.results113,go_sem,d0,d1];try rfl) rfl ?_;exact⟨⟨false,⟨A,0,c⟩⟩,rfl,⟨HQ.out,HU.fr H5 HB2 (noLimb_int _ _ _ _)⟩,HG2.fr_at H5 (Nat.le_of_eq HPE)⟩
  ·have hd:decide ((0:Int) < n)=true:=by simp;omega
   have hd2:decide (0 < n)=true:=by simp;omega
   obtain rfl:q=true:=by rw[hqn,hd];rfl
   clear hqn;go_wp2;generalize (w1.setCell ⟨p,0,none⟩ (.bool true)).setCell ⟨p,1,none⟩ (.slice A n c)=W5 at*;refine pex ?_;refine bodyPost_ret (by simp[results,Tryz.results113,go_sem,d0,d1];try rfl) rfl ?_;exact⟨⟨true,⟨A,n,c⟩⟩,rfl,⟨HQ.out,HU.fr H5 HB2 (noLimb_int _ _ _ _)⟩,HG2.fr_at H5 (Nat.le_of_eq HPE)⟩
theorem rone_any (w:World) (x:Sv) (m:Nat) (hx:x.Num w (limbs m)) (hm:(limbs m).length≤1000000):
  Calls Tryz.prog 125 #[x.v] w fun e w'=>∃y:Sv,e=.returned y.v∧y.Num w' (limbs (orOne m))∧Gr w w':=by
 have H1:=I (rmake_any w x _ hx hm);rw[vl] at H1;clear hx hm;go_enter Tryz.func125,Tryz.ntmps125;go_wp2_with fail;go_at_call 180
 refine cm2 H1 fun u w1 hu G1=>?_
 obtain⟨A,n,c⟩:=u;have HN:=I hu.len;have HU:=I hu;have HG1:=I G1;clear hu H1;simp only[Sv.v] at*;by_cases h0:m=0
 ·have hn0:n=0:=by rw[← HN.out,h0,limbs_zero];rfl
  subst hn0;have HR:Hid (Lb (w1.alloc (.cells #[.int .u32 1] 300)) w1.heap.size [1]):=Bk.made w1 300 #[.int .u32 1];have HG:=I (HG1.alloc (.cells #[.int .u32 1] 300));have HE:Hid (orOne m=1):=if_pos h0;clear h0;go_wp2;go_ret;exact⟨⟨some ⟨w1.heap.size,0,none⟩,1,1⟩,rfl,by rw[HE.out,limbs_one (by decide) (by decide)];exact num_of_row HR (Lim.one (by decide)) rfl (by decide),HG.out⟩
 ·have hn0:n≠0:=fun e=>h0 (limbs_len0.1 (HN.trans e))
  have hnd:((n:Int) == 0)=false:=by simp;omega
  have HE:Hid (orOne m=m):=if_neg h0;clear h0;go_wp2;go_ret;exact⟨⟨A,n,c⟩,rfl,by rw[HE.out];exact HU.out,HG1.out⟩
theorem rquot_any (w:World) (s:Bool) (x y:Sv) (a b:Nat) (hx:x.Num w (limbs a)) (hy:y.Num w (limbs b)) (ha:a < 18446744073709551616) (hb0:0 < b) (hb:b < 18446744073709551616):
  Calls Tryz.prog 112 #[.bool s,x.v,y.v] w fun e w'=>∃r:Rv,e=.returned r.v∧r.Is w' (quot s a b)∧Gr w w':=by
 have b1:=Bk.made w 38 Rl;have HG1:=I ((Gr.refl w).alloc (.cells Rl 38));have HB:=I b1;have HX:=I (hx.gr HG1);have HY:=I (hy.gr HG1);have H1:=I (rgcd_any _ x y a b HX HY ha hb);have hg0:0 < Nat.gcd a b:=Nat.gcd_pos_of_pos_right a hb0;have hgb:Nat.gcd a b < 18446744073709551616:=nj (Nat.le_of_dvd hb0 (Nat.gcd_dvd_right a b)) hb;have HQ0:Hid (quot s a b=⟨s&&decide (0 < a / Nat.gcd a b),a / Nat.gcd a b,den0 (b / Nat.gcd a b)⟩):=by
  unfold quot;by_cases h0:a=0
  ·rw[if_pos h0,h0,Nat.zero_div,Nat.gcd_zero_left,Nat.div_self hb0,df (by omega),Bool.and_false];exact rfl
  ·have:0 < a / Nat.gcd a b:=Nat.div_pos (Nat.le_of_dvd (by omega) (Nat.gcd_dvd_left a b)) hg0;rw[if_neg h0,dt this,Bool.and_true];exact rfl
 clear hx hy b1;go_enter Tryz.func112,Tryz.ntmps112;go_wp2_with fail;go_at_call 178
 refine cm1 H1 fun z w1 HZ G1=>?_
 have HG2:=I (HG1.trans G1);have HX1:=I (HX.gr G1);have HY1:=I (HY.gr G1);have HB1:=I (G1.bk HB);clear H1 HX HY HB;generalize Nat.gcd a b=g at*;have H2:=I (rdiv_any w1 x z a g HX1 HZ ha hg0 hgb);go_wp2_with fail;go_at_call 179
 refine H2.mono ?_;rintro e w2 ⟨q1,r1,rfl,hq1,hr1,G2⟩;have HN1:=I hq1;have HG3:=I (HG2.trans G2);have HB2:=I (G2.bk HB1);have H3:=I (rdiv_any w2 y z b g (HY1.gr G2) (HZ.gr G2) hb hg0 hgb);clear hq1 hr1 G2 H2 HB1;go_wp2_with fail;go_at_call 179
 refine H3.mono ?_;rintro e w4 ⟨q2,r2,rfl,hq2,hr2,G3⟩;have HN2:=I hq2;have HN3:=I (HN1.gr G3);have HG4:=I (HG3.trans G3);have HBs:=I (G3.bk HB2);clear hq2 hr2 G3 H3 HB2 HN1;generalize a / g=m at*;generalize b / g=k at*;generalize hpe:w.heap.size=p at*;have HPE:=I hpe;clear hpe;obtain⟨r0,r1',r2'⟩:=HBs.c3;have fz:=HBs.frozen;obtain⟨A,n,c⟩:=q1;obtain⟨B,l,d⟩:=q2;have hn:=I HN3.len;have hl:=I HN2.len;simp only[Sv.v] at*
 -- the sign
 have key:∀(S:Bool) (K:Nat),S=(s&&decide ((0:Int) < n))→K=den0 k→Hid (quot s a b=⟨S,m,K⟩):=fun S K hS hK=>by
  rw[HQ0.out,hS,hK];have:decide (0 < m)=decide ((0:Int) < n):=by
   by_cases h:m=0
   ·have:n=0:=by rw[← hn.out,h,limbs_zero];rfl
    simp[h,this]
   ·have:n≠0:=fun e=>h (limbs_len0.1 (hn.trans e))
    rw[dt (by omega),dt (by omega)]
  rw[this];exact rfl
 by_cases hl1:l=1
 ·subst hl1;obtain⟨y,ad,hy,hy9,hA,hb',dd⟩:=HN2.at (i:=0) Nat.one_pos;simp only at hA;subst hA;have hky:k=y:=by
   have h:=vl k
   match hh:limbs k,hl.out with
   | [z],_=>
    rw[hh] at hy h;obtain rfl:z=y:=by simpa using hy
    rw[← h];exact (show val [z]=z by simp[val])
  rw[add_zero] at dd;clear hy hb' hy9;by_cases hy1:y=1
  ·have hk1:Hid (0=den0 k):=by unfold den0;rw[if_pos (hky.trans hy1)];exact rfl
   subst hy1;clear hky;cases s
   ·have HQQ:=key false (0) (by rfl) (hk1.out);clear key;go_wp2;refine pex ?_;refine ks HBs fun W5 B5 F5=>?_
    have d_:=B5.c3;refine bret Tryz.results112 ?_;exact⟨⟨false,⟨A,n,c⟩,Sv.none⟩,rfl,by rw[HQQ.out];exact⟨rfl,HN3.fr F5 HBs (noLimb_rat _ _ _ _ _ _ _),by rw[limbs_zero];exact Sv.Num.none _⟩,HG4.fr_at F5 (Nat.le_of_eq HPE)⟩
   ·by_cases hn0:n=0
    ·subst hn0;have HQQ:=key false (0) (by rfl) (hk1.out);clear key;go_wp2;refine pex ?_;refine ks HBs fun W5 B5 F5=>?_
     have d_:=B5.c3;refine bret Tryz.results112 ?_;exact⟨⟨false,⟨A,0,c⟩,Sv.none⟩,rfl,by rw[HQQ.out];exact⟨rfl,HN3.fr F5 HBs (noLimb_rat _ _ _ _ _ _ _),by rw[limbs_zero];exact Sv.Num.none _⟩,HG4.fr_at F5 (Nat.le_of_eq HPE)⟩
    ·have hn1:decide ((0:Int) < n)=true:=by simp;omega
     have hn2:decide (0 < n)=true:=by simp;omega
     have hn3:0 < n:=by omega
     have HQQ:=key true (0) (by rw[hn1];rfl) (hk1.out);clear key;go_wp2;refine pex ?_;refine ks HBs fun W5 B5 F5=>?_
     have d_:=B5.c3;refine bret Tryz.results112 ?_;exact⟨⟨true,⟨A,n,c⟩,Sv.none⟩,rfl,by rw[HQQ.out];exact⟨rfl,HN3.fr F5 HBs (noLimb_rat _ _ _ _ _ _ _),by rw[limbs_zero];exact Sv.Num.none _⟩,HG4.fr_at F5 (Nat.le_of_eq HPE)⟩
  ·have hyd:((y:Int) == 1)=false:=by simp;omega
   have hk1:Hid (k=den0 k):=by unfold den0;rw[if_neg (by rw[hky];exact hy1)];exact rfl
   clear hky;cases s
   ·have HQQ:=key false (k) (by rfl) (hk1.out);clear key;go_wp2;refine pex ?_;refine ks HBs fun W5 B5 F5=>?_
    have d_:=B5.c3;refine bret Tryz.results112 ?_;exact⟨⟨false,⟨A,n,c⟩,⟨some ad,1,d⟩⟩,rfl,by rw[HQQ.out];exact⟨rfl,HN3.fr F5 HBs (noLimb_rat _ _ _ _ _ _ _),HN2.fr F5 HBs (noLimb_rat _ _ _ _ _ _ _)⟩,HG4.fr_at F5 (Nat.le_of_eq HPE)⟩
   ·by_cases hn0:n=0
    ·subst hn0;have HQQ:=key false (k) (by rfl) (hk1.out);clear key;go_wp2;refine pex ?_;refine ks HBs fun W5 B5 F5=>?_
     have d_:=B5.c3;refine bret Tryz.results112 ?_;exact⟨⟨false,⟨A,0,c⟩,⟨some ad,1,d⟩⟩,rfl,by rw[HQQ.out];exact⟨rfl,HN3.fr F5 HBs (noLimb_rat _ _ _ _ _ _ _),HN2.fr F5 HBs (noLimb_rat _ _ _ _ _ _ _)⟩,HG4.fr_at F5 (Nat.le_of_eq HPE)⟩
    ·have hn1:decide ((0:Int) < n)=true:=by simp;omega
     have hn2:decide (0 < n)=true:=by simp;omega
     have hn3:0 < n:=by omega
     have HQQ:=key true (k) (by rw[hn1];rfl) (hk1.out);clear key;go_wp2;refine pex ?_;refine ks HBs fun W5 B5 F5=>?_
     have d_:=B5.c3;refine bret Tryz.results112 ?_;exact⟨⟨true,⟨A,n,c⟩,⟨some ad,1,d⟩⟩,rfl,by rw[HQQ.out];exact⟨rfl,HN3.fr F5 HBs (noLimb_rat _ _ _ _ _ _ _),HN2.fr F5 HBs (noLimb_rat _ _ _ _ _ _ _)⟩,HG4.fr_at F5 (Nat.le_of_eq HPE)⟩
 ·have hld:((l:Int) == 1)=false:=by simp;omega
  have hk1:Hid (k=den0 k):=by
   unfold den0;rw[if_neg fun e=>hl1 (by rw[← hl.out,e,limbs_one (by decide) (by decide)];rfl)];exact rfl
  cases s
  ·have HQQ:=key false (k) (by rfl) (hk1.out);clear key;go_wp2;refine pex ?_;refine ks HBs fun W5 B5 F5=>?_
   have d_:=B5.c3;refine bret Tryz.results112 ?_;exact⟨⟨false,⟨A,n,c⟩,⟨B,l,d⟩⟩,rfl,by rw[HQQ.out];exact⟨rfl,HN3.fr F5 HBs (noLimb_rat _ _ _ _ _ _ _),HN2.fr F5 HBs (noLimb_rat _ _ _ _ _ _ _)⟩,HG4.fr_at F5 (Nat.le_of_eq HPE)⟩
  ·by_cases hn0:n=0
   ·subst hn0;have HQQ:=key false (k) (by rfl) (hk1.out);clear key;go_wp2;refine pex ?_;refine ks HBs fun W5 B5 F5=>?_
    have d_:=B5.c3;refine bret Tryz.results112 ?_;exact⟨⟨false,⟨A,0,c⟩,⟨B,l,d⟩⟩,rfl,by rw[HQQ.out];exact⟨rfl,HN3.fr F5 HBs (noLimb_rat _ _ _ _ _ _ _),HN2.fr F5 HBs (noLimb_rat _ _ _ _ _ _ _)⟩,HG4.fr_at F5 (Nat.le_of_eq HPE)⟩
   ·have hn1:decide ((0:Int) < n)=true:=by simp;omega
    have hn2:decide (0 < n)=true:=by simp;omega
    have hn3:0 < n:=by omega
    have HQQ:=key true (k) (by rw[hn1];rfl) (hk1.out);clear key;go_wp2;refine pex ?_;refine ks HBs fun W5 B5 F5=>?_
    have d_:=B5.c3;refine bret Tryz.results112 ?_;exact⟨⟨true,⟨A,n,c⟩,⟨B,l,d⟩⟩,rfl,by rw[HQQ.out];exact⟨rfl,HN3.fr F5 HBs (noLimb_rat _ _ _ _ _ _ _),HN2.fr F5 HBs (noLimb_rat _ _ _ _ _ _ _)⟩,HG4.fr_at F5 (Nat.le_of_eq HPE)⟩
theorem mul_step {p q z cr s:Nat} (hp:p < B32) (hq:q < B32) (hz:z < B32) (hc:cr < B32) (hs:s=cr+(p*q+z)):
  IntKind.u64.wrap ((cr:Int)+IntKind.u64.wrap (IntKind.u64.wrap (IntKind.u64.wrap (p:Int)*IntKind.u64.wrap (q:Int))+IntKind.u64.wrap (z:Int)))=(s:Int):=by
 have hB:=B32_eq;rw[hB] at hp hq hz hc;have h4:p*q≤4294967295*4294967295:=Nat.mul_le_mul (by omega) (by omega);have e1:(p:Int)*(q:Int)=((p*q:Nat):Int):=by rw[Int.natCast_mul]
 rw[IntWalk.u64_in (p:Int) (by omega),IntWalk.u64_in (q:Int) (by omega),IntWalk.u64_in (z:Int) (by omega),e1,IntWalk.u64_in ((p*q:Nat):Int) (by omega),IntWalk.u64_in (((p*q:Nat):Int)+z) (by omega),IntWalk.u64_in _ (by omega)];omega
theorem mul_any (w:World) (x y:Sv) (a b:List Nat) (hx:x.Num w a) (hy:y.Num w b) (ha:a.length≤1000000) (hb:b.length≤1000000):
  Calls Tryz.prog 314 #[x.v,y.v] w fun e w'=>∃z:Sv,e=.returned z.v∧z.Num w' (limbs (val a*val b))∧Gr w w':=by
 have H1:=I (trim_any w x a hx);have HY:=I hy;have HA:Hid ((limbs (val a)).length≤1000000):=nt (limbs_len_le (val_lt hx.lim)) ha;have HB:Hid ((limbs (val b)).length≤1000000):=nt (limbs_len_le (val_lt hy.lim)) hb;clear hx hy ha hb;go_enter Tryz.func314,Tryz.ntmps314;go_wp2_with fail;refine cm1 H1 fun u w1 HU G1=>?_
 have HG1:=I G1;have H2:=I (trim_any w1 y b (HY.gr G1));clear H1 HY;go_wp2_with fail;refine cm1 H2 fun v w2 HV G2=>?_
 have HG2:=I (HG1.trans G2);have HU2:=I (HU.gr G2);clear HG1 HU H2;obtain⟨A,n,c⟩:=u;obtain⟨B,m,d⟩:=v;have HN:=I HU2.len;have HM:=I HV.len;have VA:=I (vl (val a));have VB:=I (vl (val b));have ZA:Hid (n=0→val a=0):=fun h=>limbs_len0.1 (HN.trans h)
 have ZB:Hid (m=0→val b=0):=fun h=>limbs_len0.1 (HM.trans h)
 simp only[Sv.v] at*;have hn9:n≤1000000:=by rw[← HN.out];exact HA.out
 have hm9:m≤1000000:=by rw[← HM.out];exact HB.out
 by_cases hz:n=0∨m=0
 ·have HZ:Hid (limbs (val a*val b)=[]):=by
   rcases hz with h | h
   ·rw[ZA.out h,Nat.zero_mul];exact limbs_zero
   ·rw[ZB.out h,Nat.mul_zero];exact limbs_zero
  by_cases h:n=0
  ·have h1:((n:Int) == 0)=true:=by simp[h]
   clear hz;go_wp2;go_ret;exact⟨Sv.none,rfl,by rw[HZ.out];exact Sv.Num.none _,HG2.out⟩
  ·have h1:((n:Int) == 0)=false:=by simp[h]
   have h2:((m:Int) == 0)=true:=by rcases hz with h9 | h9;exact absurd h9 h;simp[h9]
   clear hz;go_wp2;go_ret;exact⟨Sv.none,rfl,by rw[HZ.out];exact Sv.Num.none _,HG2.out⟩
 have hn0:((n:Int) == 0)=false:=by simp;omega
 have hm0:((m:Int) == 0)=false:=by simp;omega
 clear hz;generalize limbs (val a)=la at*;generalize limbs (val b)=lb at*;have hmk:=makeN (n+m) (by omega) w2;rw[show (((n+m:Nat)):Int)=(n:Int)+m by omega] at hmk;have HR0:=I (Lb.made w2 (n+m));have HG4:Hid (Gr w (w2.alloc (.cells (Array.replicate (n+m) (.int .u32 0)) 300))):=HG2.alloc _;have HGs:Hid (Gr w2 (w2.alloc (.cells (Array.replicate (n+m) (.int .u32 0)) 300))):=(Gr.refl w2).alloc _;have HS0:=I (MulSt.start la lb);rw[HN.out,HM.out] at HS0;have hg0:Hid (w.heap.size≤w2.heap.size):=HG2.size;go_wp2;clear hmk;generalize hge:w2.heap.size=g at*;have HGE:=I hge;clear hge;go_loopw [31] (fun i wr=>∃(t:Nat) (o:List Nat),i=.int .i64 t∧t≤n∧Hid (MulSt la lb o t)∧Hid (Lb wr g o)∧Hid (Gr w wr)∧Hid (Gr w2 wr)) (fun i _=>n - (intOf i).toNat)
 case atStart=>exact⟨0,_,rfl,nq _,HS0,HR0,HG4,HGs⟩
 case round=>
  obtain⟨t,o,rfl,ht,hS,hR,hG,hGG⟩:=hrel;by_cases htn:t < n
  ·obtain⟨p,ad,hp,hp9,hAe,hbl,d1⟩:=(HU2.gr hGG).at (i:=t) htn;simp only at hAe;subst hAe;have HP:=I hp;have HI0:=I (hS.into p);have HP9:=I hp9;clear hp hp9 hbl hS;go_wp2;go_loopw [8,38] (fun s8 i wx=>∃(k cr:Nat) (o:List Nat),i=.int .i64 k∧s8=.int .u64 cr∧k≤m∧Hid (MulIn la lb o t p k cr)∧Hid (Lb wx g o)∧Hid (Gr w wx)∧Hid (Gr w2 wx)) (fun _ i _=>m - (intOf i).toNat)
   case atStart=>exact⟨0,0,_,rfl,rfl,nq _,HI0,hR,hG,hGG⟩
   case round=>
    obtain⟨k,cr,o2,rfl,rfl,hk,hS2,hR2,hG2,hGG2⟩:=hrel;have fz:=hR2.fz;have hcr:cr < 4294967296:=hS2.car;have hlen2:o2.length=n+m:=by rw[hS2.len,HN.out,HM.out]
    by_cases hkm:k < m
    ·obtain⟨q,ad2,hq,hq9,hBe,hbl2,d2⟩:=(HV.gr hGG2).at (i:=k) hkm;simp only at hBe;subst hBe;obtain⟨z,hz⟩:∃z,o2[t+k]?=some z:=⟨_,ge (by omega)⟩;have q0:=hR2.cell hz;obtain⟨s,hs⟩:∃s,s=cr+(p*q+z):=⟨_,rfl⟩;have HST:=I (hS2.step (by rw[HN.out];exact htn) HP9 HV.lim hq hz hs);have HX:=I (mul_step HP9 hq9 (hS2.lim.at hz) hcr hs);obtain⟨lo,hlo⟩:∃lo,lo=s % B32:=⟨_,rfl⟩;obtain⟨hi,hhi⟩:∃hi,hi=s / B32:=⟨_,rfl⟩;rw[← hlo,← hhi] at HST;have E1:Hid ((s:Int) % 4294967296=lo):=by rw[B32_eq] at hlo;exact (by omega:(s:Int) % 4294967296=lo)
     have E2:Hid ((s:Int) / 4294967296=hi):=by rw[B32_eq] at hhi;exact (by omega:(s:Int) / 4294967296=hi)
     have HL2:=I (hR2.put (t+k) lo);have HG5:=I (hG2.set (p:=⟨g,t+k,none⟩) hg0 (lv lo));have HG6:=I (hGG2.set (p:=⟨g,t+k,none⟩) (by rw[HGE.out];exact nr _) (lv lo));clear hq hq9 hbl2 hlo hhi hs hz;go_wp2;go_roundw
     case rel=>
      rw[HX.out,E1.out,E2.out];exact⟨k+1,hi,_,by go_num,rfl,by omega,HST,HL2,HG5,HG6⟩
     case measure=>simp[intOf];omega
    ·obtain rfl:k=m:=by omega
     obtain⟨z,hz⟩:∃z,o2[t+k]?=some z:=⟨_,ge (by omega)⟩;have q0:=hR2.cell hz;have HS5:Hid (MulSt la lb (o2.set (t+k) cr) (t+1)):=by
      have h:=hS2.out;rw[← HM.out] at h ⊢;exact h.done HP
     have HL2:=I (hR2.put (t+k) cr);have HG5:=I (hG2.set (p:=⟨g,t+k,none⟩) hg0 (lv cr));have HG6:=I (hGG2.set (p:=⟨g,t+k,none⟩) (by rw[HGE.out];exact nr _) (lv cr));have HCR:Hid ((cr:Int) % 4294967296=cr):=(by omega:(cr:Int) % 4294967296=cr);clear hz;go_wp2;go_roundw
     case rel=>
      try rw[HCR.out]
      exact⟨t+1,_,by go_num,by omega,HS5,HL2,HG5,HG6⟩
     case measure=>simp[intOf];omega
  ·obtain rfl:t=n:=by omega
   have e1:val o=val la*val lb:=by
    have h:=hS.out;rw[← HN.out] at h;exact h.done
   have hlen:o.length=t+m:=by rw[hS.len,HN.out,HM.out]
   have HT:=I (trim_any wr ⟨some ⟨g,0,none⟩,t+m,t+m⟩ o (by have:=hR.num hS.lim (by omega);rw[hlen] at this;exact this));rw[e1,VA.out,VB.out] at HT;clear e1 hlen;go_wp2_with fail;refine cm1 HT fun z w5 HZ G5=>?_
   have HG6:=I (hG.trans G5);clear HT;go_wp2;go_ret;exact⟨z,rfl,HZ.out,HG6.out⟩
theorem sub_any (w:World) (x y:Sv) (a b:List Nat) (hx:x.Num w a) (hy:y.Num w b) (ha:a.length≤1000000) (hb:b.length≤1000000) (hle:val b≤val a):
  Calls Tryz.prog 368 #[x.v,y.v] w fun e w'=>∃z:Sv,e=.returned (.tuple #[z.v,.int .i64 0])∧z.Num w' (limbs (val a - val b))∧Gr w w':=by
 have H1:=I (trim_any w x a hx);have HY:=I hy;have HA:Hid ((limbs (val a)).length≤1000000):=nt (limbs_len_le (val_lt hx.lim)) ha;have HB:Hid ((limbs (val b)).length≤1000000):=nt (limbs_len_le (val_lt hy.lim)) hb;have HLE:=I hle;clear hx hy ha hb hle;go_enter Tryz.func368,Tryz.ntmps368;go_wp2_with fail;refine cm1 H1 fun u w1 HU G1=>?_
 have HG1:=I G1;have H2:=I (trim_any w1 y b (HY.gr G1));clear H1 HY;go_wp2_with fail;refine cm2 H2 fun v w0 hv G2=>?_
 have HG2:=I (HG1.trans G2);have HU2:=I (HU.gr G2);have HV:=I hv;have H3:=I (cmp_any w0 u v _ _ (HU.gr G2) hv);clear hv HG1 HU H2;rw[vl,vl] at H3;have hc0:0≤cmpN (val a) (val b):=by
  have:=HLE.out;unfold cmpN;split
  ·omega
  ·split<;>omega
 go_wp2_with fail;refine cm0 H3 fun w2 G3=>?_
 have HG3:=I (HG2.trans G3);have HU3:=I (HU2.gr G3);have HV3:=I (HV.gr G3);clear HG2 HU2 HV H3;generalize cmpN (val a) (val b)=cm at*;have hcd:decide (cm < 0)=false:=by simp;omega
 obtain⟨A,n,c⟩:=u;obtain⟨B,m,d⟩:=v;have HN:=I HU3.len;have HM:=I HV3.len;have VA:=I (vl (val a));have VB:=I (vl (val b));have hmn:m≤n:=by
  have:=limbs_len_mono HLE;rw[HN.out,HM.out] at this;exact this
 simp only[Sv.v] at*;have hn9:n≤1000000:=by rw[← HN.out];exact HA.out
 generalize limbs (val a)=la at*;generalize limbs (val b)=lb at*;have hmk:=makeN n (by omega) w2;have HR0:=I (Lb.made w2 n);have HG4:Hid (Gr w (w2.alloc (.cells (Array.replicate n (.int .u32 0)) 300))):=HG3.alloc _;have HGs:Hid (Gr w2 (w2.alloc (.cells (Array.replicate n (.int .u32 0)) 300))):=(Gr.refl w2).alloc _;have HS0:=I (SubSt.start la lb n);have hg0:Hid (w.heap.size≤w2.heap.size):=HG3.size;go_wp2;clear hmk;generalize hge:w2.heap.size=g at*;have HGE:=I hge;clear hge;go_loopw [7,10,24] (fun s7 s10 i wr=>∃(t cr:Nat) (o:List Nat),i=.int .i64 t∧s7=.int .u64 cr∧t≤n∧cr≤1∧Hid (SubSt la lb o t cr n)∧Hid (Lb wr g o)∧Hid (Gr w wr)∧Hid (Gr w2 wr)) (fun _ _ i _=>n - (intOf i).toNat)
 case atStart=>exact⟨0,0,_,rfl,rfl,nq _,by omega,HS0,HR0,HG4,HGs⟩
 case round=>
  obtain⟨t,cr,o,rfl,rfl,ht,hcr,hS,hR,hG,hGG⟩:=hrel;have fz:=hR.fz;by_cases htn:t < n
  ·obtain⟨p,ad,hp,hp9,hAe,hbl,d1⟩:=(HU3.gr hGG).at (i:=t) htn;simp only at hAe;subst hAe;have HP:=I (lim0_at hp);have q0:=hR.cell (hS.zer t (nr _) (by omega));have hB:=B32_eq;rw[hB] at hp9;by_cases htm:t < m
   ·obtain⟨q,ad2,hq,hq9,hBe,hbl2,d2⟩:=(HV3.gr hGG).at (i:=t) htm;simp only at hBe;subst hBe;rw[hB] at hq9;obtain⟨lo,c',hlo,hc',hlc⟩:∃lo c':Nat,lo < 4294967296∧c'≤1∧lo+cr+q=p+4294967296*c':=by
     by_cases h:cr+q≤p
     ·exact⟨p - cr - q,0,by omega,by omega,by omega⟩
     ·exact⟨p+4294967296 - cr - q,1,by omega,by omega,by omega⟩
    have HST:=I (hS.step HU3.lim HV3.lim htn (x:=lo) (c':=c') (by rw[hB];exact hlo) hc' (by rw[HP.out,lim0_at hq];exact hlc));have E1:Hid (IntKind.u64.wrap (IntKind.u64.wrap ((p:Int) - cr) - q) % 4294967296=lo):=by
     have h:IntKind.u64.wrap (IntKind.u64.wrap ((p:Int) - cr) - q) % 4294967296=lo:=by rw[IntKind.wrap_u64,IntKind.wrap_u64];omega
     exact h
    have E2:Hid (IntKind.u64.wrap (IntKind.u64.wrap ((p:Int) - cr) - q) / 9223372036854775808=c'):=by
     have h:IntKind.u64.wrap (IntKind.u64.wrap ((p:Int) - cr) - q) / 9223372036854775808=c':=by rw[IntKind.wrap_u64,IntKind.wrap_u64];omega
     exact h
    have HL2:=I (hR.put t lo);have HG5:=I (hG.set (p:=⟨g,t,none⟩) hg0 (lv lo));have HG6:=I (hGG.set (p:=⟨g,t,none⟩) (by rw[HGE.out];exact nr _) (lv lo));clear hp hq hbl hbl2 hlc hlo;go_wp2;go_roundw
    case rel=>
     rw[E1.out,E2.out];exact⟨t+1,c',_,by go_num,rfl,by omega,hc',HST,HL2,HG5,HG6⟩
    case measure=>simp[intOf];omega
   ·obtain⟨lo,c',hlo,hc',hlc⟩:∃lo c':Nat,lo < 4294967296∧c'≤1∧lo+cr+0=p+4294967296*c':=by
     by_cases h:cr+0≤p
     ·exact⟨p - cr - 0,0,by omega,by omega,by omega⟩
     ·exact⟨p+4294967296 - cr - 0,1,by omega,by omega,by omega⟩
    have HST:=I (hS.step HU3.lim HV3.lim htn (x:=lo) (c':=c') (by rw[hB];exact hlo) hc' (by rw[HP.out,lim0_past (by rw[HV3.len];simp only;omega)];exact hlc));have E1:Hid (IntKind.u64.wrap ((p:Int) - cr) % 4294967296=lo):=by
     have h:IntKind.u64.wrap ((p:Int) - cr) % 4294967296=lo:=by rw[IntKind.wrap_u64];omega
     exact h
    have E2:Hid (IntKind.u64.wrap ((p:Int) - cr) / 9223372036854775808=c'):=by
     have h:IntKind.u64.wrap ((p:Int) - cr) / 9223372036854775808=c':=by rw[IntKind.wrap_u64];omega
     exact h
    have HL2:=I (hR.put t lo);have HG5:=I (hG.set (p:=⟨g,t,none⟩) hg0 (lv lo));have HG6:=I (hGG.set (p:=⟨g,t,none⟩) (by rw[HGE.out];exact nr _) (lv lo));clear hp hbl hlc hlo;go_wp2;go_roundw
    case rel=>
     rw[E1.out,E2.out];exact⟨t+1,c',_,by go_num,rfl,by omega,hc',HST,HL2,HG5,HG6⟩
    case measure=>simp[intOf];omega
  ·obtain rfl:t=n:=by omega
   have e1:=hS.done (by rw[HU3.len];exact nr _) (by rw[HV3.len];exact hmn) (nr _) (by rw[VA.out,VB.out];exact HLE.out);have hlen:=hS.len;have HT:=I (trim_any wr ⟨some ⟨g,0,none⟩,t,t⟩ o (by have:=hR.num hS.lim (by omega);rw[hlen] at this;exact this));rw[e1,VA.out,VB.out] at HT;clear e1 hlen;go_wp2_with fail;refine cm1 HT fun z w5 HZ G5=>?_
   have HG6:=I (hG.trans G5);clear HT;go_wp2;go_returns;exact⟨z,rfl,HZ.out,HG6.out⟩
theorem made3 (w:World) (t u v:TypeId) (a b c:Array Value):
    Bk (((w.alloc (.cells a t)).alloc (.cells b u)).alloc (.cells c v)) w.heap.size t a∧Bk (((w.alloc (.cells a t)).alloc (.cells b u)).alloc (.cells c v)) (w.heap.size+1) u b∧Bk (((w.alloc (.cells a t)).alloc (.cells b u)).alloc (.cells c v)) (w.heap.size+1+1) v c∧Gr w (((w.alloc (.cells a t)).alloc (.cells b u)).alloc (.cells c v)):=by
  have s1:(w.alloc (.cells a t)).heap.size=w.heap.size+1:=World.size_alloc ..;have s2:((w.alloc (.cells a t)).alloc (.cells b u)).heap.size=w.heap.size+1+1:=by rw[World.size_alloc,s1]
  refine⟨((Bk.made w t a).alloc _).alloc _,?_,?_,(((Gr.refl w).alloc _).alloc _).alloc _⟩
  · have:=(Bk.made (w.alloc (.cells a t)) u b).alloc (.cells c v)
    rwa [s1] at this
  · have:=Bk.made ((w.alloc (.cells a t)).alloc (.cells b u)) v c
    rwa [s2] at this
theorem limbs_mul_len (m n:Nat):(limbs (m*n)).length≤(limbs m).length+(limbs n).length:=by
  refine limbs_len_le ?_;rw[Nat.pow_add];exact nj (Nat.mul_le_mul_right _ (Nat.le_of_lt (limbs_high m))) (Nat.mul_lt_mul_of_pos_left (limbs_high n) (Nat.pow_pos (by decide)))
theorem limbs_add_len (m n k:Nat) (hm:(limbs m).length≤k) (hn:(limbs n).length≤k):(limbs (m+n)).length≤k+1:=by
  refine limbs_len_le ?_;have h1:=nk (limbs_high m) (Nat.pow_le_pow_right (by decide:0 < B32) hm);have h2:=nk (limbs_high n) (Nat.pow_le_pow_right (by decide:0 < B32) hn);rw[Nat.pow_succ,B32_eq] at*;omega
theorem imul_any (w:World) (a b:Iv) (s t:Bool) (m n:Nat) (ha:a.Is w s m) (hb:b.Is w t n) (hm:(limbs m).length≤400000) (hn:(limbs n).length≤400000):
    Calls Tryz.prog 262 #[a.v,b.v] w fun e w'=>∃r:Iv,e=.returned r.v∧r.Is w' ((s != t)&&decide (0 < m*n)) (m*n)∧Gr w w':=by
  have hs:=I ha.neg;have ht:=I hb.neg;have HLM:=I hm;have HLN:=I hn;clear hm hn;simp only[Iv.v];go_enter Tryz.func262,Tryz.ntmps262;go_wp2_with fail;refine nw3h fun W HG hB1 hB2 hB3=>?_
  have HA:=I (ha.mag.gr HG);have HB:=I (hb.mag.gr HG);clear ha hb;have hpr:¬w.heap.size=w.heap.size+1+1:=by omega
  have hqr:¬w.heap.size+1=w.heap.size+1+1:=by omega
  have hle:Hid (w.heap.size≤w.heap.size+1+1):=nt (Nat.le_succ _) (Nat.le_succ _);generalize w.heap.size+1+1=r at*;generalize w.heap.size+1=q at*;generalize hp:w.heap.size=p at*;have hPE:=I hp;clear hp;have hpr2:¬r=p:=fun e=>hpr e.symm
  have hqr2:¬r=q:=fun e=>hqr e.symm
  have a0_:=hB1.c2;have b0_:=hB2.c2;have HM:=I (mul_any W.drew a.mag b.mag _ _ (HA.gr (Gr.refl W).drew) (HB.gr (Gr.refl W).drew) (nt HLM (by decide)) (nt HLN (by decide)));rw[vl,vl] at HM;have HLP:Hid ((limbs (m*n)).length≤1000000):=nt (limbs_mul_len m n) (nt (Nat.add_le_add HLM HLN) (by decide))
  first | (go_region_held3 (fun W=>W.cell? ⟨p,0,none⟩=some (.bool a.neg)∧W.cell? ⟨p,1,none⟩=some a.mag.v∧W.cell? ⟨q,0,none⟩=some (.bool b.neg)∧W.cell? ⟨q,1,none⟩=some b.mag.v) (first | go_keep | exact⟨hk1.1,hk1.2,hk2.1,hk2.2⟩ | exact⟨hj1.1,hj1.2,hj2.1,hj2.2⟩)
    (first | (go_at_call 314;refine HM.out.mono ?_;rintro e w1 ⟨z,rfl,hz,G1⟩;have hk1:=(G1.bk hB1.out).c2;have hk2:=(G1.bk hB2.out).c2;have HI:=I (imake_any w1 (a.neg != b.neg) z _ hz HLP.out);have HBr:=I (G1.bk hB3.out);have HG1:=I (HG.out.drew.trans G1);have hB1':=I (G1.bk hB1.out);have hB2':=I (G1.bk hB2.out);clear hz G1)
           | (go_at_call 214;refine HI.mono ?_;rintro e w2 ⟨i,rfl,hi,G2⟩;have hj1:=(G2.bk hB1').c2;have hj2:=(G2.bk hB2').c2;have HBs:=I (G2.bk HBr);obtain⟨r0,r1⟩:=HBs.c2;have fz:=HBs.frozen;have HG2:=I (HG1.trans G2);have HII:=I hi;clear hi G2))) | fail
  go_wp2;refine pex ?_;refine ks HBs fun W5 B5 F5=>?_
  have d_:=B5.c2;refine bret Tryz.results262 ?_;exact⟨i,rfl,⟨by rw[HII.neg,hs.out,ht.out],HII.mag.fr F5 HBs (noLimb_int _ _ _ _)⟩,HG2.fr_at F5 (by rw[hPE.out];exact hle.out)⟩
theorem iadd_any (w:World) (a b:Iv) (s t:Bool) (m n:Nat) (ha:a.Is w s m) (hb:b.Is w t n) (hm:(limbs m).length≤900000) (hn:(limbs n).length≤900000):
    Calls Tryz.prog 313 #[a.v,b.v] w fun e w'=>∃r:Iv,e=.returned r.v∧r.Is w' (sadd s m t n).1 (sadd s m t n).2∧Gr w w':=by
  obtain⟨B1,B2,B3,G⟩:=made3 w 169 169 169 #[.bool a.neg,a.mag.v] #[.bool b.neg,b.mag.v] #[.bool false,Nl];have hs:=I ha.neg;have ht:=I hb.neg;have HA:=I (ha.mag.gr G);have HB:=I (hb.mag.gr G);have HG:=I G;have HLM:=I hm;have HLN:=I hn;have hB1:=I B1;have hB2:=I B2;have hB3:=I B3;have a0_:=B1.c2;have b0_:=B2.c2;clear ha hb hm hn G B1 B2 B3;simp only[Iv.v];have HLA:Hid ((limbs m).length≤1000000):=nt HLM (by decide);have HLB:Hid ((limbs n).length≤1000000):=nt HLN (by decide);have HLP:Hid ((limbs (m+n)).length≤1000000):=nt (limbs_add_len m n _ HLM HLN) (by decide);by_cases hst:s=t
  · have HE:Hid (sadd s m t n=(s&&decide (0 < m+n),m+n)):=by unfold sadd;exact if_pos hst
    have hsd:(a.neg == b.neg)=true:=by rw[hs.out,ht.out,hst];simp
    go_enter Tryz.func313,Tryz.ntmps313;go_wp2_with fail;generalize hW:((w.alloc (.cells #[.bool a.neg,a.mag.v] 169)).alloc (.cells #[.bool b.neg,b.mag.v] 169)).alloc (.cells #[.bool false,Nl] 169)=W at*;clear hW;have hpr:¬w.heap.size=w.heap.size+1+1:=by omega
    have hqr:¬w.heap.size+1=w.heap.size+1+1:=by omega
    have hle:Hid (w.heap.size≤w.heap.size+1+1):=nt (Nat.le_succ _) (Nat.le_succ _);generalize w.heap.size+1+1=r at*;generalize w.heap.size+1=q at*;generalize hp:w.heap.size=p at*;have hPE:=I hp;clear hp;have hpr2:¬r=p:=fun e=>hpr e.symm
    have hqr2:¬r=q:=fun e=>hqr e.symm
    clear a0_ b0_;have a0_:=hB1.c2;have b0_:=hB2.c2;have HM:=I (add_any W.drew a.mag b.mag _ _ (HA.gr (Gr.refl W).drew) (HB.gr (Gr.refl W).drew) HLA HLB);rw[vl,vl] at HM
    first | (go_region_held3 (fun W=>W.cell? ⟨p,0,none⟩=some (.bool a.neg)∧W.cell? ⟨p,1,none⟩=some a.mag.v∧W.cell? ⟨q,0,none⟩=some (.bool b.neg)∧W.cell? ⟨q,1,none⟩=some b.mag.v) (first | go_keep | exact⟨hk1.1,hk1.2,hk2.1,hk2.2⟩ | exact⟨hj1.1,hj1.2,hj2.1,hj2.2⟩)
      (first | (go_at_call 338;refine HM.out.mono ?_;rintro e w1 ⟨z,rfl,hz,G1⟩;have hk1:=(G1.bk hB1.out).c2;have hk2:=(G1.bk hB2.out).c2;have HI:=I (imake_any w1 a.neg z _ hz HLP.out);have HBr:=I (G1.bk hB3.out);have HG1:=I (HG.out.drew.trans G1);have hB1':=I (G1.bk hB1.out);have hB2':=I (G1.bk hB2.out);clear hz G1)
             | (go_at_call 214;refine HI.mono ?_;rintro e w2 ⟨i,rfl,hi,G2⟩;have hj1:=(G2.bk hB1').c2;have hj2:=(G2.bk hB2').c2;have HBs:=I (G2.bk HBr);obtain⟨r0,r1⟩:=HBs.c2;have fz:=HBs.frozen;have HG2:=I (HG1.trans G2);have HII:=I hi;clear hi G2))) | fail
    go_wp2;refine pex ?_;refine ks HBs fun W5 B5 F5=>?_
    have d_:=B5.c2;refine bret Tryz.results313 ?_;exact⟨i,rfl,by rw[HE.out];exact⟨by rw[HII.neg,hs.out],HII.mag.fr F5 HBs (noLimb_int _ _ _ _)⟩,HG2.fr_at F5 (by rw[hPE.out];exact hle.out)⟩
  · have hsd:(a.neg == b.neg)=false:=by rw[hs.out,ht.out];simpa using hst
    have HC:=I (cmp_any _ a.mag b.mag _ _ HA HB);rw[vl,vl] at HC;go_enter Tryz.func313,Tryz.ntmps313;go_wp2_with fail;refine cm0 HC fun w1 G1=>?_
    have HG1:=I (HG.trans G1);have HA1:=I (HA.gr G1);have HB1':=I (HB.gr G1);have C1:=I (G1.bk hB1);have C2:=I (G1.bk hB2);have C3:=I (G1.bk hB3);clear HC hB1 hB2 hB3 HG HA HB a0_ b0_;have hpq:¬w.heap.size=w.heap.size+1:=by omega
    have hpr:¬w.heap.size=w.heap.size+1+1:=by omega
    have hqr:¬w.heap.size+1=w.heap.size+1+1:=by omega
    have hle:Hid (w.heap.size≤w.heap.size+1+1):=nt (Nat.le_succ _) (Nat.le_succ _);have hlq:Hid (w.heap.size≤w.heap.size+1):=Nat.le_succ _;generalize w.heap.size+1+1=r at*;generalize w.heap.size+1=q at*;generalize hp:w.heap.size=p at*;have hPE:=I hp;clear hp;have a0_:=C1.c2;have b0_:=C2.c2;by_cases hmn:m < n
    · have hc:Hid (cmpN m n=-1):=cmpN_lt hmn
      have HE:Hid (sadd s m t n=(t&&decide (0 < n - m),n - m)):=by
        unfold sadd;rw[if_neg hst,if_pos hmn,dt (by omega),Bool.and_true];exact rfl
      rw[hc.out];have f1:=C1.frozen;have f2:=C2.frozen;obtain⟨D1,F1⟩:=C1.put2 (.bool b.neg) b.mag.v;have D2:=F1.bk C2 fun e=>hpq e.symm
      obtain⟨E2,F2⟩:=D2.put2 (.bool a.neg) a.mag.v;have E1:=F2.bk D1 hpq;have E3:=F2.bk (F1.bk C3 fun e=>hpr e.symm) fun e=>hqr e.symm
      have HA2:=I ((HA1.fr F1 C1 (noLimb_int _ _ _ _)).fr F2 D2 (noLimb_int _ _ _ _));have HB2:=I ((HB1'.fr F1 C1 (noLimb_int _ _ _ _)).fr F2 D2 (noLimb_int _ _ _ _));have HG2:=I ((HG1.fr_at F1 (Nat.le_of_eq hPE)).fr_at F2 (by rw[hPE.out];exact hlq.out));have HE1:=I E1;have HE3:=I E3;clear D1 D2 E1 E2 E3 F1 F2;go_wp2_with fail;generalize (((w1.setCell ⟨p,0,none⟩ (.bool b.neg)).setCell ⟨p,1,none⟩ b.mag.v).setCell ⟨q,0,none⟩ (.bool a.neg)).setCell ⟨q,1,none⟩ a.mag.v=W2 at*;have HMN:val (limbs m)≤val (limbs n):=by rw[vl,vl];omega
      have HLS:Hid ((limbs (n - m)).length≤1000000):=nt (limbs_len_mono (Nat.sub_le n m)) HLB;clear hc;have H7:=I (sub_any W2 b.mag a.mag _ _ HB2 HA2 HLB HLA HMN);rw[vl,vl] at H7;refine cm2 H7 fun z w3 hz G3=>?_
      have HG3:=I (HG2.trans G3);obtain⟨p0,p1⟩:=(G3.bk HE1).c2;have HR3:=I (G3.bk HE3);have HI:=I (imake_any w3 b.neg z _ hz HLS);clear hz H7;go_wp2_with fail;refine cm1 HI fun i w4 HII G4=>?_
      have HG4:=I (HG3.trans G4);have HBs:=I (G4.bk HR3);obtain⟨r0,r1⟩:=HBs.c2;have fz:=HBs.frozen;clear HI;go_wp2;refine pex ?_;refine ks HBs fun W5 B5 F5=>?_
      have d_:=B5.c2;refine bret Tryz.results313 ?_;exact⟨i,rfl,by rw[HE.out];exact⟨by rw[HII.neg,ht.out],HII.mag.fr F5 HBs (noLimb_int _ _ _ _)⟩,HG4.fr_at F5 (by rw[hPE.out];exact hle.out)⟩
    · have hc0:0≤cmpN m n:=by unfold cmpN;rw[if_neg hmn];split<;>omega
      have HE:Hid (sadd s m t n=(s&&decide (0 < m - n),m - n)):=by
        unfold sadd;rw[if_neg hst,if_neg hmn];exact rfl
      have hcd:decide (cmpN m n < 0)=false:=by simp;omega
      generalize cmpN m n=cm at*;have HMN:val (limbs n)≤val (limbs m):=by rw[vl,vl];omega
      have HLS:Hid ((limbs (m - n)).length≤1000000):=nt (limbs_len_mono (Nat.sub_le m n)) HLA;go_wp2_with fail;have H7:=I (sub_any w1 a.mag b.mag _ _ HA1 HB1' HLA HLB HMN);rw[vl,vl] at H7;refine cm2 H7 fun z w3 hz G3=>?_
      have HG3:=I (HG1.trans G3);obtain⟨p0,p1⟩:=(G3.bk C1).c2;have HR3:=I (G3.bk C3);have HI:=I (imake_any w3 a.neg z _ hz HLS);clear hz H7;go_wp2_with fail;refine cm1 HI fun i w4 HII G4=>?_
      have HG4:=I (HG3.trans G4);have HBs:=I (G4.bk HR3);obtain⟨r0,r1⟩:=HBs.c2;have fz:=HBs.frozen;clear HI;go_wp2;refine pex ?_;refine ks HBs fun W5 B5 F5=>?_
      have d_:=B5.c2;refine bret Tryz.results313 ?_;exact⟨i,rfl,by rw[HE.out];exact⟨by rw[HII.neg,hs.out],HII.mag.fr F5 HBs (noLimb_int _ _ _ _)⟩,HG4.fr_at F5 (by rw[hPE.out];exact hle.out)⟩
theorem made2 (w:World) (t u:TypeId) (a b:Array Value):
    Bk ((w.alloc (.cells a t)).alloc (.cells b u)) w.heap.size t a∧Bk ((w.alloc (.cells a t)).alloc (.cells b u)) (w.heap.size+1) u b∧Gr w ((w.alloc (.cells a t)).alloc (.cells b u)):=by
  have s1:(w.alloc (.cells a t)).heap.size=w.heap.size+1:=World.size_alloc ..;refine⟨(Bk.made w t a).alloc _,?_,((Gr.refl w).alloc _).alloc _⟩;have:=Bk.made (w.alloc (.cells a t)) u b;rwa [s1] at this
def cmpI (s:Bool) (m:Nat) (t:Bool) (n:Nat):Int:=if isg s m < isg t n then -1 else if isg t n < isg s m then 1 else if isg s m < 0 then cmpN n m else cmpN m n
theorem icmp_any (w:World) (a b:Iv) (s t:Bool) (m n:Nat) (ha:a.Is w s m) (hb:b.Is w t n) (hm:(limbs m).length≤1000000) (hn:(limbs n).length≤1000000):
    Calls Tryz.prog 194 #[a.v,b.v] w fun e w'=>e=.returned (.int .i64 (cmpI s m t n))∧Gr w w':=by
  have HLM:=I hm;have HLN:=I hn;clear hm hn;simp only[Iv.v];go_enter Tryz.func194,Tryz.ntmps194;go_wp2_with fail;refine nw2h fun W HG hB1 hB2=>?_
  have HA:=I (ha.gr HG);have HB:=I (hb.gr HG);clear ha hb;generalize w.heap.size+1=q at*;generalize w.heap.size=p at*;have a0_:=hB1.c2;have b0_:=hB2.c2;have HS1:=I (isign_any W.drew a s m (HA.gr (Gr.refl W).drew) HLM);simp only[Iv.v] at HS1;have hE:Hid (cmpI s m t n=if isg s m < isg t n then -1 else if isg t n < isg s m then 1 else if isg s m < 0 then cmpN n m else cmpN m n):=rfl;generalize isg s m=sm at*;have HS2:Hid (∀W2,Gr W W2→Calls Tryz.prog 149 #[b.v] W2 fun e w'=>e=.returned (.int .i64 (isg t n))∧Gr W2 w'):=fun W2 G=>isign_any W2 b t n (HB.gr G) HLN
  generalize isg t n=tn at*;simp only[Iv.v] at HS2
  first | (go_region_held3 (fun W=>W.cell? ⟨p,0,none⟩=some (.bool a.neg)∧W.cell? ⟨p,1,none⟩=some a.mag.v∧W.cell? ⟨q,0,none⟩=some (.bool b.neg)∧W.cell? ⟨q,1,none⟩=some b.mag.v) (first | go_keep | exact⟨hk1.1,hk1.2,hk2.1,hk2.2⟩ | exact⟨hj1.1,hj1.2,hj2.1,hj2.2⟩)
    (first | (go_at_call 149;refine (HS2.out w1 HG1.out).mono ?_;rintro e w2 ⟨rfl,G2⟩;have hj1:=(HG1.out.trans G2 |>.bk hB1.out).c2;have hj2:=(HG1.out.trans G2 |>.bk hB2.out).c2;have HG2:=I (HG1.out.trans G2);clear G2)
           | (go_at_call 149;refine HS1.mono ?_;rintro e w1 ⟨rfl,G1⟩;have hk1:=(G1.bk hB1).c2;have hk2:=(G1.bk hB2).c2;have HG1:=I ((Gr.refl W).drew.trans G1);clear G1))) | fail
  obtain⟨k0,k1⟩:=hj1;obtain⟨l0,l1⟩:=hj2;have HF:=I (HG.trans HG2);have HC1:=I (cmp_any w2 a.mag b.mag _ _ (HA.mag.gr HG2) (HB.mag.gr HG2));have HC2:=I (cmp_any w2 b.mag a.mag _ _ (HB.mag.gr HG2) (HA.mag.gr HG2));rw[vl,vl] at HC1 HC2;clear HS1 HS2;by_cases h1:sm < tn
  · rw[if_pos h1] at hE
    have hd:decide (sm < tn)=true:=by simp[h1]
    go_wp2;go_ret;exact⟨by rw[hE.out];rfl,HF.out⟩
  · have hd:decide (sm < tn)=false:=by simp;omega
    rw[if_neg h1] at hE;by_cases h2:tn < sm
    · rw[if_pos h2] at hE
      have hd2:decide (tn < sm)=true:=by simp[h2]
      go_wp2;go_ret;exact⟨by rw[hE.out];rfl,HF.out⟩
    · rw[if_neg h2] at hE
      have hd2:decide (tn < sm)=false:=by simp;omega
      by_cases h3:sm < 0
      · rw[if_pos h3] at hE
        have hd3:decide (sm < 0)=true:=by simp[h3]
        generalize cmpN n m=c at*;go_wp2_with fail;refine cm0 HC2 fun w3 G3=>?_
        have HG3:=I (HF.trans G3)

        go_wp2;go_ret;exact⟨by rw[hE.out];rfl,HG3.out⟩
      · rw[if_neg h3] at hE
        have hd3:decide (sm < 0)=false:=by simp;omega
        generalize cmpN m n=c at*;go_wp2_with fail;refine cm0 HC1 fun w3 G3=>?_
        have HG3:=I (HF.trans G3)

        go_wp2;go_ret;exact⟨by rw[hE.out];rfl,HG3.out⟩
theorem iof_any (w:World) (x:Int) (h1:-1000000000≤x) (h2:x≤1000000000):
    Calls Tryz.prog 209 #[.int .i64 x] w fun e w'=>∃r:Iv,e=.returned r.v∧r.Is w' (decide (x < 0)) x.natAbs∧Gr w w':=by
  have b1:=Bk.made w 169 #[.bool false,Nl];have HG1:=I ((Gr.refl w).alloc (.cells #[.bool false,Nl] 169));have HB:=I b1;clear b1;have HO:=I (fun W=>of_any W x.natAbs (by omega));by_cases h0:x < 0
  · have hd:decide (x < 0)=true:=by simp[h0]
    rw[hd];obtain⟨n,rfl⟩:∃n:Nat,x=-(n:Int):=⟨x.natAbs,by omega⟩;rw[show (-(n:Int)).natAbs=n by omega] at*;go_enter Tryz.func209,Tryz.ntmps209;have hw:IntKind.u64.wrap (-IntKind.u64.wrap (-(n:Int)))=(n:Int):=by rw[IntKind.wrap_u64,IntKind.wrap_u64];omega
    go_wp2_with fail;refine cm1 (HO.out _) fun z w1 HZ G1=>?_
    have HG2:=I (HG1.trans G1);have HBs:=I (G1.bk HB);have r0_:=HBs.c2;have fz:=HBs.frozen;clear hw HB;generalize hp:w.heap.size=r at*;have hPE:=I hp;clear hp;go_wp2;refine pex ?_;refine ks HBs fun W5 B5 F5=>?_
    have d_:=B5.c2;refine bret Tryz.results209 ?_;exact⟨⟨true,z⟩,rfl,⟨rfl,HZ.fr F5 HBs (noLimb_int _ _ _ _)⟩,HG2.fr_at F5 (Nat.le_of_eq hPE)⟩
  · have hd:decide (x < 0)=false:=by simp;omega
    rw[hd];obtain⟨n,rfl⟩:∃n:Nat,x=(n:Int):=⟨x.natAbs,by omega⟩;rw[show ((n:Int)).natAbs=n by omega] at*;go_enter Tryz.func209,Tryz.ntmps209;have hw:IntKind.u64.wrap (n:Int)=(n:Int):=by rw[IntKind.wrap_u64];omega
    go_wp2_with fail;refine cm1 (HO.out _) fun z w1 HZ G1=>?_
    have HG2:=I (HG1.trans G1);have HBs:=I (G1.bk HB);have r0_:=HBs.c2;have fz:=HBs.frozen;clear hw HB;generalize hp:w.heap.size=r at*;have hPE:=I hp;clear hp;go_wp2;refine pex ?_;refine ks HBs fun W5 B5 F5=>?_
    have d_:=B5.c2;refine bret Tryz.results209 ?_;exact⟨⟨false,z⟩,rfl,⟨rfl,HZ.fr F5 HBs (noLimb_int _ _ _ _)⟩,HG2.fr_at F5 (Nat.le_of_eq hPE)⟩
theorem Q.dec_eq (x y:Q):decide (x=y)=(x.neg == y.neg&&(decide (x.num=y.num)&&decide (x.den=y.den))):=by
 obtain⟨s,m,k⟩:=x;obtain⟨t,n,l⟩:=y;rw[Bool.eq_iff_iff];simp only[de,be,beq_iff_eq,Q.mk.injEq]
theorem req_any (w:World) (x y:Sv) (m n:Nat) (hx:x.Num w (limbs m)) (hy:y.Num w (limbs n)):
  Calls Tryz.prog 181 #[x.v,y.v] w fun e w'=>e=.returned (.bool (decide (m=n)))∧Gr w w':=by
 obtain⟨A,k,c⟩:=x;obtain⟨B,l,d⟩:=y;have hk:=hx.len;have hl:=hy.len;have hk9:=hx.is.max;have hkc:=hx.is.cap;(try simp only at hk hl hk9 hkc)
 have HX:=I hx;have HY:=I hy;by_cases hkl:k=l
 ·subst hkl;have hnn:((k:Int) != k)=false:=by simp
  have HK:=I hk;have HL:=I hl;clear hx hy hk hl;(try simp only)
  go_enter Tryz.func181,Tryz.ntmps181;go_wp2;go_loopw [5] (fun i wr=>∃t:Nat,i=.int .i64 t∧t≤k∧Hid ((limbs m).take t=(limbs n).take t)∧Hid (Gr w wr)) (fun i _=>k - (intOf i).toNat)
  case atStart=>exact⟨0,rfl,nq _,rfl,Gr.refl w⟩
  case round=>
   obtain⟨t,rfl,ht,hT,hG⟩:=hrel;by_cases htk:t < k
   ·obtain⟨p,ad,hp,hp9,hA,hb,d1⟩:=(HX.gr hG).at (i:=t) htk;obtain⟨q,ad2,hq,hq9,hB,hb2,d2⟩:=(HY.gr hG).at (i:=t) htk;(try simp only at hA hB)
    subst hA hB;have e1:wr.drew.cell? (ad.add t)=some (.int .u32 p):=d1;have e2:wr.drew.cell? (ad2.add t)=some (.int .u32 q):=d2;have hG3:Hid (Gr w wr.drew):=hG.drew;by_cases hpq:p=q
    ·subst hpq;have HT:Hid ((limbs m).take (t+1)=(limbs n).take (t+1)):=by
      rw[List.take_add_one,List.take_add_one,hT.out,hp,hq];exact rfl
     clear hp hq hp9 hq9 hb hb2 hT;go_wp2;go_region
     all_goals go_wp2
     all_goals go_roundw
     all_goals first
      | exact⟨t+1,by go_num,by omega,HT,hG3⟩
      | (simp[intOf];omega)
    ·have hpd:((p:Int) != q)=true:=by simp;omega
     have HE:Hid (decide (m=n)=false):=by
      have h:¬m=n:=fun e=>by
       subst e;rw[hp] at hq;injection hq with hq;exact hpq hq
      exact df h
     clear hp hq hp9 hq9 hb hb2 hT;go_wp2;go_region
     all_goals go_wp2
     all_goals go_ret
     all_goals exact⟨by rw[HE.out];rfl,hG3.out⟩
   ·obtain rfl:t=k:=by omega
    have HE:Hid (decide (m=n)=true):=by
     have h:=hT.out;rw[List.take_of_length_le (by rw[HK.out];exact nr _),List.take_of_length_le (by rw[HL.out];exact nr _)] at h;exact dt (limbs_inj h)
    clear hT;go_wp2;go_ret;exact⟨by rw[HE.out];rfl,hG.out⟩
 ·have hnn:((k:Int) != l)=true:=by simp;omega
  have HE:Hid (decide (m=n)=false):=by
   have h:¬m=n:=fun e=>hkl (by rw[← hk,← hl,e])
   exact df h
  clear hx hy hk hl;(try simp only)
  go_enter Tryz.func181,Tryz.ntmps181;go_wp2;go_ret;exact⟨by rw[HE.out];rfl,Gr.refl w⟩
theorem rsame_any (w:World) (a b:Rv) (x y:Q) (ha:a.Is w x) (hb:b.Is w y):
  Calls Tryz.prog 118 #[a.v,b.v] w fun e w'=>e=.returned (.bool (decide (x=y)))∧Gr w w':=by
 obtain⟨B1,B2,G⟩:=made2 w 38 38 a.ar b.ar;have HA:=I (ha.gr G);have HB:=I (hb.gr G);have HG:=I G;have C1:=I B1;have C2:=I B2;have a0_:=B1.c3;have b0_:=B2.c3;have N1:=I ha.neg;have N2:=I hb.neg;have hE:Hid (decide (x=y)=(a.neg == b.neg&&(decide (x.num=y.num)&&decide (x.den=y.den)))):=by
  rw[N1.out,N2.out];exact Q.dec_eq x y
 have HE1:=I (req_any _ a.num b.num _ _ HA.num HB.num);clear ha hb B1 B2 G;simp only[Rv.v];cases hn:(a.neg == b.neg)
 ·rw[hn] at hE;go_enter Tryz.func118,Tryz.ntmps118;go_wp2;go_ret;exact⟨by rw[hE.out];rfl,HG.out⟩
 ·rw[hn] at hE;go_enter Tryz.func118,Tryz.ntmps118;go_wp2_with fail;go_at_call 181
  refine cm0 HE1 fun w1 G1=>?_
  have HG1:=I (HG.trans G1);have HE2:=I (req_any w1 a.den b.den _ _ (HA.den.gr G1) (HB.den.gr G1));obtain⟨f0,f1,f2⟩:=(G1.bk C1).c3;obtain⟨g0,g1,g2⟩:=(G1.bk C2).c3;clear HE1 a0_ b0_;cases h1:decide (x.num=y.num)
  ·rw[h1] at hE;go_wp2;go_ret;exact⟨by rw[hE.out];rfl,HG1.out⟩
  ·rw[h1] at hE;generalize decide (x.den=y.den)=d at*;go_wp2_with fail;go_at_call 181
   refine cm0 HE2 fun w2 G2=>?_
   have HG2:=I (HG1.trans G2);clear HE2;go_wp2;go_ret;exact⟨by rw[hE.out];rfl,HG2.out⟩
theorem Q.sign_isg (q:Q):isg q.sg q.num=q.sign:=by
 unfold isg Q.sign Q.sg;by_cases h:q.num=0
 ·rw[if_pos h,if_pos h]
 ·rw[if_neg h,if_neg h,dt (by omega),Bool.and_true]
theorem signed_any (w:World) (a:Rv) (q:Q) (ha:a.Is w q) (hl:(limbs q.num).length≤1000000):
  Calls Tryz.prog 150 #[a.v] w fun e w'=>∃r:Iv,e=.returned r.v∧r.Is w' q.sg q.num∧Gr w w':=by
 obtain⟨B1,B2,G⟩:=made2 w 38 169 a.ar #[.bool false,Nl];have HG:=I G;have hB2:=I B2;have a0_:=B1.c3;have HI:=I (imake_any _ a.neg a.num _ (ha.num.gr G) hl);have hE:Hid ((a.neg&&decide (0 < q.num))=q.sg):=by rw[ha.neg];exact rfl
 clear ha hl B1 B2 G;simp only[Rv.v];go_enter Tryz.func150,Tryz.ntmps150;go_wp2_with fail;refine cm2 HI fun i w1 hi G1=>?_
 rw[hE.out] at hi;have HII:=I hi;have HG1:=I (HG.trans G1);have HBs:=I (G1.bk hB2);have r0_:=HBs.c2;have fz:=HBs.frozen;clear hi HI a0_ hB2;have hle:Hid (w.heap.size≤w.heap.size+1):=Nat.le_succ _;generalize w.heap.size+1=r at*;go_wp2;refine pex ?_;refine ks HBs fun W5 B5 F5=>?_
 have d_:=B5.c2;refine bret Tryz.results150 ?_;exact⟨i,rfl,⟨HII.neg,HII.mag.fr F5 HBs (noLimb_int _ _ _ _)⟩,HG1.fr_at F5 hle⟩
theorem sign_any (w:World) (a:Rv) (q:Q) (ha:a.Is w q) (hl:(limbs q.num).length≤1000000):
  Calls Tryz.prog 91 #[a.v] w fun e w'=>e=.returned (.int .i64 q.sign)∧Gr w w':=by
 have B1:=Bk.made w 38 a.ar;have HG:=I ((Gr.refl w).alloc (.cells a.ar 38));have a0_:=B1.c3;have HS:=I (signed_any _ a q (ha.gr HG) hl);have hE:=I (Q.sign_isg q);have HL:=I hl;clear ha B1 hl;simp only[Rv.v] at*;go_enter Tryz.func91,Tryz.ntmps91;go_wp2_with fail;refine cm2 HS fun i w1 hi G1=>?_
 have HG1:=I (HG.trans G1);have HI:=I (isign_any w1 i _ _ hi HL);rw[hE.out] at HI;clear hi HS a0_;go_wp2_with fail;refine cm0 HI fun w2 G2=>?_
 have HG2:=I (HG1.trans G2)

 go_wp2;go_ret;exact⟨rfl,HG2.out⟩
theorem canon_any (w:World) (a:Rv) (q:Q) (ha:a.Is w q) (hl:(limbs q.num).length≤1000000) (hd:q.un < B32):
  Calls Tryz.prog 191 #[a.v] w fun e w'=>∃r:Rv,e=.returned r.v∧r.Is w' (quot q.neg q.num q.un)∧Gr w w':=by
 obtain⟨B1,B2,G⟩:=made2 w 38 38 a.ar Rl;have HA:=I (ha.gr G);have HG:=I G;have hB1:=I B1;have hB2:=I B2;have hld:(limbs q.den).length≤1000000:=by
  refine nt (limbs_len_le (k:=1) ?_) (by decide);rw[Nat.pow_one];unfold Q.un at hd;split at hd
  ·omega
  ·exact hd
 have HL:=I hl;have HD:=I hd;have HLD:=I hld;clear ha hl hd hld B1 B2 G;simp only[Rv.v];go_enter Tryz.func191,Tryz.ntmps191;go_wp2_with fail;generalize hW:(w.alloc (.cells a.ar 38)).alloc (.cells Rl 38)=W at*;clear hW;have hpr:¬w.heap.size=w.heap.size+1:=by omega
 have hle:Hid (w.heap.size≤w.heap.size+1):=Nat.le_succ _;generalize w.heap.size+1=r at*;generalize hp:w.heap.size=p at*;have hPE:=I hp;clear hp;have hpr2:¬r=p:=fun e=>hpr e.symm
 have a0_:=hB1.c3;have HU:=I (under_any W.drew a q (HA.gr (Gr.refl W).drew) HLD);simp only[Rv.v] at HU;have HNN:=I HA.neg
 first | (go_region_held3 (fun W=>W.cell? ⟨p,0,none⟩=some (.bool a.neg)∧W.cell? ⟨p,1,none⟩=some a.num.v∧W.cell? ⟨p,2,none⟩=some a.den.v)
   (first | go_keep | exact⟨hk.1,hk.2.1,hk.2.2⟩ | exact⟨hj.1,hj.2.1,hj.2.2⟩)
   (first | (go_at_call 259;refine (HQ.out).mono ?_;rintro e w2 ⟨i,rfl,hi,G2⟩;have hE1:=I (G2.bk hC1.out);have HBs:=I (G2.bk hC2.out);have HG2:=I (HG1.out.trans G2);have hj:=hE1.out.c3;obtain⟨r0,r1,r2⟩:=HBs.out.c3;have fz:=HBs.out.frozen;have HII:=I hi;clear hi G2) | (go_at_call 260;refine (HU.out).mono ?_;rintro e w1 ⟨y,rfl,hy,G1⟩;have hC1:=I (G1.bk hB1.out);have hC2:=I (G1.bk hB2.out);have HG1:=I (HG.out.drew.trans G1);have hk:=hC1.out.c3;have HQ:=I (quot_any w1 a.neg a.num y _ _ ((HA.out.num.gr (Gr.refl W).drew).gr G1) hy HL.out q.un_pos HD.out);clear hy G1))) | fail
 go_wp2;refine pex ?_;refine ks HBs fun W5 B5 F5=>?_
 have d_:=B5.c3;refine bret Tryz.results191 ?_;exact⟨i,rfl,by rw[← HNN.out];exact⟨HII.neg,HII.num.fr F5 HBs (noLimb_rat _ _ _ _ _ _ _),HII.den.fr F5 HBs (noLimb_rat _ _ _ _ _ _ _)⟩,HG2.fr_at F5 (by rw[hPE.out];exact hle.out)⟩
theorem made4 (w:World) (t u v x:TypeId) (a b c d:Array Value):
  Bk ((((w.alloc (.cells a t)).alloc (.cells b u)).alloc (.cells c v)).alloc (.cells d x)) w.heap.size t a∧Bk ((((w.alloc (.cells a t)).alloc (.cells b u)).alloc (.cells c v)).alloc (.cells d x)) (w.heap.size+1) u b∧Bk ((((w.alloc (.cells a t)).alloc (.cells b u)).alloc (.cells c v)).alloc (.cells d x)) (w.heap.size+1+1) v c∧Bk ((((w.alloc (.cells a t)).alloc (.cells b u)).alloc (.cells c v)).alloc (.cells d x)) (w.heap.size+1+1+1) x d∧Gr w ((((w.alloc (.cells a t)).alloc (.cells b u)).alloc (.cells c v)).alloc (.cells d x)):=by
 obtain⟨h1,h2,h3,h4⟩:=made3 w t u v a b c;refine⟨h1.alloc _,h2.alloc _,h3.alloc _,?_,h4.alloc _⟩;have s1:(w.alloc (.cells a t)).heap.size=w.heap.size+1:=World.size_alloc ..;have s2:((w.alloc (.cells a t)).alloc (.cells b u)).heap.size=w.heap.size+1+1:=by rw[World.size_alloc,s1]
 have s3:(((w.alloc (.cells a t)).alloc (.cells b u)).alloc (.cells c v)).heap.size=w.heap.size+1+1+1:=by rw[World.size_alloc,s2]
 have:=Bk.made (((w.alloc (.cells a t)).alloc (.cells b u)).alloc (.cells c v)) x d;rwa [s3] at this
theorem sg_false (s:Bool) (m:Nat):((s != false)&&decide (0 < m))=(s&&decide (0 < m)):=by cases s<;>rfl
theorem cross_any (w:World) (a b:Rv) (x y:Q) (ha:a.Is w x) (hb:b.Is w y) (h1:(limbs x.num).length≤400000) (h2:(limbs y.num).length≤400000) (h3:(limbs x.den).length≤400000) (h4:(limbs y.den).length≤400000):
  Calls Tryz.prog 193 #[a.v,b.v] w fun e w'=>∃r1 r2:Iv,e=.returned (.tuple #[r1.v,r2.v])∧r1.Is w' (x.sg&&decide (0 < x.num*y.un)) (x.num*y.un)∧r2.Is w' (y.sg&&decide (0 < y.num*x.un)) (y.num*x.un)∧Gr w w':=by
 obtain⟨B1,B2,B3,B4,G⟩:=made4 w 38 38 169 169 a.ar b.ar #[.bool false,Nl] #[.bool false,Nl];have HA:=I (ha.gr G);have HB:=I (hb.gr G);have HG:=I G;have hB1:=I B1;have hB2:=I B2;have hB3:=I B3;have hB4:=I B4;have un_len:∀q:Q,(limbs q.den).length≤400000→(limbs q.un).length≤400000:=fun q h=>by
  unfold Q.un;split
  ·rw[limbs_one (by decide) (by decide)];decide
  ·exact h
 have L1:=I h1;have L2:=I h2;have L3:=I (un_len x h3);have L4:=I (un_len y h4);have L5:=I (nt h3 (by decide:400000≤1000000));have L6:=I (nt h4 (by decide:400000≤1000000));have L7:=I (nt h1 (by decide:400000≤1000000));have L8:=I (nt h2 (by decide:400000≤1000000));clear ha hb h1 h2 h3 h4 un_len B1 B2 B3 B4 G;simp only[Rv.v];go_enter Tryz.func193,Tryz.ntmps193;go_wp2_with fail;generalize hW:(((w.alloc (.cells a.ar 38)).alloc (.cells b.ar 38)).alloc (.cells #[.bool false,Nl] 169)).alloc (.cells #[.bool false,Nl] 169)=W at*;clear hW;have hpr:¬w.heap.size=w.heap.size+1+1:=by omega
 have hqr:¬w.heap.size+1=w.heap.size+1+1:=by omega
 have hps:¬w.heap.size=w.heap.size+1+1+1:=by omega
 have hqs:¬w.heap.size+1=w.heap.size+1+1+1:=by omega
 have hrs:¬w.heap.size+1+1=w.heap.size+1+1+1:=by omega
 have hle:Hid (w.heap.size≤w.heap.size+1+1):=nt (Nat.le_succ _) (Nat.le_succ _);have hls:Hid (w.heap.size≤w.heap.size+1+1+1):=nt (nt (Nat.le_succ _) (Nat.le_succ _)) (Nat.le_succ _);generalize w.heap.size+1+1+1=s at*;generalize w.heap.size+1+1=r at*;generalize w.heap.size+1=q at*;generalize hp:w.heap.size=p at*;have hPE:=I hp;clear hp;have hpr2:¬r=p:=fun e=>hpr e.symm
 have hqr2:¬r=q:=fun e=>hqr e.symm
 have hps2:¬s=p:=fun e=>hps e.symm
 have hqs2:¬s=q:=fun e=>hqs e.symm
 have hrs2:¬s=r:=fun e=>hrs e.symm
 have hk:_∧_:=⟨hB1.c3,hB2.c3⟩;obtain⟨⟨a0,a1,a2⟩,b0,b1,b2⟩:=hk;have HU1:=I (under_any W.drew a x (HA.gr (Gr.refl W).drew) L5);have HU2:Hid (∀W2,Gr W W2→Calls Tryz.prog 260 #[b.v] W2 fun e w'=>∃y':Sv,e=.returned y'.v∧y'.Num w' (limbs y.un)∧Gr W2 w'):=fun W2 G=>under_any W2 b y (HB.gr G) L6
 simp only[Rv.v] at HU1 HU2;have HG0:Hid (Gr W W.drew):=(Gr.refl W).drew
 first | (go_region_held3 (fun W=>W.cell? ⟨p,0,none⟩=some (.bool a.neg)∧W.cell? ⟨p,1,none⟩=some a.num.v∧W.cell? ⟨p,2,none⟩=some a.den.v∧W.cell? ⟨q,0,none⟩=some (.bool b.neg)∧W.cell? ⟨q,1,none⟩=some b.num.v∧W.cell? ⟨q,2,none⟩=some b.den.v)
   (first | go_keep | exact⟨hk.1.1,hk.1.2.1,hk.1.2.2,hk.2.1,hk.2.2.1,hk.2.2.2⟩ | exact⟨hj.1.1,hj.1.2.1,hj.1.2.2,hj.2.1,hj.2.2.1,hj.2.2.2⟩)
   (first | (go_at_call 260;refine ((HU2.out w1 HG1.out)).mono ?_;rintro e w2 ⟨v,rfl,hv,G2⟩;have HG2:=I (HG1.out.trans G2);have hj:=ai (HG2.out.bk hB1.out).c3 (HG2.out.bk hB2.out).c3;have HNV:=I hv;have HNU2:=I (HNU.out.gr G2);clear hv G2) | (go_at_call 260;refine (HU1.out).mono ?_;rintro e w1 ⟨u,rfl,hu,G1⟩;have HG1:=I (HG0.out.trans G1);have hk:=ai (HG1.out.bk hB1.out).c3 (HG1.out.bk hB2.out).c3;have HNU:=I hu;clear hu G1))) | fail
 clear HU1 HU2 HG0 a0 a1 a2 b0 b1 b2 hk HG1 HNU;obtain⟨⟨a0,a1,a2⟩,b0,b1,b2⟩:=hj;have hF:=I (HG.trans HG2);have C1:=I (HG2.bk hB1);have C2:=I (HG2.bk hB2);have C3:=I (HG2.bk hB3);have C4:=I (HG2.bk hB4);have HA2:=I (HA.gr HG2);have HB2:=I (HB.gr HG2);clear HG HG2 hB1 hB2 hB3 hB4 HA HB;go_wp2_with fail;have HG0:Hid (Gr w2 w2.drew):=(Gr.refl w2).drew;have HS1:=I (signed_any w2.drew a x (HA2.gr HG0) L7);have HS2:Hid (∀W2,Gr w2 W2→Calls Tryz.prog 150 #[b.v] W2 fun e w'=>∃r:Iv,e=.returned r.v∧r.Is w' y.sg y.num∧Gr W2 w'):=fun W2 G=>signed_any W2 b y (HB2.gr G) L8
 simp only[Rv.v] at HS1 HS2
 first | (go_region_held3 (fun W=>W.cell? ⟨p,0,none⟩=some (.bool a.neg)∧W.cell? ⟨p,1,none⟩=some a.num.v∧W.cell? ⟨p,2,none⟩=some a.den.v∧W.cell? ⟨q,0,none⟩=some (.bool b.neg)∧W.cell? ⟨q,1,none⟩=some b.num.v∧W.cell? ⟨q,2,none⟩=some b.den.v)
   (first | go_keep | exact⟨hk1.1.1,hk1.1.2.1,hk1.1.2.2,hk1.2.1,hk1.2.2.1,hk1.2.2.2⟩ | exact⟨hk2.1.1,hk2.1.2.1,hk2.1.2.2,hk2.2.1,hk2.2.2.1,hk2.2.2.2⟩ | exact⟨hk3.1.1,hk3.1.2.1,hk3.1.2.2,hk3.2.1,hk3.2.2.1,hk3.2.2.2⟩ | exact⟨hk4.1.1,hk4.1.2.1,hk4.1.2.2,hk4.2.1,hk4.2.2.1,hk4.2.2.2⟩)
   (first | (go_at_call 262;refine (HM2.out).mono ?_;rintro e w6 ⟨m2,rfl,hm2,G6⟩;have HR3:=I (HR2.out.gr G6);have HG6:=I (HG5.out.trans G6);have hk4:=ai (HG6.out.bk C1.out).c3 (HG6.out.bk C2.out).c3;have HR4:=I hm2;have D3:=I (HG6.out.bk C3.out);have D4:=I (HG6.out.bk C4.out);obtain⟨r0,r1⟩:=D3.out.c2;obtain⟨s0,s1⟩:=D4.out.c2;have fr:=D3.out.frozen;have fs:=D4.out.frozen;clear hm2 G6) | (go_at_call 150;refine (HS3.out).mono ?_;rintro e w5 ⟨i2,rfl,hi2,G5⟩;have HR2:=I (HR1.out.gr G5);have HG5:=I (HG4.out.trans G5);have hk3:=ai (HG5.out.bk C1.out).c3 (HG5.out.bk C2.out).c3;have HM2:=I (imul_any w5 i2 ⟨false,u⟩ y.sg false y.num x.un hi2 ⟨rfl,HNU2.out.gr HG5.out⟩ L2.out L3.out);rw[sg_false] at HM2;simp only[Iv.v] at HM2;clear hi2 G5) | (go_at_call 262;refine (HM1.out).mono ?_;rintro e w4 ⟨m1,rfl,hm1,G4⟩;have HG4:=I (HG3.out.trans G4);have hk2:=ai (HG4.out.bk C1.out).c3 (HG4.out.bk C2.out).c3;have HR1:=I hm1;have HS3:=I (HS2.out w4 HG4.out);clear hm1 G4) | (go_at_call 150;refine (HS1.out).mono ?_;rintro e w3 ⟨i1,rfl,hi1,G3⟩;have HG3:=I (HG0.out.trans G3);have hk1:=ai (HG3.out.bk C1.out).c3 (HG3.out.bk C2.out).c3;have HM1:=I (imul_any w3 i1 ⟨false,v⟩ x.sg false x.num y.un hi1 ⟨rfl,HNV.out.gr HG3.out⟩ L1.out L4.out);rw[sg_false] at HM1;simp only[Iv.v] at HM1;clear hi1 G3))) | fail
 obtain⟨E3,F3⟩:=D3.put2 (.bool m1.neg) m1.mag.v;have E4:=F3.bk D4 hrs2;obtain⟨E5,F5⟩:=E4.put2 (.bool m2.neg) m2.mag.v;have E6:=F5.bk E3 hrs;have R1:=I ((HR3.fr F3 D3 (noLimb_int _ _ _ _)).fr F5 E4 (noLimb_int _ _ _ _));have R2:=I ((HR4.fr F3 D3 (noLimb_int _ _ _ _)).fr F5 E4 (noLimb_int _ _ _ _));have HGF:=I (((hF.trans HG6).fr_at F3 (by rw[hPE.out];exact hle.out)).fr_at F5 (by rw[hPE.out];exact hls.out));obtain⟨d0,d1⟩:=E6.c2;obtain⟨e0,e1⟩:=E5.c2;clear E3 E4 E5 E6 F3 F5;go_wp2;generalize (((w6.setCell ⟨r,0,none⟩ (.bool m1.neg)).setCell ⟨r,1,none⟩ m1.mag.v).setCell ⟨s,0,none⟩ (.bool m2.neg)).setCell ⟨s,1,none⟩ m2.mag.v=W5 at*;refine pex ?_;refine bodyPost_ret (by simp[results,Tryz.results193,go_sem,d0,d1,e0,e1];try rfl) rfl ?_;exact⟨m1,m2,rfl,R1.out,R2.out,HGF.out⟩
end
end Go.Proofs.YtmhphnljfcncpaaGreatDoor
