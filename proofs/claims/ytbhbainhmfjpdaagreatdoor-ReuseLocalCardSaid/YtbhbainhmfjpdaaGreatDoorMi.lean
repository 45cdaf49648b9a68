/- Walks of the search and of what it calls, part 9. -/
import Derived.Test.YtbhbainhmfjpdaaGreatDoorMh
set_option linter.unusedVariables false
set_option linter.unusedSimpArgs false
set_option maxRecDepth 100000
set_option maxHeartbeats 8000000
namespace Go.Proofs.YtbhbainhmfjpdaaGreatDoor
open Go.RowKit
section
attribute [local go_sem] Oper.semAt_some
structure RSubSt (a b o:List Nat) (i c:Nat):Prop where
 len:o.length=i
 lim:Lim o
 car:c≤1
 sum:val o+val (b.take i)=val (a.take i)+B32 ^ i*c
theorem RSubSt.start (a b:List Nat):RSubSt a b [] 0 0:=⟨rfl,Lim.nil,by omega,by simp[val]⟩
theorem RSubSt.step {a b o:List Nat} {i c x c':Nat} (h:RSubSt a b o i c) (hx:x < B32) (hc:c'≤1) (hs:x+(lim0 b i+c)=lim0 a i+B32*c'):RSubSt a b (o++[x]) (i+1) c':=by
 refine⟨by rw[List.length_append,h.len];rfl,h.lim.append (Lim.one hx),hc,?_⟩;have e2:=h.sum;have e3:=cb a i;have e4:=cb b i;have e5:B32 ^ i*(x+(lim0 b i+c))=B32 ^ i*(lim0 a i+B32*c'):=by rw[hs]
 rw[Nat.mul_add,Nat.mul_add,Nat.mul_add] at e5;have e6:B32 ^ (i+1)*c'=B32 ^ i*(B32*c'):=by rw[Nat.pow_succ,Nat.mul_assoc]
 rw[vg,h.len];omega
theorem RSubSt.done {a b o:List Nat} {c:Nat} (h:RSubSt a b o a.length c) (hv:val b≤val a) (hb:Lim b) (hl:∀i,a.length≤i→lim0 b i=0):val o=val a - val b:=by
 have e2:=h.sum;rw[List.take_length] at e2;have h1:=eq h.lim;rw[h.len] at h1;have h2:val (b.take a.length)=val b:=oa fun i x hi hx=>by
  rw[← jy hx];exact hl i hi
 rw[h2] at e2;rcases Nat.eq_zero_or_pos c with rfl | hc
 ·omega
 ·have:c=1:=by have:=h.car;omega
  subst this;omega
theorem ait {a b:List Nat} (hv:val b≤val a) (ha:Lim a):∀i,a.length≤i→lim0 b i=0:=fun i hi=>by
 rcases Nat.eq_zero_or_pos (lim0 b i) with h | h
 ·exact h
 ·have h1:=eq ha;have h2:=cb b i;have h3:=xd b (i+1);have h4:B32 ^ a.length≤B32 ^ i:=Nat.pow_le_pow_right dx hi;have h5:B32 ^ i*1≤B32 ^ i*lim0 b i:=Nat.mul_le_mul_left _ h;omega
theorem zx (w:World) (x y:Sv) (a b:List Nat) (hx:x.Num w a) (hy:y.Num w b) (ha:a.length≤400000) (hb:b.length≤400000):
  Calls Tryz.prog 111 #[x.v,y.v] w fun e w'=>Gr w w'∧((val b≤val a∧∃z:Sv,e=.returned (.tuple #[z.v,.int .i64 0])∧z.Num w' (ab (val a - val b))∧z.New w)∨(val a < val b∧e=.returned (.tuple #[.slice none 0 0,.int .i64 2]))):=by
 have HC:=I (a61 w x y a b hx hy ha hb);have HX:=I hx;have HY:=I hy;have HNx:=I hx.len;have hn9:x.n≤400000:=by rw[← HNx.out];exact ha
 have R0:Hid (w.ownsRow w.heap.size 200 1 Nl 0 (([]:List Nat).map lv)):=⟨rfl,.inl ⟨rfl,rfl⟩⟩;have HS0:=I (RSubSt.start a b);have HLx:Hid (∀W (i:Nat),Gr w W→i≤1000000000→Calls Tryz.prog 108 #[x.v,.int .i64 i] W fun e w'=>e=.returned (.int .u32 (lim0 a i))∧w'=W):=fun W i G hi=>mb W x a i (hx.gr G) hi
 have HLy:Hid (∀W (i:Nat),Gr w W→i≤1000000000→Calls Tryz.prog 108 #[y.v,.int .i64 i] W fun e w'=>e=.returned (.int .u32 (lim0 b i))∧w'=W):=fun W i G hi=>mb W y b i (hy.gr G) hi
 clear hx hy ha hb;by_cases hab:val a < val b
 ·have hE:Hid (cmpN (val a) (val b)=-1):=qn hab;rw[hE.out] at HC;have HAB:=I hab;go_enter Tryz.func111,Tryz.ntmps111;go_wp2_with fail;go_at_call 166
  refine HC.mono ?_;rintro e w2 ⟨rfl,rfl⟩;go_wp2;go_returns;exact⟨Gr.refl _,.inr ⟨HAB.out,rfl⟩⟩
 ·have hc0:decide (cmpN (val a) (val b) < 0)=false:=by
   unfold cmpN;rw[if_neg hab];split<;>simp
  have HLE:Hid (val b≤val a):=Nat.le_of_not_lt hab;generalize cmpN (val a) (val b)=cm at*;have hc1:¬cm < 0:=by simpa using hc0
  clear hab;go_enter Tryz.func111,Tryz.ntmps111;go_wp2_with fail;go_at_call 166
  refine HC.mono ?_;rintro e w2 ⟨rfl,rfl⟩;obtain⟨A,n,c⟩:=x;simp only at*;go_wp2;go_loopw [6,7,8] (fun s6 s7 i wr=>∃(t cr:Nat) (o:List Nat),i=.int .i64 t∧s7=.int .u64 cr∧t≤n∧cr≤1∧Hid (RSubSt a b o t cr)∧Hid (wr.ownsRow w2.heap.size 200 1 s6 t (o.map lv))∧Hid (Gr w2 wr)) (fun _ _ i _=>n - (intOf i).toNat)
  case atStart=>exact⟨0,0,[],rfl,rfl,nq _,by omega,HS0,R0,Gr.refl _⟩
  case round=>
   obtain⟨t,cr,o,rfl,rfl,ht,hcr,hS,hR,hG⟩:=hrel;by_cases htn:t < n
   ·have HA1:=I (HLx.out wr t hG om);have HA2:=I (HLy.out wr t hG om);have hp9:=md HX.lim t;have hq9:=md HY.lim t;rw[bc] at hp9 hq9;have HST:Hid (∀x c',x < 4294967296→c'≤1→x+(lim0 b t+cr)=lim0 a t+4294967296*c'→RSubSt a b (o++[x]) (t+1) c'):=fun x c' h1 h2 h3=>hS.step h1 h2 h3
    generalize lim0 a t=p at*;generalize lim0 b t=q at*;have hsz:=hG.size;by_cases hpq:p < q+cr
    ·have hd:decide ((p:Int) < (q:Int)+cr)=true:=by simp;omega
     obtain⟨x,hx⟩:∃x,x=p+4294967296 - (q+cr):=⟨_,rfl⟩;have E1:Hid ((p:Int)+4294967296 - ((q:Int)+cr)=(x:Int)):=(by omega:(p:Int)+4294967296 - ((q:Int)+cr)=(x:Int));have HSS:=I (HST.out x 1 om om om);clear hx;go_wp2_with fail;go_at_call 108
     refine HA1.mono ?_;rintro e w3 ⟨rfl,rfl⟩;go_wp2_with fail;go_at_call 108
     refine HA2.mono ?_;rintro e w3 ⟨rfl,rfl⟩;go_wp2_with (at_builtin;refine fj (w:=w3) a51 rfl (.tmp 36) (.tmp 41) rfl w2.heap.size u6 t (o.map lv) #[.int .u32 ((p:Int)+4294967296 - ((q:Int)+cr))] rfl rfl rfl hR.out (fo _) (by unfold maxLen;omega) om hsz ?_;intro v5 w5 h5 F5 _);rw[E1.out] at h5;have HR5:Hid (w5.ownsRow w2.heap.size 200 1 v5 (t+1) ((o++[x]).map lv)):=by rw[List.map_append];exact h5
     have HG5:Hid (Gr w2 w5):=hG.step F5 fun b _ e=>(mw hR b e).1
     clear h5 F5;go_roundw
     case rel=>exact⟨t+1,1,_,by go_num,rfl,by omega,by omega,HSS,HR5,HG5⟩
     case measure=>simp[intOf];omega
    ·have hd:decide ((p:Int) < (q:Int)+cr)=false:=by simp;omega
     obtain⟨x,hx⟩:∃x,x=p - (q+cr):=⟨_,rfl⟩;have E1:Hid ((p:Int) - ((q:Int)+cr)=(x:Int)):=(by omega:(p:Int) - ((q:Int)+cr)=(x:Int));have HSS:=I (HST.out x 0 om om om);clear hx;go_wp2_with fail;go_at_call 108
     refine HA1.mono ?_;rintro e w3 ⟨rfl,rfl⟩;go_wp2_with fail;go_at_call 108
     refine HA2.mono ?_;rintro e w3 ⟨rfl,rfl⟩;go_wp2_with (at_builtin;refine fj (w:=w3) a51 rfl (.tmp 36) (.tmp 41) rfl w2.heap.size u6 t (o.map lv) #[.int .u32 ((p:Int) - ((q:Int)+cr))] rfl rfl rfl hR.out (fo _) (by unfold maxLen;omega) om hsz ?_;intro v5 w5 h5 F5 _);rw[E1.out] at h5;have HR5:Hid (w5.ownsRow w2.heap.size 200 1 v5 (t+1) ((o++[x]).map lv)):=by rw[List.map_append];exact h5
     have HG5:Hid (Gr w2 w5):=hG.step F5 fun b _ e=>(mw hR b e).1
     clear h5 F5;go_roundw
     case rel=>exact⟨t+1,0,_,by go_num,rfl,by omega,by omega,HSS,HR5,HG5⟩
     case measure=>simp[intOf];omega
   ·obtain rfl:t=n:=by omega
    have e1:val o=val a - val b:=by
     have h:=hS.out;rw[← HNx.out] at h;exact h.done HLE HY.lim (ait HLE HX.lim)
    obtain⟨z,hzv,hzn,hz,hty⟩:=Sv.of_row hR dx;have HZZ:Hid (z.Num wr o):=⟨hz,hS.lim,hty⟩;have HT:=I (zy wr z _ HZZ (by rw[hS.len];omega));rw[e1] at HT;subst hzv;clear hz hty hzn e1;simp only[Sv.v];go_wp2_with fail;go_at_call 109
    refine HT.mono ?_;rintro e w6 ⟨k,rfl,hk,G6,hN⟩;have HNW:Hid (k.New w2):=fun ad h=>nt hG.size (hN ad h)
    have HK:=I hk;have HG6:=I (hG.trans G6);clear hk G6 HT hN;go_wp2;go_returns;exact⟨HG6.out,.inl ⟨HLE.out,k,rfl,HK.out,HNW.out⟩⟩
theorem a2k (w:World) (x y:Sv) (a b:List Nat) (hx:x.Num w a) (hy:y.Num w b) (ha:a.length≤400000) (hb:b.length≤400000):
  Calls Tryz.prog 111 #[x.v,y.v] w fun e w'=>Gr w w'∧((val b≤val a∧∃z:Sv,e=.returned (.tuple #[z.v,.int .i64 0])∧z.Num w' (ab (val a - val b)))∨(val a < val b∧e=.returned (.tuple #[.slice none 0 0,.int .i64 2]))):=
 (zx w x y a b hx hy ha hb).mono fun _ _ ⟨G,h⟩=>⟨G,h.imp (fun ⟨h1,z,h2,h3,_⟩=>⟨h1,z,h2,h3⟩) id⟩
theorem a7o (w:World) (x:Sv) (m:Nat) (hx:x.Num w (ab m)) (hl:(ab m).length≤1000000) (hm:18446744073709551616≤m):
  Calls Tryz.prog 167 #[x.v] w fun e w'=>e=.returned (.tuple #[.int .u64 0,.bool false])∧Gr w w':=by
 have hl2:2 < (ab m).length:=by
  rcases Nat.lt_or_ge 2 (ab m).length with h | h
  ·exact h
  ·have h1:=eq (fb m);rw[vl] at h1;have h2:B32 ^ (ab m).length≤B32 ^ 2:=Nat.pow_le_pow_right dx h;have h3:B32 ^ 2=18446744073709551616:=by decide
   omega
 have H1:=I (f8 w x _ hx hl);rw[vl] at H1;clear hx hl hm;go_enter Tryz.func167,Tryz.ntmps167;go_wp2_with fail;go_at_call 109
 refine cm2 H1 fun u w1 hu G1=>?_
 obtain⟨A,n,c⟩:=u;have hn:=hu.len;simp only at hn;rw[hn] at hl2;have HG1:=I G1;have d0:((n:Int) == 0)=false:=by simp;omega
 have d1:((n:Int) == 1)=false:=by simp;omega
 have d2:((n:Int) == 2)=false:=by simp;omega
 have e0:¬(n:Int)=0:=by omega
 have e1:¬(n:Int)=1:=by omega
 have e2:¬(n:Int)=2:=by omega
 have f0:¬n=0:=by omega
 have f1:¬n=1:=by omega
 have f2:¬n=2:=by omega
 clear hu H1 hn hl2;simp only[Sv.v] at*;go_wp2;go_returns;exact⟨rfl,HG1.out⟩
theorem ajw {a n y j:Nat} (hn:(ab a).length=n+1) (hy:(ab a)[n]?=some y) (hj:y / 2 ^ j=0):a < 2 ^ (32*n+j):=by
 have h1:y < 2 ^ j:=by
  rcases Nat.lt_or_ge y (2 ^ j) with h | h
  ·exact h
  ·have:=Nat.div_pos h (Nat.pow_pos (by decide:0 < 2));omega
 have e:=bn hy;rw[← hn,List.take_length,vl] at e;have h2:=eq ((fb a).take n);have h3:B32 ^ ((ab a).take n).length≤B32 ^ n:=Nat.pow_le_pow_right dx (by rw[List.length_take];exact Nat.min_le_left _ _);have h4:B32 ^ n=2 ^ (32*n):=by rw[Nat.pow_mul]
 have h5:B32 ^ n*(y+1)≤B32 ^ n*2 ^ j:=Nat.mul_le_mul_left _ h1;rw[Nat.pow_add,← h4];rw[Nat.mul_add,Nat.mul_one] at h5;omega
theorem a9k (w:World) (x:Sv) (a:Nat) (hx:x.Num w (ab a)) (hl:(ab a).length≤1000000):
  Calls Tryz.prog 168 #[x.v] w fun e w'=>∃r:Nat,e=.returned (.int .i64 (r:Int))∧a < 2 ^ r∧r≤32*x.n∧Gr w w':=by
 have H1:=I (f8 w x _ hx hl);rw[vl] at H1;have hxn:=hx.len;have HL:=I hl;clear hx hl;go_enter Tryz.func168,Tryz.ntmps168;go_wp2_with fail;go_at_call 109
 refine cm2 H1 fun u w1 hu G1=>?_
 obtain⟨A,n,c⟩:=u;have hn:(ab a).length=n:=hu.len;have HXN:Hid (x.n=n):=(show x.n=n by omega);have HU:=I hu;have HG1:=I G1;have HN:=I hn;clear hu H1 hxn;simp only[Sv.v] at*;by_cases h0:n=0
 ·subst h0;have HE:Hid (a=0):=bw.1 HN;clear hn;go_wp2;go_ret;exact⟨0,rfl,by rw[HE.out];decide,nq _,HG1.out⟩
 ·obtain⟨m,rfl⟩:∃m,n=m+1:=⟨n - 1,by omega⟩;obtain⟨y,ad,hy,hy9,hA,hb,d⟩:=HU.at (i:=m) (Nat.lt_succ_self m);simp only at hA;subst hA;have HY:=I hy;have HY9:=I hy9;have hm9:m≤1000000:=by have:=HL.out;omega
  have f0:((m:Int)+1 == 0)=false:=by simp;omega
  have f1:¬(m:Int)+1=0:=by omega
  have w1_:IntKind.i64.wrap ((m:Int)+1 - 1)=(m:Int):=wi _ om |>.trans om;have w2_:IntKind.i64.wrap (32*(m:Int))=32*(m:Int):=wi _ om;have d1:w1.drew.cell? (ad.add m)=some (.int .u32 (y:Int)):=d;clear hy hy9 hb h0 hn;go_wp2;go_loopw [3,4] (fun s3 s4 wr=>∃(k j t:Nat),s3=.int .i64 (k:Int)∧s4=.int .u32 (t:Int)∧Hid (k=32*m+j)∧Hid (t=y / 2 ^ j)∧j≤32∧t < 4294967296∧Hid (Gr w wr)) (fun _ s4 _=>(intOf s4).toNat)
  case atStart=>exact⟨32*m,0,y,congrArg (Value.int .i64) om,rfl,rfl,(Nat.div_one y).symm,by omega,by have:=HY9.out;rw[bc] at this;exact this,HG1.out⟩
  case round=>
   obtain⟨k,j,t,rfl,rfl,hk,ht,hj,ht9,hG⟩:=hrel;by_cases h0:t=0
   ·have hd:decide ((0:Int) < (t:Int))=false:=by simp;omega
    have hd2:decide (0 < t)=false:=by simp;omega
    have HB:Hid (a < 2 ^ k):=by rw[hk.out];exact ajw HN HY (by rw[← ht.out];exact h0)
    go_wp2;go_ret;exact⟨k,rfl,HB.out,by have:=hk.out;have:=HXN.out;omega,hG.out⟩
   ·have hd:decide ((0:Int) < (t:Int))=true:=by simp;omega
    have hd2:decide (0 < t)=true:=by simp;omega
    have E:Hid (((t:Int)) / 2=((t / 2:Nat):Int)):=(show (t:Int) / 2=((t / 2:Nat):Int) by omega);have hj9:j < 32:=by
     rcases Nat.lt_or_ge j 32 with h | h
     ·exact h
     ·exfalso
      have h1:j=32:=by omega
      have h2:=HY9.out;rw[bc] at h2
      apply h0
      rw[ht.out,h1];exact Nat.div_eq_of_lt h2
    have HT2:Hid (t / 2=y / 2 ^ (j+1)):=(show t / 2=y / 2 ^ (j+1) by rw[ht.out,Nat.div_div_eq_div_mul,Nat.pow_succ]);have hk9:k≤32000032:=by have:=hk.out;omega
    go_wp2;go_roundw
    case rel=>
     rw[E.out];exact⟨k+1,j+1,t / 2,by go_num,rfl,by rw[hk.out];exact Nat.add_assoc ..,HT2,by omega,by omega,hG⟩
    case measure=>rw[E.out];simp[intOf];omega
theorem alx {c p:Nat} (hc:c≤1) (hp:p < 4294967296):bits .or .u64 (c:Int) ((p:Int)*2)=((c+2*p:Nat):Int):=by
 have e:((p:Int)*2)=((p*2:Nat):Int):=by omega
 rw[e,u64_or_nat _ _ om om,Nat.or_comm,nat_join 1 (p*2) c om om]
 congr 1
 omega
theorem RAddSt.step1 {a o:List Nat} {i c z:Nat} (h:RAddSt a a o i c) (ha:Lim a) (hz:lim0 a i=z):RAddSt a a (o++[(c+2*z) % B32]) (i+1) ((c+2*z) / B32):=h.step ha ha (by rw[hz];omega)
theorem a9c (w:World) (x:Sv) (a:List Nat) (hx:x.Num w a) (hl:a.length≤400000):
  Calls Tryz.prog 169 #[.slice x.A x.n x.c,.int .i64 1] w fun e w'=>∃z:Sv,e=.returned z.v∧z.Num w' (ab (val a+val a))∧Gr w w':=by
 have HX:=I hx;have HN:=I hx.len;have hn9:x.n≤400000:=by rw[← HN.out];exact hl
 have HS0:=I (RAddSt.start a a);clear hx hl;obtain⟨A,n,c⟩:=x;simp only at*;have hmk:=aj0 0 om w;have HG0:Hid (Gr w (w.alloc (.cells #[] 200))):=(Gr.refl w).alloc _;have R0:Hid ((w.alloc (.cells #[] 200)).ownsRow w.heap.size 200 1 (.slice (some ⟨w.heap.size,0,none⟩) 0 0) 0 (([]:List Nat).map lv)):=World.ownsRow_lit w #[] 0 (Nat.le_refl _) dx rfl;simp only[Int.natCast_zero,Array.replicate_zero] at hmk;go_enter Tryz.func169,Tryz.ntmps169;go_wp2;clear hmk;generalize w.alloc (.cells #[] 200)=w0 at*;go_loopw [5,6,7] (fun s5 s6 i wr=>∃(t cr:Nat) (o:List Nat),i=.int .i64 t∧s6=.int .u64 cr∧t≤n∧cr≤1∧Hid (RAddSt a a o t cr)∧Hid (wr.ownsRow w.heap.size 200 1 s5 t (o.map lv))∧Hid (Gr w wr)) (fun _ _ i _=>n - (intOf i).toNat)
 case atStart=>exact⟨0,0,[],rfl,rfl,Nat.zero_le _,by omega,HS0,R0,HG0⟩
 case round=>
  obtain⟨t,cr,o,rfl,rfl,ht,hcr,hS,hR,hG⟩:=hrel;by_cases hlt:t < n
  ·obtain⟨p,ad,hp,hp9,hA,hbl,d⟩:=(HX.gr hG).at (i:=t) hlt;simp only at hA;subst hA;have hp2:lim0 a t=p:=by unfold lim0;rw[List.getD_eq_getElem?_getD,hp];rfl
   have HST:=I (hS.step1 HX.lim hp2);have hd1:decide ((t:Int) < n)=true:=by simp;omega
   obtain⟨lo,hlo⟩:∃lo,lo=(cr+2*p) % B32:=⟨_,rfl⟩;obtain⟨hi,hhi⟩:∃hi,hi=(cr+2*p) / B32:=⟨_,rfl⟩;rw[← hlo,← hhi] at HST;have hhi1:hi≤1:=HST.car;have hsz:=hG.size;have d1:wr.drew.cell? (ad.add t)=some (.int .u32 (p:Int)):=d;clear hp hbl hp2;rw[bc] at hp9 hlo hhi;have EO:bits .or .u64 (cr:Int) ((p:Int)*2)=((cr+2*p:Nat):Int):=alx hcr hp9;obtain⟨s,hs⟩:∃s,s=cr+2*p:=⟨_,rfl⟩;rw[← hs] at EO hlo hhi;have E1:Hid ((s:Int) % 4294967296=lo):=(show (s:Int) % 4294967296=lo by omega);have E2:Hid ((s:Int) / 4294967296=hi):=(show (s:Int) / 4294967296=hi by omega);clear hs hlo hhi;go_wp2_with (at_builtin;refine fj (w:=wr) a51 rfl (.tmp 27) (.tmp 30) rfl w.heap.size u5 t (o.map lv) #[.int .u32 ((s:Int) % 4294967296)] rfl rfl rfl hR.out (fo _) (by unfold maxLen;omega) om hsz ?_;intro v5 w5 h5 F5 _);rw[E1.out] at h5;have HR5:Hid (w5.ownsRow w.heap.size 200 1 v5 (t+1) ((o++[lo]).map lv)):=by rw[List.map_append];exact h5
   have HG5:Hid (Gr w w5):=hG.step F5 fun b _ e=>(mw hR b e).1
   clear h5 F5;go_roundw
   case rel=>
    rw[E2.out];exact⟨t+1,hi,_,by go_num,rfl,by omega,hhi1,HST,HR5,HG5⟩
   case measure=>simp[intOf];omega
  ·have hd1:decide ((t:Int) < n)=false:=by simp;omega
   obtain rfl:t=n:=by omega
   have hnl:a.length≤t:=by rw[HN.out];exact Nat.le_refl _
   obtain⟨e1,e2⟩:=hS.done hnl hnl;have HE1:=I e1;have HE2:=I e2;have hsz:=hG.size;clear e1 e2 hlt ht hnl;have hc:Hid ((cr:Int) % 4294967296=cr):=(by omega:(cr:Int) % 4294967296=cr);go_wp2_with (at_builtin;refine fj (w:=wr) a51 rfl (.tmp 34) (.tmp 37) rfl w.heap.size u5 t (o.map lv) #[.int .u32 (cr:Int)] rfl rfl rfl hR.out (fo _) (by unfold maxLen;omega) om hsz ?_;intro v5 w5 h5 F5 _);obtain⟨z,hzv,hzn,hz,hty⟩:=Sv.of_row h5 dx;have HZZ:Hid (z.Num w5 (o++[cr])):=⟨by rw[List.map_append];exact hz,HE2.out,hty⟩;have HLN:Hid ((o++[cr]).length≤1000000):=by
    rw[List.length_append,hS.len];exact (show t+1≤1000000 by omega)
   have HT:=I (f8 w5 z _ HZZ HLN);rw[HE1.out] at HT;have HG5:Hid (Gr w w5):=hG.step F5 fun b _ e=>(mw hR b e).1
   subst hzv;clear h5 F5 hz hty hzn;simp only[Sv.v];go_wp2_with fail;go_at_call 109
   refine cm1 HT fun k w6 HK G6=>?_
   have HG6:=I (HG5.trans G6);clear HT;go_wp2;go_ret;exact⟨k,rfl,HK.out,HG6.out⟩
theorem xg {i j s:Nat} (hi:i=32*j+s):2 ^ i=B32 ^ j*2 ^ s:=by
 rw[hi,Nat.pow_add,Nat.pow_mul]
theorem ag4 {l:List Nat} {j y:Nat} (h:l[j]?=some y):∃r,val l=val (l.take j)+B32 ^ j*(y+B32*r):=by
 obtain⟨hj,e⟩:=gs h;have e1:=jr (l.take j) (l.drop j);rw[List.take_append_drop,List.length_take,Nat.min_eq_left (Nat.le_of_lt hj),List.drop_eq_getElem_cons hj,e,val] at e1;exact⟨_,e1⟩
theorem a8u {l:List Nat} (hl:Lim l) (j:Nat):val (l.take j) < B32 ^ j:=
 nk (eq (hl.take j)) (Nat.pow_le_pow_right dx (by rw[List.length_take];exact Nat.min_le_left _ _))
theorem anl {a i j s p:Nat} (hi:i=32*j+s) (hs:s < 32) (hp:(ab a)[j]?=some p):a / 2 ^ i % 2=p / 2 ^ s % 2:=by
 obtain⟨r,e⟩:=ag4 hp;rw[vl] at e;have h1:=a8u (fb a) j;have e2:a / B32 ^ j=p+B32*r:=by
  rw[e,Nat.add_mul_div_left _ _ (Nat.pow_pos dx),Nat.div_eq_of_lt h1,Nat.zero_add]
 have e3:B32=2 ^ s*(2*2 ^ (31 - s)):=by
  rw[← Nat.pow_succ',← Nat.pow_add,show s+(31 - s).succ=32 by omega]
 rw[xg hi,← Nat.div_div_eq_div_mul,e2,e3,Nat.mul_assoc,Nat.add_mul_div_left _ _ (Nat.pow_pos dx),Nat.mul_assoc,Nat.add_mul_mod_self_left]
theorem abh {l:List Nat} (hl:Lim l) {i j s y:Nat} (hi:i=32*j+s) (hs:s≤32) (hy:l[j]?=some y) (h:val l % 2 ^ i=0):y % 2 ^ s=0:=by
 obtain⟨r,e⟩:=ag4 hy;have h1:=a8u hl j;have e3:B32=2 ^ s*2 ^ (32 - s):=by rw[← Nat.pow_add,show s+(32 - s)=32 by omega]
 rw[xg hi] at h;have h2:val l % B32 ^ j=0:=by
  have:=Nat.mod_mul_right_mod (val l) (B32 ^ j) (2 ^ s);rw[h,Nat.zero_mod] at this;exact this.symm
 have h3:val (l.take j)=0:=by
  rw[e,Nat.add_mul_mod_self_left,Nat.mod_eq_of_lt h1] at h2;exact h2
 rw[e,h3,Nat.zero_add,Nat.mul_mod_mul_left] at h;have h4:=(Nat.mul_eq_zero.1 h).resolve_left (Nat.ne_of_gt (Nat.pow_pos dx));rw[e3,Nat.mul_assoc,Nat.add_mul_mod_self_left] at h4;exact h4
theorem alz {y s:Nat} (hs:s < 32) (hy:y < B32) (h:y % 2 ^ (s+1)=0):y ||| 2 ^ s=y+2 ^ s∧y+2 ^ s < B32:=by
 have h1:2 ^ s < 2 ^ (s+1):=Nat.pow_lt_pow_right dx (Nat.lt_succ_self s);have e:=nat_join (s+1) y (2 ^ s) h h1;refine⟨e,?_⟩;rw[← e];exact Nat.or_lt_two_pow (n:=32) hy (Nat.pow_lt_pow_right dx hs)
theorem alw {y s:Nat} (hs:s < 32) (hy:y < B32):bits .or .u32 (y:Int) (IntKind.u32.wrap (2 ^ s))=((y ||| 2 ^ s:Nat):Int):=by
 have h1:2 ^ s < 4294967296:=Nat.pow_lt_pow_right dx hs;have e:IntKind.u32.wrap (2 ^ s)=((2 ^ s:Nat):Int):=by
  rw[IntKind.wrap_u32',show (2:Int) ^ s=((2 ^ s:Nat):Int) by rw[Int.natCast_pow];rfl];exact Int.emod_eq_of_lt (Int.natCast_nonneg _) (Int.ofNat_lt.2 h1)
 rw[e];exact u32_or_nat y (2 ^ s) hy h1
theorem Sv.Num.ne {w w':World} {x:Sv} {l:List Nat} {g:Nat} (h:x.Num w l) (F:Fr (fun b=>b=g) w w') (hX:∀ad,x.A=some ad→ad.block≠g):x.Num w' l:=by
 have hk:∀ad,x.A=some ad→ad.block < w.heap.size→w'.heap[ad.block]?=w.heap[ad.block]?:=fun ad ha hl=>F.keep _ hl (hX ad ha)
 refine⟨⟨h.is.len,h.is.cap,h.is.max,h.is.nil,fun i u hu=>?_⟩,h.lim,h.ty.keep fun ad ha hn=>?_⟩
 ·obtain⟨ad,e,hl,hc⟩:=h.is.see i u hu;exact⟨ad,e,nk hl F.size,(World.cell?_of_block (by rw[ea];exact hk ad e hl)).trans hc⟩
 ·obtain⟨cs,fr,hh⟩:=h.ty ad ha hn;refine hk ad ha ?_;rcases Nat.lt_or_ge ad.block w.heap.size with h1 | h1
  ·exact h1
  ·rw[Array.getElem?_eq_none h1] at hh;cases hh
structure DvSt (a b n:Nat) (o:List Nat) (i R:Nat):Prop where
 len:o.length=n
 lim:Lim o
 q:val o=a / 2 ^ i / b*2 ^ i
 r:R=a / 2 ^ i % b
theorem DvSt.start {a b i:Nat} (n:Nat) (h:a < 2 ^ i):DvSt a b n (List.replicate n 0) i 0:=by
 refine⟨List.length_replicate,fun x hx=>by rw[(List.mem_replicate.1 hx).2];decide,?_,by rw[Nat.div_eq_of_lt h,Nat.zero_mod]⟩;rw[Nat.div_eq_of_lt h,Nat.zero_div,Nat.zero_mul,vf fun x hx=>(List.mem_replicate.1 hx).2]
theorem DvSt.half {a b n:Nat} {o:List Nat} {i R:Nat} (h:DvSt a b n o (i+1) R) (hb:0 < b):
  ∃X,a / 2 ^ i=2*X+a / 2 ^ i % 2∧a / 2 ^ (i+1)=X∧X=b*(X / b)+R∧R < b∧val o=2*(X / b)*2 ^ i:=by
 refine⟨a / 2 ^ (i+1),?_,rfl,?_,by rw[h.r];exact Nat.mod_lt _ hb,?_⟩
 ·rw[Nat.pow_succ,← Nat.div_div_eq_div_mul];exact (Nat.div_add_mod _ 2).symm
 ·rw[h.r];exact (Nat.div_add_mod _ b).symm
 ·rw[h.q,Nat.pow_succ,Nat.mul_comm (2 ^ i) 2,← Nat.mul_assoc,Nat.mul_comm _ 2]
theorem DvSt.low {a b n:Nat} {o:List Nat} {i R R2:Nat} (h:DvSt a b n o (i+1) R) (hb:0 < b) (e:R2=2*R+a / 2 ^ i % 2) (hlt:R2 < b):DvSt a b n o i R2:=by
 obtain⟨X,e1,e2,e3,e4,e5⟩:=h.half hb;generalize hQ:X / b=Q at*;have e6:a / 2 ^ i=b*(2*Q)+R2:=by rw[e1,e,e3,Nat.mul_add,← Nat.mul_assoc,Nat.mul_comm 2 b,Nat.mul_assoc];omega
 refine⟨h.len,h.lim,?_,?_⟩
 ·rw[e5,e6,Nat.mul_add_div hb,Nat.div_eq_of_lt hlt,Nat.add_zero]
 ·rw[e6,Nat.mul_add_mod,Nat.mod_eq_of_lt hlt]
theorem DvSt.high {a b n:Nat} {o:List Nat} {i R R2 j s y:Nat} (h:DvSt a b n o (i+1) R) (hb:0 < b) (e:R2=2*R+a / 2 ^ i % 2) (hge:b≤R2) (hi:i=32*j+s) (hs:s < 32) (hy:o[j]?=some y):
  DvSt a b n (o.set j (y ||| 2 ^ s)) i (R2 - b):=by
 obtain⟨X,e1,e2,e3,e4,e5⟩:=h.half hb;have hm:y % 2 ^ (s+1)=0:=abh h.lim (i:=i+1) om om hy (by rw[e5,Nat.mul_comm 2,Nat.mul_assoc,Nat.pow_succ,Nat.mul_comm 2 (2 ^ i),Nat.mul_mod_left]);obtain⟨o1,o2⟩:=alz hs (h.lim.at hy) hm;generalize hQ:X / b=Q at*;have hlt:R2 - b < b:=by omega
 have e6:a / 2 ^ i=b*(2*Q+1)+(R2 - b):=by
  have:a / 2 ^ i=b*(2*Q)+R2:=by rw[e1,e,e3,Nat.mul_add,← Nat.mul_assoc,Nat.mul_comm 2 b,Nat.mul_assoc];omega
  rw[this,Nat.mul_add,Nat.mul_one];omega
 rw[o1];refine⟨by rw[List.length_set];exact h.len,h.lim.set j o2,?_,?_⟩
 ·have e7:=eu (y+2 ^ s) hy;rw[e6,Nat.mul_add_div hb,Nat.div_eq_of_lt hlt,Nat.add_zero,Nat.add_mul,Nat.one_mul,← e5,xg hi];rw[Nat.mul_add] at e7;omega
 ·rw[e6,Nat.mul_add_mod,Nat.mod_eq_of_lt hlt]
theorem DvSt.done {a b n R:Nat} {o:List Nat} (h:DvSt a b n o 0 R):val o=a / b∧R=a % b:=by
 refine⟨?_,?_⟩
 ·rw[h.q,Nat.pow_zero,Nat.div_one,Nat.mul_one]
 ·rw[h.r,Nat.pow_zero,Nat.div_one]
def uok (m:Nat):Bool:=decide (m < 18446744073709551616)
def uval (m:Nat):Nat:=if m < 18446744073709551616 then m else 0
theorem zv (w:World) (x:Sv) (m:Nat) (hx:x.Num w (ab m)) (hl:(ab m).length≤1000000):
  Calls Tryz.prog 167 #[x.v] w fun e w'=>e=.returned (.tuple #[.int .u64 (uval m),.bool (uok m)])∧Gr w w':=by
 by_cases h:m < 18446744073709551616
 ·rw[show uval m=m from if_pos h,show uok m=true from dt h];exact xu w x m hx h
 ·rw[show uval m=0 from if_neg h,show uok m=false from df h];exact a7o w x m hx hl om
theorem a9i (w:World) (x y:Sv) (a b:Nat) (hx:x.Num w (ab a)) (hy:y.Num w (ab b)) (ha:(ab a).length≤300000) (hb:(ab b).length≤300000) (hb0:0 < b) (hbig:¬(uok a=true∧uok b=true)):
  Calls Tryz.prog 113 #[x.v,y.v] w fun e w'=>∃p q:Sv,e=.returned (.tuple #[p.v,q.v,.int .i64 0])∧p.Num w' (ab (a / b))∧q.Num w' (ab (a % b))∧Gr w w':=by
 have H1:=I (zv w x a hx (nt ha dx));have HX:=I hx;have HY:=I hy;have HA:=I ha;have HB:=I hb;have HB0:=I hb0;have HBG:=I hbig;have HUB:Hid (uok b=true→((uval b:Nat):Int)≠0):=fun h=>by
  have h1:b < 18446744073709551616:=of_decide_eq_true h;rw[show uval b=b from if_pos h1];omega
 clear hx hy ha hb hb0 hbig;go_enter Tryz.func113,Tryz.ntmps113;go_wp2_with fail;go_at_call 167
 refine cm0 H1 fun w1 G1=>?_
 have HG1:=I G1;have H2:=I (zv w1 y b (HY.gr G1) (nt HB dx));clear H1;go_wp2_with fail;go_at_call 167
 refine cm0 H2 fun w2 G2=>?_
 have HG2:=I (HG1.trans G2);clear H2 HG1;generalize uval a=ua at*;generalize hub:uval b=ub at*;clear hub;generalize uok a=sa at*;generalize uok b=sb at*;have HZ:Hid (sb=true→((ub:Int) == 0)=false):=fun h=>by have:=HUB.out h;simp;omega
 have HNA:=I HX.len;have hmk:=aj0 x.n (by have:=HNA.out;have:=HA.out;omega) w2;have HQ0:=I (Lb.made w2 x.n);have HG3:=I (HG2.trans (((Gr.refl w2).alloc (.cells (Array.replicate x.n (.int .u32 0)) 200)).alloc (.cells #[] 200)));have HQ1:=I (((Gr.refl (w2.alloc (.cells (Array.replicate x.n (.int .u32 0)) 200))).alloc (.cells #[] 200)).bk HQ0);have HE0:Hid (Sv.Num ((w2.alloc (.cells (Array.replicate x.n (.int .u32 0)) 200)).alloc (.cells #[] 200)) ⟨some ⟨w2.heap.size+1,0,none⟩,0,0⟩ []):=yj _ _;have HBT:=I (a9k _ x a (HX.gr HG3) (nt HA dx));clear HQ0;rcases (show (sb=false∧sa=false)∨(sb=false∧sa=true)∨(sb=true∧sa=false) by have:=HBG.out;revert this;cases sa<;>cases sb<;>simp) with ⟨rfl,rfl⟩ | ⟨rfl,rfl⟩ | ⟨rfl,rfl⟩
 all_goals
  (try have hz:=HZ.out rfl)
  clear HUB HZ HBG;go_wp2_with fail;go_at_call 168
  refine HBT.mono ?_;rintro e w3 ⟨r,rfl,hr,hr9,G3⟩;have HST:=I (DvSt.start (b:=b) x.n hr);have HQ:=I (G3.bk HQ1);have HE:=I (HE0.gr G3);have HG:=I (HG3.trans G3);have hr8:r≤32*300000:=by have:=HNA.out;have:=HA.out;omega
  have HR9:=I hr9;clear hr hr9 G3 HBT HG3 HE0 HQ1 hmk;have HGS:=I HG2.size;clear HG2;generalize hge:w2.heap.size=g at*;clear hge;go_wp2;go_loopw [12,13] (fun s12 s13 wr=>∃(z:Sv) (t R:Nat) (o:List Nat),s12=.slice z.A z.n z.c∧s13=.int .i64 ((t:Int) - 1)∧t≤r∧Hid (DvSt a b x.n o t R)∧Hid (z.Num wr (ab R))∧Hid (Lb wr g o)∧Hid (Gr w wr)) (fun _ s13 _=>(intOf s13+1).toNat)
  case atStart=>exact⟨⟨some ⟨g+1,0,none⟩,0,0⟩,r,0,_,rfl,rfl,nr _,HST,by rw[aq];exact HE.out,HQ,HG⟩
  case round=>
   obtain⟨z,t,R,o,rfl,rfl,ht,hS,hZ,hQ,hG⟩:=hrel;rcases t with _ | k
   ·obtain⟨e1,e2⟩:=hS.done;have HN:Hid (Sv.Num wr ⟨some ⟨g,0,none⟩,x.n,x.n⟩ o):=fw hQ hS.lim hS.len (by have:=HNA.out;have:=HA.out;omega);have HM:=I (f8 wr _ o HN (by rw[hS.len];have:=HNA.out;have:=HA.out;omega));rw[e1] at HM;rw[e2] at hZ;clear e1 e2;go_wp2_with fail;go_at_call 109
    refine cm1 HM fun q w4 HQV G4=>?_
    have HZ4:=I (hZ.gr G4);have HG4:=I (hG.trans G4);clear HM;go_wp2;go_returns;exact⟨q,z,rfl,HQV.out,HZ4.out,HG4.out⟩
   ·have hRb:R < b:=by rw[hS.r];exact Nat.mod_lt _ HB0
    have hRl:(ab R).length≤300000:=nt (aw (Nat.le_of_lt hRb)) HB;have HSH:=I (a9c wr z (ab R) hZ (nt hRl dx));rw[vl] at HSH;obtain⟨j,hj⟩:∃j,j=k / 32:=⟨_,rfl⟩;obtain⟨s,hs⟩:∃s,s=k % 32:=⟨_,rfl⟩;have hks:k=32*j+s:=by omega
    have hs9:s < 32:=by omega
    have hjn:j < x.n:=by have:=HR9.out;omega
    have HKS:=I hks;have HJ:=I hj;have HS9:=I hs;have hk0:decide ((0:Int)≤(k:Int))=true:=by simp
    clear hj hs hks;rw[show (((k+1:Nat):Int) - 1)=(k:Int) by omega];go_wp2_with fail;go_at_call 169
    refine cm1 HSH fun u w4 HU G4=>?_
    obtain⟨p,ad,hp,hp9,hA,hbl,d⟩:=(HX.gr (hG.trans G4)).at (i:=j) hjn;have HBIT:=I (anl HKS hs9 hp);have HG4:=I (hG.trans G4);have HQ4:Hid (Lb w4 g o):=G4.bk hQ;clear hp hbl hG hQ HSH;obtain⟨xA,xn,xc⟩:=x;simp only at hA hjn;subst hA;have d1:w4.cell? (ad.add (k / 32))=some (.int .u32 (p:Int)):=by rw[← HJ.out];exact d
    have b1:(0:Int)≤(k:Int) / 32:=by omega
    have b2:(k:Int) / 32 < (xn:Int):=by have:=HJ.out;omega
    obtain⟨β,hβ⟩:∃β,β=a / 2 ^ k % 2:=⟨_,rfl⟩;have hβ9:β≤1:=by rw[hβ];have:=Nat.mod_lt (a / 2 ^ k) (show 0 < 2 by decide);omega
    have EB:bits .and .u32 ((p:Int) / 2 ^ (k % 32)) 1=(β:Int):=by
     rw[show ((p:Int) / 2 ^ (k % 32))=((p / 2 ^ (k % 32):Nat):Int) by rw[Int.natCast_ediv,Int.natCast_pow];rfl];refine (u32_and_nat (p / 2 ^ (k % 32)) 1 (nj (Nat.div_le_self _ _) hp9) dx).trans ?_;rw[Nat.and_one_is_mod,hβ,HBIT.out,HS9.out]
    have hlu:=I (show (ab (R+R)).length≤400000 from nt (ee R R 300000 hRl hRl) dx);have HY1:Hid (Sv.Num (w4.alloc (.cells #[.int .u32 (β:Int)] 200)) ⟨some ⟨w4.heap.size,0,none⟩,1,1⟩ [β]):=fw (Bk.made w4 200 #[.int .u32 (β:Int)]) (Lim.one (by rw[bc];omega)) rfl dx;have HAD:=I (a2l _ u _ _ _ (HU.gr ((Gr.refl w4).alloc _)) HY1 hlu (show 1≤400000 by decide));rw[vl,show val [β]=β from by simp[val]] at HAD;have GA:Hid (Gr w4 (w4.alloc (.cells #[.int .u32 (β:Int)] 200))):=(Gr.refl w4).alloc _;obtain⟨R2,hR2⟩:∃R2,R2=R+R+β:=⟨_,rfl⟩;rw[← hR2] at HAD;have HR2:Hid (R2=2*R+a / 2 ^ k % 2):=(show R2=2*R+a / 2 ^ k % 2 by rw[hR2,hβ];omega);have HL2:=I (show (ab R2).length≤400000 from nt (aw (show R2≤b+b by omega)) (nt (ee b b 300000 HB HB) dx));clear d hβ hRb hRl hR2 HY1 HU;go_wp2_with fail;go_at_call 110
    refine cm2 HAD fun v w5 hv G5=>?_
    have HV:=I hv;have HG5:=I (HG4.trans (GA.trans G5));have HQ5:Hid (Lb w5 g o):=(GA.trans G5).bk HQ4;have HY5:=I (HY.gr HG5);have HC:=I (a61 w5 v y _ _ hv HY5 HL2 (nt HB dx));rw[vl,vl] at HC;clear hv HAD GA HQ4 HG4 EB d1;go_wp2_with fail;go_at_call 166
    refine HC.mono ?_;rintro e w6 ⟨rfl,rfl⟩;clear HC;by_cases hlt:R2 < b
    ·have hc:decide ((0:Int)≤cmpN R2 b)=false:=by unfold cmpN;rw[if_pos hlt];rfl
     have HST:=I (hS.low HB0 HR2 hlt);clear hlt;generalize cmpN R2 b=cc at*;go_wp2;go_roundw
     case rel=>exact⟨v,k,R2,o,rfl,rfl,by omega,HST,HV,HQ5,HG5⟩
     case measure=>simp[intOf]
    ·have hc:decide ((0:Int)≤cmpN R2 b)=true:=by unfold cmpN;rw[if_neg hlt];split<;>rfl
     obtain⟨yl,hyl⟩:∃yl,o[j]?=some yl:=⟨_,ge (by rw[hS.len];exact hjn)⟩;have HST:=I (hS.high HB0 HR2 om HKS hs9 hyl);have HSB:=I (zx w6 v y _ _ HV HY5 HL2 (nt HB dx));rw[vl,vl] at HSB;have HLT:=I hlt;have HYL:=I hyl;clear hlt hyl;generalize cmpN R2 b=cc at*;go_wp2_with fail;go_at_call 111
     refine HSB.mono ?_;rintro e w7 ⟨G7,⟨_,z7,rfl,hz7,hn7⟩ | ⟨h7,_⟩⟩
     ·have HZ7:=I hz7;have HG7:=I (HG5.trans G7);have HQ7:Hid (Lb w7 g o):=G7.bk HQ5;have HNE:Hid (∀ad,z7.A=some ad→ad.block≠g):=fun ad h e=>by
       have h1:=hn7 ad h;have h2:=Bk.lt (show Bk w6 g _ _ from HQ5.out);omega
      clear hz7 hn7 G7 HSB;have c0:w7.cell? ⟨g,j,none⟩=some (.int .u32 (yl:Int)):=HQ7.cell HYL;have fz0:w7.frozen? ⟨g,j,none⟩=false:=HQ7.fz _;have ew:IntKind.i64.wrap ((k:Int) / 32)=(j:Int):=(wi _ om).trans (by have:=HJ.out;omega);have et:((k:Int).tmod 32)=(s:Int):=(Int.tmod_eq_emod_of_nonneg om).trans (by have:=HS9.out;omega);have hj2:(j:Int) < (xn:Int):=by omega
      clear b1 b2;go_wp2_with fail;refine wpr ?_;have kc:=I (fun (W':World) (G:Gr w7.drew W')=>ai (G.keep c0) G);refine wg 1 (tf 10 1) [0,1,2,3,4,5,6,7,8,9] [] ?_;iterate 10 refine .tk ?_
      refine .done fun W1 G1 F1=>?_
      clear F1;have GB:=(Gr.refl w7).drew.trans G1;have HZ8:=I (HZ7.gr GB);have HG8:=I (HG7.trans GB);have HQ8:Hid (Lb W1 g o):=GB.bk HQ7;have fz0:W1.frozen? ⟨g,j,none⟩=false:=HQ8.fz _;have c8:W1.cell? ⟨g,j,none⟩=some (.int .u32 (yl:Int)):=HQ8.cell HYL;have EOR:=alw hs9 (hS.lim.at HYL);clear G1 GB kc c0 HZ7 HG7 HQ7 ew et;refine wo 10 ?_;refine wpe ?_;have F8:Fr (fun b=>b=g) W1 (W1.setCell ⟨g,j,none⟩ (.int .u32 ((yl ||| 2 ^ s:Nat):Int))):=Fr.set W1 ⟨g,j,none⟩ _ rfl;have HQ9:Hid (Lb (W1.setCell ⟨g,j,none⟩ (.int .u32 ((yl ||| 2 ^ s:Nat):Int))) g (o.set j (yl ||| 2 ^ s))):=Lb.put HQ8 j _;have HZ9:=I (HZ8.ne F8 HNE);have HG9:=I (HG8.set (p:=⟨g,j,none⟩) HGS (.int .u32 ((yl ||| 2 ^ s:Nat):Int)));clear F8 HQ8 HZ8 HG8;generalize W1.setCell ⟨g,j,none⟩ (.int .u32 ((yl ||| 2 ^ s:Nat):Int))=w8 at*;go_wp2;go_roundw
      case rel=>exact⟨z7,k,R2 - b,_,rfl,rfl,by omega,HST,HZ9,HQ9,HG9⟩
      case measure=>simp[intOf]
     ·exact absurd h7 (by have:=HLT.out;omega)
theorem py (w:World) (x y:Sv) (a b:Nat) (hx:x.Num w (ab a)) (hy:y.Num w (ab b)) (ha:(ab a).length≤300000) (hb:(ab b).length≤300000) (hb0:0 < b):
  Calls Tryz.prog 113 #[x.v,y.v] w fun e w'=>∃p q:Sv,e=.returned (.tuple #[p.v,q.v,.int .i64 0])∧p.Num w' (ab (a / b))∧q.Num w' (ab (a % b))∧Gr w w':=by
 by_cases h:uok a=true∧uok b=true
 ·exact adn w x y a b hx hy (of_decide_eq_true h.1) hb0 (of_decide_eq_true h.2)
 ·exact a9i w x y a b hx hy ha hb hb0 h
theorem a4j (w:World) (x y:Sv) (a b:Nat) (hx:x.Num w (ab a)) (hy:y.Num w (ab b)) (ha:(ab a).length≤300000) (hb:(ab b).length≤300000):
  Calls Tryz.prog 112 #[x.v,y.v] w fun e w'=>∃p:Sv,e=.returned p.v∧p.Num w' (ab (Nat.gcd a b))∧Gr w w':=by
 have H1:=I (f8 w x _ hx (nt ha dx));rw[vl] at H1;have HY:=I hy;have HLB:=I (nt hb (by decide:300000≤1000000));clear hx hy;go_enter Tryz.func112,Tryz.ntmps112;go_wp2_with fail;go_at_call 109
 refine cm1 H1 fun u w1 HU G1=>?_
 have HG1:=I G1;have H2:=I (f8 w1 y _ (HY.gr G1) HLB);rw[vl] at H2;clear H1 HY;go_wp2_with fail;go_at_call 109
 refine cm1 H2 fun v w2 HV G2=>?_
 have HG2:=I (HG1.trans G2);have HU2:=I (HU.gr G2);clear HG1 HU H2;simp only[Sv.v] at*;go_wp2;go_loopw [0,1] (fun s0 s1 wr=>∃(p q:Sv) (m n:Nat),s0=.slice p.A p.n p.c∧s1=.slice q.A q.n q.c∧(ab m).length≤300000∧(ab n).length≤300000∧Hid (Nat.gcd m n=Nat.gcd a b)∧Hid ((ab n).length=q.n)∧Hid (p.Num wr (ab m))∧Hid (q.Num wr (ab n))∧Hid (Gr w wr)∧Hid (n≤n)) (fun _ s1 wx=>aew wx s1)
 case atStart=>exact⟨u,v,a,b,rfl,rfl,ha,hb,rfl,HV.len,HU2,HV,HG2,nr _⟩
 case round=>
  obtain⟨p,q,m,n,rfl,rfl,hm,hn,hgc,hln,hP,hQ,hG,_⟩:=hrel;by_cases h0:n=0
  ·have hq1:¬0 < q.n:=by
    have:q.n=0:=by rw[← hln.out,h0,aq];rfl
    omega
   have hq0:decide ((0:Int) < q.n)=false:=by simp;omega
   have hgg:Hid (Nat.gcd a b=m):=by rw[← hgc.out,h0];exact Nat.gcd_zero_right m
   clear h0;go_wp2;go_ret;exact⟨p,rfl,by rw[hgg.out];exact hP.out,hG.out⟩
  ·have hq1:0 < q.n:=by
    have:q.n≠0:=by rw[← hln.out];exact fun e=>h0 (bw.1 e)
    omega
   have hq0:decide ((0:Int) < q.n)=true:=by simp;omega
   have HD:=I (py wr p q m n hP hQ hm hn (Nat.pos_of_ne_zero h0));have hmn:m % n < n:=Nat.mod_lt _ om;have hrl:(ab (m % n)).length≤300000:=nt (aw (Nat.le_of_lt hmn)) hn;have HN:Hid (Nat.gcd n (m % n)=Nat.gcd a b):=by rw[← hgc.out,Nat.gcd_comm m n,Nat.gcd_rec n m,Nat.gcd_comm];exact rfl
   have HM:=I (vz hQ);simp only[Sv.v] at HM;generalize m % n=rr at*;go_wp2_with fail;go_at_call 113
   refine HD.mono ?_;rintro e w3 ⟨z,r,rfl,hz,hr,G3⟩;have HQ3:=I (hQ.gr G3);have HR:=I hr;have HG3:=I (hG.trans G3);have HM2:=I (vz hr);simp only[Sv.v] at HM2;clear hz hr G3 HD;simp only[Sv.v];go_wp2;go_roundw
   case rel=>exact⟨q,r,n,rr,rfl,rfl,hn,hrl,HN,HR.len,HQ3,HR,HG3,nr _⟩
   case measure=>
    rw[HM.out,HM2.out];exact hmn
def tv (m:Nat):Nat:=if m=0 then 1 else m
theorem anr (q:Q):q.un=tv q.den:=rfl
theorem jt (w:World) (s:Bool) (x:Sv) (a:Nat) (hx:x.Num w (ab a)) (ha:(ab a).length≤1000000):
  Calls Tryz.prog 106 #[.bool s,x.v] w fun e w'=>∃r:Iv,e=.returned r.v∧r.Is w' (s&&decide (0 < a)) a∧Gr w w':=by
 have b1:=Bk.made w 118 #[.bool false,Nl];have HG1:=I ((Gr.refl w).alloc (.cells #[.bool false,Nl] 118));have HB:=I b1;have H1:=I (f8 _ x _ (hx.gr HG1) ha);rw[vl] at H1;clear hx ha b1;go_enter Tryz.func106,Tryz.ntmps106;go_wp2_with fail;refine cm1 H1 fun u w1 HU G1=>?_
 have HG2:=I (HG1.trans G1);have HB2:=I (G1.bk HB);clear H1 HB;generalize hpe:w.heap.size=p at*;have HPE:=I hpe;clear hpe;obtain⟨A,n,c⟩:=u;have HN:=I HU.len;simp only[Sv.v] at*;obtain⟨q,hq⟩:∃q,q=(s&&decide (0 < a)):=⟨_,rfl⟩;have HQ:=I hq;have hqn:q=(s&&decide ((0:Int) < n)):=by
  rw[hq]
  congr 1
  by_cases h:a=0
  ·have:n=0:=by rw[← HN.out,h,aq];rfl
   simp[h,this]
  ·have:n≠0:=fun e=>h (bw.1 (HN.trans e))
   rw[dt om,dt om]
 obtain⟨B5,F5⟩:=HB2.put2 (.bool q) (.slice A n c);have c0_:=HB2.c2;have fz:=HB2.frozen;have H5:=I F5;obtain⟨d0,d1⟩:=B5.c2;clear F5 B5 hq;cases s
 ·obtain rfl:q=false:=by rw[hqn];rfl
  clear hqn;go_wp2;generalize (w1.setCell ⟨p,0,none⟩ (.bool false)).setCell ⟨p,1,none⟩ (.slice A n c)=W5 at*;refine pex ?_;refine bodyPost_ret (by simp[results,Tryz.results106,go_sem,d0,d1];try rfl) rfl ?_;exact⟨⟨false,⟨A,n,c⟩⟩,rfl,⟨HQ.out,HU.fr H5 HB2 (bf _ _ _ _)⟩,HG2.fr_at H5 (Nat.le_of_eq HPE)⟩
 ·by_cases hn:n=0
  ·subst hn;have hd:decide ((0:Int) < (0:Nat))=false:=rfl;obtain rfl:q=false:=by rw[hqn,hd];rfl
   clear hqn;go_wp2;generalize (w1.setCell ⟨p,0,none⟩ (.bool false)).setCell ⟨p,1,none⟩ (.slice A 0 c)=W5 at*;refine pex ?_;refine bodyPost_ret (by simp[results,Tryz.results106,go_sem,d0,d1];try rfl) rfl ?_;exact⟨⟨false,⟨A,0,c⟩⟩,rfl,⟨HQ.out,HU.fr H5 HB2 (bf _ _ _ _)⟩,HG2.fr_at H5 (Nat.le_of_eq HPE)⟩
  ·have hd:decide ((0:Int) < n)=true:=by simp;omega
   have hd2:decide (0 < n)=true:=by simp;omega
   obtain rfl:q=true:=by rw[hqn,hd];rfl
   clear hqn;go_wp2;generalize (w1.setCell ⟨p,0,none⟩ (.bool true)).setCell ⟨p,1,none⟩ (.slice A n c)=W5 at*;refine pex ?_;refine bodyPost_ret (by simp[results,Tryz.results106,go_sem,d0,d1];try rfl) rfl ?_;exact⟨⟨true,⟨A,n,c⟩⟩,rfl,⟨HQ.out,HU.fr H5 HB2 (bf _ _ _ _)⟩,HG2.fr_at H5 (Nat.le_of_eq HPE)⟩
theorem ko (w:World) (x:Sv) (m:Nat) (hx:x.Num w (ab m)) (hm:(ab m).length≤1000000):
  Calls Tryz.prog 54 #[x.v] w fun e w'=>∃y:Sv,e=.returned y.v∧y.Num w' (ab (tv m))∧Gr w w':=by
 have H1:=I (f8 w x _ hx hm);rw[vl] at H1;clear hx hm;go_enter Tryz.func54,Tryz.ntmps54;go_wp2_with fail;go_at_call 109
 refine cm2 H1 fun u w1 hu G1=>?_
 obtain⟨A,n,c⟩:=u;have HN:=I hu.len;have HU:=I hu;have HG1:=I G1;clear hu H1;simp only[Sv.v] at*;by_cases h0:m=0
 ·have hn0:n=0:=by rw[← HN.out,h0,aq];rfl
  subst hn0;have HR:Hid (Lb (w1.alloc (.cells #[.int .u32 1] 200)) w1.heap.size [1]):=Bk.made w1 200 #[.int .u32 1];have HG:=I (HG1.alloc (.cells #[.int .u32 1] 200));have HE:Hid (tv m=1):=if_pos h0;clear h0;go_wp2;go_ret;exact⟨⟨some ⟨w1.heap.size,0,none⟩,1,1⟩,rfl,by rw[HE.out,fp dx dx];exact fw HR (Lim.one dx) rfl dx,HG.out⟩
 ·have hn0:n≠0:=fun e=>h0 (bw.1 (HN.trans e))
  have hnd:((n:Int) == 0)=false:=by simp;omega
  have HE:Hid (tv m=m):=if_neg h0;clear h0;go_wp2;go_ret;exact⟨⟨A,n,c⟩,rfl,by rw[HE.out];exact HU.out,HG1.out⟩
theorem n5 (w:World) (s:Bool) (x y:Sv) (a b:Nat) (hx:x.Num w (ab a)) (hy:y.Num w (ab b)) (ha:(ab a).length≤300000) (hb0:0 < b) (hb:(ab b).length≤300000):
  Calls Tryz.prog 56 #[.bool s,x.v,y.v] w fun e w'=>∃r:Rv,e=.returned r.v∧r.Is w' (quot s a b)∧Gr w w':=by
 have b1:=Bk.made w 35 Rl;have HG1:=I ((Gr.refl w).alloc (.cells Rl 35));have HB:=I b1;have HX:=I (hx.gr HG1);have HY:=I (hy.gr HG1);have H1:=I (a4j _ x y a b HX HY ha hb);have hg0:0 < Nat.gcd a b:=Nat.gcd_pos_of_pos_right a hb0;have hgb:(ab (Nat.gcd a b)).length≤300000:=nt (aw (Nat.le_of_dvd hb0 (Nat.gcd_dvd_right a b))) hb;have HQ0:Hid (quot s a b=⟨s&&decide (0 < a / Nat.gcd a b),a / Nat.gcd a b,den0 (b / Nat.gcd a b)⟩):=by
  unfold quot;by_cases h0:a=0
  ·rw[if_pos h0,h0,Nat.zero_div,Nat.gcd_zero_left,Nat.div_self hb0,df om,Bool.and_false];exact rfl
  ·have:0 < a / Nat.gcd a b:=Nat.div_pos (Nat.le_of_dvd om (Nat.gcd_dvd_left a b)) hg0;rw[if_neg h0,dt this,Bool.and_true];exact rfl
 clear hx hy b1;go_enter Tryz.func56,Tryz.ntmps56;go_wp2_with fail;go_at_call 112
 refine cm1 H1 fun z w1 HZ G1=>?_
 have HG2:=I (HG1.trans G1);have HX1:=I (HX.gr G1);have HY1:=I (HY.gr G1);have HB1:=I (G1.bk HB);clear H1 HX HY HB;generalize Nat.gcd a b=g at*;have H2:=I (py w1 x z a g HX1 HZ ha hgb hg0);go_wp2_with fail;go_at_call 113
 refine H2.mono ?_;rintro e w2 ⟨q1,r1,rfl,hq1,hr1,G2⟩;have HN1:=I hq1;have HG3:=I (HG2.trans G2);have HB2:=I (G2.bk HB1);have H3:=I (py w2 y z b g (HY1.gr G2) (HZ.gr G2) hb hgb hg0);clear hq1 hr1 G2 H2 HB1;go_wp2_with fail;go_at_call 113
 refine H3.mono ?_;rintro e w4 ⟨q2,r2,rfl,hq2,hr2,G3⟩;have HN2:=I hq2;have HN3:=I (HN1.gr G3);have HG4:=I (HG3.trans G3);have HBs:=I (G3.bk HB2);clear hq2 hr2 G3 H3 HB2 HN1;generalize a / g=m at*;generalize b / g=k at*;generalize hpe:w.heap.size=p at*;have HPE:=I hpe;clear hpe;obtain⟨r0,r1',r2'⟩:=HBs.c3;have fz:=HBs.frozen;obtain⟨A,n,c⟩:=q1;obtain⟨B,l,d⟩:=q2;have hn:=I HN3.len;have hl:=I HN2.len;simp only[Sv.v] at*
 -- the sign
 have key:∀(S:Bool) (K:Nat),S=(s&&decide ((0:Int) < n))→K=den0 k→Hid (quot s a b=⟨S,m,K⟩):=fun S K hS hK=>by
  rw[HQ0.out,hS,hK];have:decide (0 < m)=decide ((0:Int) < n):=by
   by_cases h:m=0
   ·have:n=0:=by rw[← hn.out,h,aq];rfl
    simp[h,this]
   ·have:n≠0:=fun e=>h (bw.1 (hn.trans e))
    rw[dt om,dt om]
  rw[this];exact rfl
 by_cases hl1:l=1
 ·subst hl1;obtain⟨y,ad,hy,hy9,hA,hb',dd⟩:=HN2.at (i:=0) Nat.one_pos;simp only at hA;subst hA;have hky:k=y:=by
   have h:=vl k
   match hh:ab k,hl.out with
   | [z],_=>
    rw[hh] at hy h;obtain rfl:z=y:=by simpa using hy
    rw[← h];exact (show val [z]=z by simp[val])
  rw[add_zero] at dd;clear hy hb' hy9;by_cases hy1:y=1
  ·have hk1:Hid (0=den0 k):=by unfold den0;rw[if_pos (hky.trans hy1)];exact rfl
   subst hy1;clear hky;cases s
   ·have HQQ:=key false (0) (by rfl) (hk1.out);clear key;go_wp2;refine pex ?_;refine ks HBs fun W5 B5 F5=>?_
    have d_:=B5.c3;refine bret Tryz.results56 ?_;exact⟨⟨false,⟨A,n,c⟩,Sv.none⟩,rfl,by rw[HQQ.out];exact⟨rfl,HN3.fr F5 HBs (ba _ _ _ _ _ _ _),by rw[aq];exact Sv.Num.none _⟩,HG4.fr_at F5 (Nat.le_of_eq HPE)⟩
   ·by_cases hn0:n=0
    ·subst hn0;have HQQ:=key false (0) (by rfl) (hk1.out);clear key;go_wp2;refine pex ?_;refine ks HBs fun W5 B5 F5=>?_
     have d_:=B5.c3;refine bret Tryz.results56 ?_;exact⟨⟨false,⟨A,0,c⟩,Sv.none⟩,rfl,by rw[HQQ.out];exact⟨rfl,HN3.fr F5 HBs (ba _ _ _ _ _ _ _),by rw[aq];exact Sv.Num.none _⟩,HG4.fr_at F5 (Nat.le_of_eq HPE)⟩
    ·have hn1:decide ((0:Int) < n)=true:=by simp;omega
     have hn2:decide (0 < n)=true:=by simp;omega
     have hn3:0 < n:=by omega
     have HQQ:=key true (0) (by rw[hn1];rfl) (hk1.out);clear key;go_wp2;refine pex ?_;refine ks HBs fun W5 B5 F5=>?_
     have d_:=B5.c3;refine bret Tryz.results56 ?_;exact⟨⟨true,⟨A,n,c⟩,Sv.none⟩,rfl,by rw[HQQ.out];exact⟨rfl,HN3.fr F5 HBs (ba _ _ _ _ _ _ _),by rw[aq];exact Sv.Num.none _⟩,HG4.fr_at F5 (Nat.le_of_eq HPE)⟩
  ·have hyd:((y:Int) == 1)=false:=by simp;omega
   have hk1:Hid (k=den0 k):=by unfold den0;rw[if_neg (by rw[hky];exact hy1)];exact rfl
   clear hky;cases s
   ·have HQQ:=key false (k) (by rfl) (hk1.out);clear key;go_wp2;refine pex ?_;refine ks HBs fun W5 B5 F5=>?_
    have d_:=B5.c3;refine bret Tryz.results56 ?_;exact⟨⟨false,⟨A,n,c⟩,⟨some ad,1,d⟩⟩,rfl,by rw[HQQ.out];exact⟨rfl,HN3.fr F5 HBs (ba _ _ _ _ _ _ _),HN2.fr F5 HBs (ba _ _ _ _ _ _ _)⟩,HG4.fr_at F5 (Nat.le_of_eq HPE)⟩
   ·by_cases hn0:n=0
    ·subst hn0;have HQQ:=key false (k) (by rfl) (hk1.out);clear key;go_wp2;refine pex ?_;refine ks HBs fun W5 B5 F5=>?_
     have d_:=B5.c3;refine bret Tryz.results56 ?_;exact⟨⟨false,⟨A,0,c⟩,⟨some ad,1,d⟩⟩,rfl,by rw[HQQ.out];exact⟨rfl,HN3.fr F5 HBs (ba _ _ _ _ _ _ _),HN2.fr F5 HBs (ba _ _ _ _ _ _ _)⟩,HG4.fr_at F5 (Nat.le_of_eq HPE)⟩
    ·have hn1:decide ((0:Int) < n)=true:=by simp;omega
     have hn2:decide (0 < n)=true:=by simp;omega
     have hn3:0 < n:=by omega
     have HQQ:=key true (k) (by rw[hn1];rfl) (hk1.out);clear key;go_wp2;refine pex ?_;refine ks HBs fun W5 B5 F5=>?_
     have d_:=B5.c3;refine bret Tryz.results56 ?_;exact⟨⟨true,⟨A,n,c⟩,⟨some ad,1,d⟩⟩,rfl,by rw[HQQ.out];exact⟨rfl,HN3.fr F5 HBs (ba _ _ _ _ _ _ _),HN2.fr F5 HBs (ba _ _ _ _ _ _ _)⟩,HG4.fr_at F5 (Nat.le_of_eq HPE)⟩
 ·have hld:((l:Int) == 1)=false:=by simp;omega
  have hk1:Hid (k=den0 k):=by
   unfold den0;rw[if_neg fun e=>hl1 (by rw[← hl.out,e,fp dx dx];rfl)];exact rfl
  cases s
  ·have HQQ:=key false (k) (by rfl) (hk1.out);clear key;go_wp2;refine pex ?_;refine ks HBs fun W5 B5 F5=>?_
   have d_:=B5.c3;refine bret Tryz.results56 ?_;exact⟨⟨false,⟨A,n,c⟩,⟨B,l,d⟩⟩,rfl,by rw[HQQ.out];exact⟨rfl,HN3.fr F5 HBs (ba _ _ _ _ _ _ _),HN2.fr F5 HBs (ba _ _ _ _ _ _ _)⟩,HG4.fr_at F5 (Nat.le_of_eq HPE)⟩
  ·by_cases hn0:n=0
   ·subst hn0;have HQQ:=key false (k) (by rfl) (hk1.out);clear key;go_wp2;refine pex ?_;refine ks HBs fun W5 B5 F5=>?_
    have d_:=B5.c3;refine bret Tryz.results56 ?_;exact⟨⟨false,⟨A,0,c⟩,⟨B,l,d⟩⟩,rfl,by rw[HQQ.out];exact⟨rfl,HN3.fr F5 HBs (ba _ _ _ _ _ _ _),HN2.fr F5 HBs (ba _ _ _ _ _ _ _)⟩,HG4.fr_at F5 (Nat.le_of_eq HPE)⟩
   ·have hn1:decide ((0:Int) < n)=true:=by simp;omega
    have hn2:decide (0 < n)=true:=by simp;omega
    have hn3:0 < n:=by omega
    have HQQ:=key true (k) (by rw[hn1];rfl) (hk1.out);clear key;go_wp2;refine pex ?_;refine ks HBs fun W5 B5 F5=>?_
    have d_:=B5.c3;refine bret Tryz.results56 ?_;exact⟨⟨true,⟨A,n,c⟩,⟨B,l,d⟩⟩,rfl,by rw[HQQ.out];exact⟨rfl,HN3.fr F5 HBs (ba _ _ _ _ _ _ _),HN2.fr F5 HBs (ba _ _ _ _ _ _ _)⟩,HG4.fr_at F5 (Nat.le_of_eq HPE)⟩
theorem a9g (w:World) (x y:Sv) (m n:Nat) (hx:x.Num w (ab m)) (hy:y.Num w (ab n)):
  Calls Tryz.prog 195 #[x.v,y.v] w fun e w'=>e=.returned (.bool (decide (m=n)))∧Gr w w':=by
 obtain⟨A,k,c⟩:=x;obtain⟨B,l,d⟩:=y;have hk:=hx.len;have hl:=hy.len;have hk9:=hx.is.max;have hkc:=hx.is.cap;(try simp only at hk hl hk9 hkc)
 have HX:=I hx;have HY:=I hy;by_cases hkl:k=l
 ·subst hkl;have hnn:((k:Int) != k)=false:=by simp
  have HK:=I hk;have HL:=I hl;clear hx hy hk hl;(try simp only)
  go_enter Tryz.func195,Tryz.ntmps195;go_wp2;go_loopw [5] (fun i wr=>∃t:Nat,i=.int .i64 t∧t≤k∧Hid ((ab m).take t=(ab n).take t)∧Hid (Gr w wr)) (fun i _=>k - (intOf i).toNat)
  case atStart=>exact⟨0,rfl,nq _,rfl,Gr.refl w⟩
  case round=>
   obtain⟨t,rfl,ht,hT,hG⟩:=hrel;by_cases htk:t < k
   ·obtain⟨p,ad,hp,hp9,hA,hb,d1⟩:=(HX.gr hG).at (i:=t) htk;obtain⟨q,ad2,hq,hq9,hB,hb2,d2⟩:=(HY.gr hG).at (i:=t) htk;(try simp only at hA hB)
    subst hA hB;have e1:wr.drew.cell? (ad.add t)=some (.int .u32 p):=d1;have e2:wr.drew.cell? (ad2.add t)=some (.int .u32 q):=d2;have hG3:Hid (Gr w wr.drew):=hG.drew;by_cases hpq:p=q
    ·subst hpq;have HT:Hid ((ab m).take (t+1)=(ab n).take (t+1)):=by
      rw[List.take_add_one,List.take_add_one,hT.out,hp,hq];exact rfl
     clear hp hq hp9 hq9 hb hb2 hT;go_wp2;go_region
     all_goals go_wp2
     all_goals go_roundw
     all_goals first
      | exact⟨t+1,by go_num,by omega,HT,hG3⟩
      | (simp[intOf];omega)
    ·have hpd:((p:Int) != q)=true:=by simp;omega
     have HE:Hid (decide (m=n)=false):=by
      have h:¬m=n:=fun e=>by
       subst e;rw[hp] at hq;injection hq with hq;exact hpq hq
      exact df h
     clear hp hq hp9 hq9 hb hb2 hT;go_wp2;go_region
     all_goals go_wp2
     all_goals go_ret
     all_goals exact⟨by rw[HE.out];rfl,hG3.out⟩
   ·obtain rfl:t=k:=by omega
    have HE:Hid (decide (m=n)=true):=by
     have h:=hT.out;rw[List.take_of_length_le (by rw[HK.out];exact nr _),List.take_of_length_le (by rw[HL.out];exact nr _)] at h;exact dt (se h)
    clear hT;go_wp2;go_ret;exact⟨by rw[HE.out];rfl,hG.out⟩
 ·have hnn:((k:Int) != l)=true:=by simp;omega
  have HE:Hid (decide (m=n)=false):=by
   have h:¬m=n:=fun e=>hkl (by rw[← hk,← hl,e])
   exact df h
  clear hx hy hk hl;(try simp only)
  go_enter Tryz.func195,Tryz.ntmps195;go_wp2;go_ret;exact⟨by rw[HE.out];rfl,Gr.refl w⟩
theorem a2j (w:World) (a b:Rv) (x y:Q) (ha:a.Is w x) (hb:b.Is w y):
  Calls Tryz.prog 151 #[a.v,b.v] w fun e w'=>e=.returned (.bool (decide (x=y)))∧Gr w w':=by
 obtain⟨B1,B2,G⟩:=a1c w 35 35 a.ar b.ar;have HA:=I (ha.gr G);have HB:=I (hb.gr G);have HG:=I G;have C1:=I B1;have C2:=I B2;have a0_:=B1.c3;have b0_:=B2.c3;have N1:=I ha.neg;have N2:=I hb.neg;have hE:Hid (decide (x=y)=(a.neg == b.neg&&(decide (x.num=y.num)&&decide (x.den=y.den)))):=by
  rw[N1.out,N2.out];exact Q.dec_eq x y
 have HE1:=I (a9g _ a.num b.num _ _ HA.num HB.num);clear ha hb B1 B2 G;simp only[Rv.v];cases hn:(a.neg == b.neg)
 ·rw[hn] at hE;go_enter Tryz.func151,Tryz.ntmps151;go_wp2;go_ret;exact⟨by rw[hE.out];rfl,HG.out⟩
 ·rw[hn] at hE;go_enter Tryz.func151,Tryz.ntmps151;go_wp2_with fail;go_at_call 195
  refine cm0 HE1 fun w1 G1=>?_
  have HG1:=I (HG.trans G1);have HE2:=I (a9g w1 a.den b.den _ _ (HA.den.gr G1) (HB.den.gr G1));obtain⟨f0,f1,f2⟩:=(G1.bk C1).c3;obtain⟨g0,g1,g2⟩:=(G1.bk C2).c3;clear HE1 a0_ b0_;cases h1:decide (x.num=y.num)
  ·rw[h1] at hE;go_wp2;go_ret;exact⟨by rw[hE.out];rfl,HG1.out⟩
  ·rw[h1] at hE;generalize decide (x.den=y.den)=d at*;go_wp2_with fail;go_at_call 195
   refine cm0 HE2 fun w2 G2=>?_
   have HG2:=I (HG1.trans G2);clear HE2;go_wp2;go_ret;exact⟨by rw[hE.out];rfl,HG2.out⟩
structure RMulSt (a b o:List Nat) (i m:Nat):Prop where
 len:o.length=m
 lim:Lim o
 sum:val o=val (a.take i)*val b
 zer:∀j,i+b.length≤j→j < m→o[j]?=some 0
theorem RMulSt.start (a b:List Nat) (m:Nat):RMulSt a b (List.replicate m 0) 0 m:=
 ⟨by simp,Lim.zeros _,by rw[j8];simp[val],fun j _ hj=>iq hj⟩
structure RMulIn (a b o:List Nat) (i x k c m:Nat):Prop where
 len:o.length=m
 lim:Lim o
 car:c < B32
 sum:val o+B32 ^ (i+k)*c=val (a.take i)*val b+B32 ^ i*(x*val (b.take k))
 zer:∀j,i+b.length≤j→j < m→o[j]?=some 0
theorem RMulSt.into {a b o:List Nat} {i m:Nat} (h:RMulSt a b o i m) (x:Nat):RMulIn a b o i x 0 0 m:=
 ⟨h.len,h.lim,by decide,by rw[h.sum];simp[val],h.zer⟩
theorem RMulIn.step {a b o:List Nat} {i x k c y z s m:Nat} (h:RMulIn a b o i x k c m) (hx:x < B32) (hb:Lim b) (hy:b[k]?=some y) (hz:o[i+k]?=some z) (hs:s=c+(x*y+z)):
  RMulIn a b (o.set (i+k) (s % B32)) i x (k+1) (s / B32) m:=by
 have hk:=(gs hy).1;have h1:y < B32:=hb.at hy;have h2:z < B32:=h.lim.at hz;have h3:=h.car;have h4:x*y≤(B32 - 1)*(B32 - 1):=Nat.mul_le_mul om om;have h5:s < B32*B32:=by
  have:(B32 - 1)*(B32 - 1)=18446744065119617025:=by decide
  have:B32*B32=18446744073709551616:=by decide
  have:=bc;omega
 refine⟨by rw[List.length_set];exact h.len,h.lim.set _ (Nat.mod_lt _ dx),Nat.div_lt_of_lt_mul h5,?_,fun j hj hm=>by rw[co om];exact h.zer j hj hm⟩;have e1:=eu (s % B32) hz;have e2:=h.sum;have e3:=bn hy;have e5:B32 ^ (i+k)*(s % B32)+B32 ^ (i+(k+1))*(s / B32)=B32 ^ (i+k)*s:=by
  rw[show i+(k+1)=(i+k)+1 by omega,Nat.pow_succ,Nat.mul_assoc,← Nat.mul_add,Nat.mod_add_div]
 have e6:B32 ^ (i+k)*s=B32 ^ (i+k)*c+B32 ^ (i+k)*(x*y)+B32 ^ (i+k)*z:=by rw[hs,Nat.mul_add,Nat.mul_add,Nat.add_assoc]
 have e7:B32 ^ i*(x*val (b.take (k+1)))=B32 ^ i*(x*val (b.take k))+B32 ^ (i+k)*(x*y):=by
  rw[e3,Nat.mul_add,Nat.mul_add,Nat.pow_add]
  congr 1
  simp only[Nat.mul_assoc,Nat.mul_left_comm,Nat.mul_comm]
 omega
theorem RMulIn.done {a b o:List Nat} {i x c m:Nat} (h:RMulIn a b o i x b.length c m) (ha:a[i]?=some x) (him:i+b.length < m):RMulSt a b (o.set (i+b.length) c) (i+1) m:=by
 have e1:=eu c (h.zer (i+b.length) (nr _) him);have e2:=h.sum;rw[List.take_length] at e2;refine⟨by rw[List.length_set];exact h.len,h.lim.set _ h.car,?_,fun j hj hm=>by rw[co om];exact h.zer j om hm⟩;rw[bn ha,Nat.add_mul,Nat.mul_assoc];rw[Nat.mul_zero] at e1;omega
theorem RMulSt.done {a b o:List Nat} {m:Nat} (h:RMulSt a b o a.length m):val o=val a*val b:=by
 rw[h.sum,List.take_length]
theorem lg (w:World) (x y:Sv) (la lb:List Nat) (hx:x.Num w la) (hy:y.Num w lb) (ha:la.length≤400000) (hb:lb.length≤400000):
  Calls Tryz.prog 53 #[.slice x.A x.n x.c,.slice y.A y.n y.c] w fun e w'=>∃z:Sv,e=.returned z.v∧z.Num w' (ab (val la*val lb))∧Gr w w':=by
 obtain⟨A,n,c⟩:=x;obtain⟨B,m,d⟩:=y;have HU2:=I hx;have HV:=I hy;have HN:=I hx.len;have HM:=I hy.len;(try simp only at HN HM ⊢)
 have hn9:n≤400000:=by rw[← HN.out];exact ha
 have hm9:m≤400000:=by rw[← HM.out];exact hb
 have hw0:IntKind.i64.wrap ((n:Int)+m+1)=(n:Int)+m+1:=wi _ om;have hmk:=aj0 (n+m+1) om w;rw[show (((n+m+1:Nat)):Int)=(n:Int)+m+1 by omega] at hmk;have HR0:=I (Lb.made w (n+m+1));have HG4:Hid (Gr w (w.alloc (.cells (Array.replicate (n+m+1) (.int .u32 0)) 200))):=(Gr.refl w).alloc _;have HS0:=I (RMulSt.start la lb (n+m+1));clear hx hy ha hb;go_enter Tryz.func53,Tryz.ntmps53;go_wp2;clear hmk hw0;generalize hge:w.heap.size=g at*;have HGE:=I hge;clear hge;go_loopw [6] (fun i wr=>∃(t:Nat) (o:List Nat),i=.int .i64 t∧t≤n∧Hid (RMulSt la lb o t (n+m+1))∧Hid (Lb wr g o)∧Hid (Gr w wr)) (fun i _=>n - (intOf i).toNat)
 case atStart=>exact⟨0,_,rfl,nq _,HS0,HR0,HG4⟩
 case round=>
  obtain⟨t,o,rfl,ht,hS,hR,hG⟩:=hrel;by_cases htn:t < n
  ·obtain⟨p,ad,hp,hp9,hAe,hbl,d1⟩:=(HU2.gr hG).at (i:=t) htn;(try simp only at hAe)
   subst hAe;have HP:=I hp;have HI0:=I (hS.into p);have HP9:=I hp9;clear hp hp9 hbl hS d1;go_wp2;go_loopw [7,8] (fun s8 i wx=>(∃(k cr:Nat) (o:List Nat),i=.int .i64 k∧s8=.int .u64 cr∧k≤m∧Hid (RMulIn la lb o t p k cr (n+m+1))∧Hid (Lb wx g o)∧Hid (Gr w wx))∨(∃o:List Nat,i=.int .i64 ((m:Int)+1)∧Hid (RMulSt la lb o (t+1) (n+m+1))∧Hid (Lb wx g o)∧Hid (Gr w wx))) (fun _ i _=>m+1 - (intOf i).toNat)
   case atStart=>exact Or.inl ⟨0,0,_,rfl,rfl,nq _,HI0,hR,hG⟩
   case round=>
    rcases hrel with ⟨k,cr,o2,rfl,rfl,hk,hS2,hR2,hG2⟩ | ⟨o2,rfl,hS2,hR2,hG2⟩
    ·have fz:=hR2.fz;have hcr:cr < 4294967296:=hS2.car;have hlen2:o2.length=n+m+1:=hS2.len;obtain⟨z,hz⟩:∃z,o2[t+k]?=some z:=⟨_,ge om⟩;have q0:=hR2.cell hz;obtain⟨p',ad',hp',hp9',hA',_,d1⟩:=(HU2.gr hG2).at (i:=t) htn;(try simp only at hA')
     injection hA' with hA';subst hA';obtain rfl:p=p':=by have h:=HP.out;rw[hp'] at h;injection h with h;exact h.symm
     have HL:=I (mb wr.drew ⟨B,m,d⟩ lb k (HV.gr hG2.drew) om);(try simp only at HL)
     have hyb:=md HV.lim k;obtain⟨s,hs⟩:∃s,s=cr+(p*lim0 lb k+z):=⟨_,rfl⟩;have HX:=I (a6l HP9 hyb (hS2.lim.at hz) hcr hs);obtain⟨lo,hlo⟩:∃lo,lo=s % B32:=⟨_,rfl⟩;obtain⟨hi,hhi⟩:∃hi,hi=s / B32:=⟨_,rfl⟩;have E1:Hid ((s:Int) % 4294967296=lo):=by rw[bc] at hlo;exact (by omega:(s:Int) % 4294967296=lo)
     have E2:Hid ((s:Int) / 4294967296=hi):=by rw[bc] at hhi;exact (by omega:(s:Int) / 4294967296=hi)
     have HL2:Hid (Lb (wr.drew.setCell ⟨g,t+k,none⟩ (lv lo)) g (o2.set (t+k) lo)):=Lb.put (w:=wr.drew) hR2 (t+k) lo;have HG5:=I (hG2.drew.set (p:=⟨g,t+k,none⟩) (Nat.le_of_eq HGE) (lv lo));have HFIN:Hid ((k < m→RMulIn la lb (o2.set (t+k) lo) t p (k+1) hi (n+m+1))∧(k=m→RMulSt la lb (o2.set (t+k) lo) (t+1) (n+m+1))):=by
      refine⟨fun hkm=>?_,fun hkm=>?_⟩
      ·obtain⟨q,hq⟩:∃q,lb[k]?=some q:=⟨_,ge (by rw[HM.out];exact hkm)⟩;rw[hlo,hhi];exact hS2.step HP9 HV.lim hq hz (by rw[hs,jy hq])
      ·subst hkm;have h0:=hS2.zer (t+lb.length) (nr _) (by rw[HM.out];omega);rw[HM.out,hz] at h0;injection h0 with h0;have hy0:lim0 lb k=0:=im (by rw[HM.out];exact nr _);have hsc:lo=cr:=by
        rw[hlo,show s=cr by rw[hs,hy0,h0,Nat.mul_zero];rfl];exact Nat.mod_eq_of_lt hcr
       rw[hsc];have h1:=hS2.out;rw[← HM.out] at h1 ⊢;have h2:=h1.done HP (by rw[HM.out];omega);rw[HM.out] at h2 ⊢;exact h2
     have HHI:Hid (k=m→True):=fun _=>trivial
     clear hz hlen2 hp' hp9' hs hlo hhi hyb hR2 hS2;have hwk:decide ((k:Int)≤m)=true:=by simp;omega
     have hwk2:IntKind.i64.wrap ((t:Int)+(k:Int))=(t:Int)+(k:Int):=wi _ om;have hbi1:(0:Int)≤(t:Int)+(k:Int):=by omega
     have hbi2:(t:Int)+(k:Int) < (n:Int)+(m:Int)+1:=by omega
     have hbi3:((t:Int)+(k:Int)).toNat=t+k:=by omega
     generalize lim0 lb k=yk at*;go_wp2_with fail
     first | (go_region_held3 (fun W=>W.cell? (ad.add t)=some (.int .u32 (p:Int))∧W.cell? ⟨g,t+k,none⟩=some (.int .u32 (z:Int))∧W=wr.drew) (first | go_keep | exact⟨d1,q0,rfl⟩) (first | (go_at_call 108;refine HL.out.mono ?_;rintro e w5 ⟨rfl,rfl⟩))) | fail
     go_wp2;go_roundw
     case rel=>
      rw[HX.out,E1.out,E2.out];rcases Nat.lt_or_ge k m with hkm | hkm
      ·exact Or.inl ⟨k+1,hi,_,by go_num,rfl,by omega,HFIN.1 hkm,HL2,HG5⟩
      ·have hkm2:k=m:=by omega
       exact Or.inr ⟨_,by rw[hkm2],HFIN.2 hkm2,HL2,HG5⟩
     case measure=>simp[intOf];omega
    ·have hwk:decide ((m:Int)+1≤m)=false:=by simp;omega
     go_wp2;go_roundw
     case rel=>exact⟨t+1,o2,by go_num,by omega,hS2,hR2,hG2⟩
     case measure=>simp[intOf];omega
  ·obtain rfl:t=n:=by omega
   have e1:val o=val la*val lb:=by
    have h:=hS.out;rw[← HN.out] at h;exact h.done
   have hlen:o.length=t+m+1:=hS.len;have HT:=I (f8 wr ⟨some ⟨g,0,none⟩,t+m+1,t+m+1⟩ o (fw hR hS.lim hlen om) om);rw[e1] at HT;clear e1 hlen;go_wp2_with fail;go_at_call 109
   refine cm1 HT fun z w5 HZ G5=>?_
   have HG6:=I (hG.trans G5);clear HT;go_wp2;go_ret;exact⟨z,rfl,HZ.out,HG6.out⟩
theorem a00 (w:World) (s:Bool) (x:Sv) (m:Nat) (hx:x.Num w (ab m)) (hm:(ab m).length≤1000000):
  Calls Tryz.prog 67 #[.agg #[.bool s,x.v]] w fun e w'=>e=.returned (.int .i64 (isg s m))∧Gr w w':=by
 have B1:=Bk.made w 118 #[.bool s,x.v];have HG:=I ((Gr.refl w).alloc (.cells #[.bool s,x.v] 118));have C1:=I B1;have a0_:=B1.c2;have HM:=I (jt _ s x m (hx.gr HG) hm);clear hx hm B1;go_enter Tryz.func67,Tryz.ntmps67;go_wp2_with fail;go_at_call 106
 refine cm2 HM fun i w1 hi G1=>?_
 have C2:=I (G1.bk C1);have r0_:=C2.c2;have fz:=C2.frozen;have HG1:=I (HG.trans G1);obtain⟨D1,F1⟩:=C2.put2 (.bool i.neg) i.mag.v;obtain⟨d0,d1⟩:=D1.c2;have HG2:=I (HG1.fr_at F1 (nr _));have HL:=I hi.mag.len;have HN:=I hi.neg;clear hi HM C1 D1 F1 a0_;by_cases h0:m=0
 ·have hl:((i.mag.n:Int) == 0)=true:=by
   have:i.mag.n=0:=by rw[← HL.out,h0,aq];rfl
   simp[this]
  have HE:Hid (isg s m=0):=by unfold isg;exact if_pos h0
  clear h0;go_wp2;go_ret;exact⟨by rw[HE.out];rfl,HG2.out⟩
 ·have hl:((i.mag.n:Int) == 0)=false:=by
   have:i.mag.n≠0:=by rw[← HL.out];exact fun e=>h0 (bw.1 e)
   simp;omega
  have HE:Hid (isg s m=if i.neg then -1 else 1):=by
   unfold isg;rw[HN.out,if_neg h0,dt om,Bool.and_true];exact rfl
  clear h0;cases hs:i.neg
  ·rw[hs] at d0 HE;go_wp2;go_ret;exact⟨by rw[HE.out];rfl,by rw[hs] at HG2;exact HG2.out⟩
  ·rw[hs] at d0 HE;go_wp2;go_ret;exact⟨by rw[HE.out];rfl,by rw[hs] at HG2;exact HG2.out⟩
theorem a2i (w:World) (a:Rv) (q:Q) (ha:a.Is w q) (hl:(ab q.num).length≤1000000):
  Calls Tryz.prog 27 #[a.v] w fun e w'=>e=.returned (.int .i64 (isg q.neg q.num))∧Gr w w':=by
 have B1:=Bk.made w 35 #[.bool a.neg,.slice a.num.A a.num.n a.num.c,.slice a.den.A a.den.n a.den.c];have HG:=I ((Gr.refl w).alloc (.cells #[.bool a.neg,.slice a.num.A a.num.n a.num.c,.slice a.den.A a.den.n a.den.c] 35));have a0_:=B1.c3;have HS:=I (a00 _ a.neg a.num _ (ha.num.gr HG) hl);rw[ha.neg] at HS;have HN:=I ha.neg;clear ha B1 hl;simp only[Rv.v] at*;go_enter Tryz.func27,Tryz.ntmps27;go_wp2_with fail;go_at_call 67
 rw[HN.out];refine cm0 HS fun w1 G1=>?_
 have HG1:=I (HG.trans (HN.out▸G1))

 go_wp2;go_ret;exact⟨rfl,HG1.out⟩
theorem a01 (w:World) (a:Rv) (q:Q) (ha:a.Is w q) (hl:Sl q.num) (hd:Sl q.den):
  Calls Tryz.prog 124 #[a.v] w fun e w'=>∃r:Rv,e=.returned r.v∧r.Is w' (quot q.neg q.num q.un)∧Gr w w':=by
 obtain⟨B1,B2,G⟩:=a1c w 35 35 a.ar Rl;have HA:=I (ha.gr G);have HG:=I G;have hB1:=I B1;have hB2:=I B2;have HL:=I (nt hl (by decide:100000≤300000));have HD:Hid ((ab q.un).length≤300000):=by
  have:(ab q.un).length≤100000:=by
   unfold Q.un;split
   ·rw[fp dx dx];exact (by decide:1≤100000)
   ·exact hd
  exact nt this dx
 have HLD:Hid ((ab q.den).length≤1000000):=nt hd dx;clear ha hl hd B1 B2 G;simp only[Rv.v];go_enter Tryz.func124,Tryz.ntmps124;go_wp2_with fail;generalize hW:(w.alloc (.cells a.ar 35)).alloc (.cells Rl 35)=W at*;clear hW;have hpr:¬w.heap.size=w.heap.size+1:=by omega
 have hle:Hid (w.heap.size≤w.heap.size+1):=Nat.le_succ _;generalize w.heap.size+1=r at*;generalize hp:w.heap.size=p at*;have hPE:=I hp;clear hp;have hpr2:¬r=p:=fun e=>hpr e.symm
 have a0_:=hB1.c3;have HU:=I (ko W.drew a.den _ (HA.den.gr (Gr.refl W).drew) HLD);rw[← anr] at HU;have HNN:=I HA.neg
 first | (go_region_held3 (fun W=>W.cell? ⟨p,0,none⟩=some (.bool a.neg)∧W.cell? ⟨p,1,none⟩=some a.num.v∧W.cell? ⟨p,2,none⟩=some a.den.v)
   (first | go_keep | exact⟨hk.1,hk.2.1,hk.2.2⟩ | exact⟨hj.1,hj.2.1,hj.2.2⟩)
   (first | (go_at_call 56;refine (HQ.out).mono ?_;rintro e w2 ⟨i,rfl,hi,G2⟩;have hE1:=I (G2.bk hC1.out);have HBs:=I (G2.bk hC2.out);have HG2:=I (HG1.out.trans G2);have hj:=hE1.out.c3;obtain⟨r0,r1,r2⟩:=HBs.out.c3;have fz:=HBs.out.frozen;have HII:=I hi;clear hi G2) | (go_at_call 54;refine (HU.out).mono ?_;rintro e w1 ⟨y,rfl,hy,G1⟩;have hC1:=I (G1.bk hB1.out);have hC2:=I (G1.bk hB2.out);have HG1:=I (HG.out.drew.trans G1);have hk:=hC1.out.c3;have HQ:=I (n5 w1 a.neg a.num y _ _ ((HA.out.num.gr (Gr.refl W).drew).gr G1) hy HL.out q.un_pos HD.out);clear hy G1))) | fail
 go_wp2;refine pex ?_;refine ks HBs fun W5 B5 F5=>?_
 have d_:=B5.c3;refine bret Tryz.results124 ?_;exact⟨i,rfl,by rw[← HNN.out];exact HII.fr F5 HBs (ba _ _ _ _ _ _ _),HG2.fr_at F5 (by rw[hPE.out];exact hle.out)⟩
theorem ady (w:World) (a b:Iv) (s t:Bool) (m n:Nat) (ha:a.Is w s m) (hb:b.Is w t n) (hm:(ab m).length≤300000) (hn0:0 < n) (hn:(ab n).length≤300000):
  Calls Tryz.prog 56 #[.bool (a.neg != b.neg),a.mag.v,b.mag.v] w fun e w'=>∃r:Rv,e=.returned r.v∧r.Is w' (quot (s != t) m n)∧Gr w w':=by
 rw[← ha.neg,← hb.neg];exact n5 w _ a.mag b.mag m n ha.mag hb.mag hm hn0 hn
theorem a0q (w:World) (x:Int) (h1:-1000000000≤x) (h2:x≤1000000000):
  Calls Tryz.prog 52 #[.int .i64 x] w fun e w'=>∃r:Iv,e=.returned r.v∧r.Is w' (decide (x < 0)) x.natAbs∧Gr w w':=by
 have b1:=Bk.made w 118 #[.bool false,Nl];have HG1:=I ((Gr.refl w).alloc (.cells #[.bool false,Nl] 118));have HB:=I b1;clear b1;have HO:=I (fun W=>a0p W x.natAbs om);by_cases h0:x < 0
 ·have hd:decide (x < 0)=true:=by simp[h0]
  rw[hd];obtain⟨n,rfl⟩:∃n:Nat,x=-(n:Int):=⟨x.natAbs,by omega⟩;rw[show (-(n:Int)).natAbs=n by omega] at*;have HLN:Hid ((ab n).length≤1000000):=nt (bb (k:=1) (by rw[Nat.pow_one,bc];omega)) dx;go_enter Tryz.func52,Tryz.ntmps52;have hw:IntKind.u64.wrap (-IntKind.u64.wrap (-(n:Int)))=(n:Int):=by rw[IntKind.wrap_u64,IntKind.wrap_u64];omega
  go_wp2_with fail;go_at_call 107
  refine cm2 (HO.out _) fun z w1 hz G1=>?_
  have HG2:=I (HG1.trans G1);have C2:=I (G1.bk HB);have HM:=I (jt w1 true z n hz HLN);clear hz hw HB;go_wp2_with fail;go_at_call 106
  refine cm1 HM fun i w2 HII G2=>?_
  have HG3:=I (HG2.trans G2);have HBs:=I (G2.bk C2);have r0_:=HBs.c2;have fz:=HBs.frozen;clear HM C2;generalize hp:w.heap.size=r at*;have hPE:=I hp;clear hp;go_wp2;refine pex ?_;refine ks HBs fun W5 B5 F5=>?_
  have d_:=B5.c2;refine bret Tryz.results52 ?_;exact⟨i,rfl,⟨by rw[HII.neg];rw[dt om];rfl,HII.mag.fr F5 HBs (bf _ _ _ _)⟩,HG3.fr_at F5 (Nat.le_of_eq hPE)⟩
 ·have hd:decide (x < 0)=false:=by simp;omega
  rw[hd];obtain⟨n,rfl⟩:∃n:Nat,x=(n:Int):=⟨x.natAbs,by omega⟩;rw[show ((n:Int)).natAbs=n by omega] at*;have HLN:Hid ((ab n).length≤1000000):=nt (bb (k:=1) (by rw[Nat.pow_one,bc];omega)) dx;go_enter Tryz.func52,Tryz.ntmps52;have hw:IntKind.u64.wrap (n:Int)=(n:Int):=by rw[IntKind.wrap_u64];omega
  go_wp2_with fail;go_at_call 107
  refine cm2 (HO.out _) fun z w1 hz G1=>?_
  have HG2:=I (HG1.trans G1);have C2:=I (G1.bk HB);have HM:=I (jt w1 false z n hz HLN);clear hz hw HB;go_wp2_with fail;go_at_call 106
  refine cm1 HM fun i w2 HII G2=>?_
  have HG3:=I (HG2.trans G2);have HBs:=I (G2.bk C2);have r0_:=HBs.c2;have fz:=HBs.frozen;clear HM C2;generalize hp:w.heap.size=r at*;have hPE:=I hp;clear hp;go_wp2;refine pex ?_;refine ks HBs fun W5 B5 F5=>?_
  have d_:=B5.c2;refine bret Tryz.results52 ?_;exact⟨i,rfl,⟨HII.neg,HII.mag.fr F5 HBs (bf _ _ _ _)⟩,HG3.fr_at F5 (Nat.le_of_eq hPE)⟩
theorem adx (w:World) (x:Int) (h1:-1000000000≤x) (h2:x≤1000000000):
  Calls Tryz.prog 61 #[.int .i64 x] w fun e w'=>∃r:Rv,e=.returned r.v∧r.Is w' (ofQ x)∧Gr w w':=by
 have B1:=Bk.made w 35 Rl;have HG:=I ((Gr.refl w).alloc (.cells Rl 35));have C1:=I B1;have HI:=I (fun W=>a0q W x h1 h2);clear B1;go_enter Tryz.func61,Tryz.ntmps61;go_wp2_with fail;go_at_call 52
 refine cm2 (HI.out _) fun i w1 hi G1=>?_
 have D1:=Bk.made w1 118 #[.bool i.neg,i.mag.v];have G2:=(Gr.refl w1).alloc (.cells #[.bool i.neg,i.mag.v] 118);have HG1:=I ((HG.trans G1).trans G2);have HBs:=I ((G1.trans G2).bk C1);have HII:=I (hi.gr G2);have x0_:=D1.c2;have r0_:=HBs.c3;have fz:=HBs.frozen;clear hi G2 HI C1 D1;have hne:¬w1.heap.size=w.heap.size:=fun e=>Bk.ne (Bk.made w1 118 #[.bool i.neg,i.mag.v]) HBs dx e
 have hne2:¬w.heap.size=w1.heap.size:=fun e=>hne e.symm
 go_upto_region 2 with fail;generalize hW:w1.alloc (.cells #[.bool i.neg,i.mag.v] 118)=W at*;have hWE:=I hW;clear hW;generalize hp:w.heap.size=r at*;have hPE:=I hp;clear hp;go_wp2;refine pex ?_;refine ks HBs fun W5 B5 F5=>?_
 have d_:=B5.c3;refine bret Tryz.results61 ?_;exact⟨⟨i.neg,i.mag,Sv.none⟩,rfl,⟨HII.neg,HII.mag.fr F5 HBs (ba _ _ _ _ _ _ _),by rw[show (ofQ x).den=0 from rfl,aq];exact Sv.Num.none _⟩,HG1.fr_at F5 (Nat.le_of_eq hPE)⟩
theorem a7z (w:World) (a b:Iv) (s t:Bool) (m n:Nat) (ha:a.Is w s m) (hb:b.Is w t n) (hm:(ab m).length≤300000) (hn0:0 < n) (hn:(ab n).length≤300000):
  Calls Tryz.prog 51 #[a.v,b.v] w fun e w'=>∃r:Rv,e=.returned (.tuple #[r.v,.int .i64 0])∧r.Is w' (quot (s != t) m n)∧Gr w w':=by
 obtain⟨B1,B2,B3,G⟩:=a8e w 118 118 35 #[.bool a.neg,a.mag.v] #[.bool b.neg,b.mag.v] Rl;have HA:=I (ha.gr G);have HB:=I (hb.gr G);have HG:=I G;have C1:=I B1;have C2:=I B2;have C3:=I B3;have b0_:=B2.c2;have HS:=I (a00 _ b.neg b.mag n HB.mag (nt hn dx));have hsd:((isg b.neg n == 0)=false):=by
  unfold isg;rw[if_neg om];cases b.neg<;>rfl
 have hsd2:¬isg b.neg n=0:=by simpa using hsd
 generalize isg b.neg n=sv at*;clear ha hb B1 B2 B3 G;simp only[Iv.v];go_enter Tryz.func51,Tryz.ntmps51;go_wp2_with fail;go_at_call 67
 refine cm0 HS fun w1 G1=>?_
 have HG1:=I (HG.trans G1);have D3:=I (G1.bk C3);have HQ:=I (ady w1 a b s t m n (HA.gr G1) (HB.gr G1) hm hn0 hn);obtain⟨x0,x1⟩:=(G1.bk C1).c2;obtain⟨y0,y1⟩:=(G1.bk C2).c2;clear HS b0_ C1 C2 C3 HA HB HG;go_wp2_with fail;go_at_call 56
 refine cm1 HQ fun i w2 HII G2=>?_
 have HG2:=I (HG1.trans G2);have HBs:=I (G2.bk D3);have r0_:=HBs.c3;have fz:=HBs.frozen;have hle:Hid (w.heap.size≤w.heap.size+1+1):=nt (Nat.le_succ _) (Nat.le_succ _);clear HQ D3 x0 x1 y0 y1;generalize w.heap.size+1+1=r at*;go_wp2;refine pex ?_;refine ks HBs fun W5 B5 F5=>?_
 have d_:=B5.c3;refine bret Tryz.results51 ?_;exact⟨i,rfl,HII.fr F5 HBs (ba _ _ _ _ _ _ _),HG2.fr_at F5 hle⟩
theorem af9 (w:World) (a:Int) (b:Nat) (h1:-1000000000≤a) (h2:a≤1000000000) (h3:0 < b) (h4:b≤1000000000):
  Calls Tryz.prog 19 #[.int .i64 a,.int .i64 b] w fun e w'=>∃r:Rv,e=.returned (.tuple #[r.v,.int .i64 0])∧r.Is w' (quot (decide (a < 0)) a.natAbs b)∧Gr w w':=by
 have B1:=Bk.made w 35 Rl;have HG:=I ((Gr.refl w).alloc (.cells Rl 35));have C1:=I B1;have HI:=I (fun W=>a0q W a h1 h2);have HJ:=I (fun W=>a0q W (b:Int) om om);clear B1;go_enter Tryz.func19,Tryz.ntmps19;go_wp2_with fail;go_at_call 52
 refine cm1 (HI.out _) fun i w1 HII G1=>?_
 have HG1:=I (HG.trans G1);have C2:=I (G1.bk C1);clear HI C1;go_wp2_with fail;go_at_call 52
 refine cm2 (HJ.out _) fun j w2 hj G2=>?_
 have HG2:=I (HG1.trans G2);have C3:=I (G2.bk C2);rw[show decide ((b:Int) < 0)=false by simp,show ((b:Int)).natAbs=b by omega] at hj;have HM:=I (a7z w2 i j _ _ _ _ (HII.gr G2) hj (nt (bb (k:=2) (by rw[bc];omega)) dx) h3 (nt (bb (k:=2) (by rw[bc];omega)) dx));rw[Bool.bne_false] at HM;clear hj HJ C2;go_wp2_with fail;go_at_call 51
 refine cm1 HM fun k w3 HKK G3=>?_
 have HG3:=I (HG2.trans G3);have HBs:=I (G3.bk C3);have r0_:=HBs.c3;have fz:=HBs.frozen;clear HM C3;generalize hp:w.heap.size=r at*;have hPE:=I hp;clear hp;go_wp2;refine pex ?_;refine ks HBs fun W5 B5 F5=>?_
 have d_:=B5.c3;refine bret Tryz.results19 ?_;exact⟨k,rfl,HKK.fr F5 HBs (ba _ _ _ _ _ _ _),HG3.fr_at F5 (Nat.le_of_eq hPE)⟩
theorem a4q (w:World) (a:Rv) (q:Q) (ha:a.Is w q) (hq:q.Ok) (hl:Sl q.num) (hd:Sl q.den):
  Calls Tryz.prog 142 #[a.v] w fun e w'=>e=.returned (.bool true)∧Gr w w':=by
 have B1:=Bk.made w 35 a.ar;have G:=(Gr.refl w).alloc (.cells a.ar 35);have HA:=I (ha.gr G);have HG:=I G;have C1:=I B1;have HC:=I (a01 (w.alloc (.cells a.ar 35)).drew a q (HA.gr (Gr.refl _).drew) hl hd);rw[jw hq] at HC;clear ha B1 G;simp only[Rv.v] at*;go_enter Tryz.func142,Tryz.ntmps142;go_wp2_with fail;generalize hW:w.alloc (.cells a.ar 35)=W at*;clear hW;generalize w.heap.size=p at*;have a0_:=C1.c3
 first | (go_region_held3 (fun W=>W.cell? ⟨p,0,none⟩=some (.bool a.neg)∧W.cell? ⟨p,1,none⟩=some a.num.v∧W.cell? ⟨p,2,none⟩=some a.den.v)
   (first | go_keep | exact⟨hk.1,hk.2.1,hk.2.2⟩ | exact⟨hj.1,hj.2.1,hj.2.2⟩)
   (first | (go_at_call 151;refine (HQ.out).mono ?_;rintro e w2 ⟨rfl,G2⟩;have C3:=I (G2.bk C2.out);have HG2:=I (HG1.out.trans G2);have hj:=C3.out.c3;clear G2) | (go_at_call 124;refine (HC.out).mono ?_;rintro e w1 ⟨y,rfl,hy,G1⟩;have C2:=I (G1.bk C1.out);have HG1:=I (HG.out.drew.trans G1);have hk:=C2.out.c3;have HQ:=I (a2j w1 a y q q ((HA.out.gr (Gr.refl W).drew).gr G1) hy);rw[dt (rfl:q=q)] at HQ;simp only[Rv.v] at HQ;clear hy G1))) | fail
 go_wp2;go_ret;exact⟨rfl,HG2.out⟩
end
structure Q.Sm (q:Q):Prop where
 num:(ab q.num).length≤10000
 den:(ab q.un).length≤10000
theorem a3j {n:Nat} (h:n < B32):(ab n).length≤10000:=nt (bb (k:=1) (by rw[Nat.pow_one];exact h)) dx
theorem Q.Sm.small {q:Q} (h1:q.num < B32) (h2:q.den < B32):q.Sm:=⟨a3j h1,a3j (by unfold Q.un;split;decide;exact h2)⟩
theorem Q.Sm.lo {q:Q} (h:q.Sm):q.Lo:=⟨h.num,h.den⟩
theorem Q.Lo.sm {q:Q} (h:q.Lo):q.Sm:=⟨h.num,h.den⟩
theorem amk:Q.one.Lo:=Q.Sm.lo (Q.Sm.small dx dx)
theorem aj4:Q.mone.Lo:=Q.Sm.lo (Q.Sm.small dx dx)
theorem aj3:Q.zero.Lo:=Q.Sm.lo (Q.Sm.small dx dx)
abbrev Fm.zero:Fm:=⟨[],Q.zero⟩
def nx (n:Nat):List Nat→Nat×List Nat
 | []=>(0,[])
 | x::r=>(x % n,r)
theorem qh {n:Nat} (h:0 < n) (r:List Nat):(nx n r).1 < n:=by
 cases r with
 | nil=>exact h
 | cons x r=>exact Nat.mod_lt _ h
def a4z (a:Int) (b:Nat):Q:=quot (decide (a < 0)) a.natAbs b
def denN (b:Nat):Nat:=[1,1,2,4].getD b 0
def numQ (r:List Nat):Q×List Nat:=(a4z ((nx 9 r).1 - 4) (denN (nx 4 (nx 9 r).2).1),(nx 4 (nx 9 r).2).2)
structure Q.Tiny (q:Q):Prop where
 ok:q.Ok
 num:q.num≤4
 den:q.den≤4
theorem abz:∀a,a < 9→∀b,b < 4→(a4z ((a:Nat) - 4) (denN b)).Ok∧(a4z ((a:Nat) - 4) (denN b)).num≤4∧(a4z ((a:Nat) - 4) (denN b)).den≤4:=by decide
theorem di (r:List Nat):(numQ r).1.Tiny:=by
 obtain⟨h1,h2,h3⟩:=abz _ (qh (n:=9) (by decide) r) _ (qh (n:=4) (by decide) (nx 9 r).2);exact⟨h1,h2,h3⟩
def formT:Nat→Nat→List Tm→List Nat→List Tm×List Nat
 | 0,_,ts,r=>(ts,r)
 | n+1,v,ts,r=>if 0 < (nx 3 r).1 then formT n (v+1) (snoc ts v (numQ (nx 3 r).2).1) (numQ (nx 3 r).2).2 else formT n (v+1) ts (nx 3 r).2
def ep (vars:Nat) (r:List Nat):Fm×List Nat:=(⟨(formT vars 0 [] (numQ r).2).1,(numQ r).1⟩,(formT vars 0 [] (numQ r).2).2)
structure Fm.Small (f:Fm) (vars:Nat):Prop where
 ok:f.Ok vars
 num:∀t∈f.terms,t.2.Tiny
 const:f.const.Tiny
theorem zu {l:List Tm} {k c:Q} {v:Nat} (h:Fm.Small ⟨l,k⟩ v) (hc:c.Tiny):Fm.Small ⟨snoc l v c,k⟩ (v+1):=by
 refine⟨h.ok.snoc hc.ok,fun t ht=>?_,h.const⟩;unfold snoc at ht;simp only at ht;split at ht
 ·exact h.num t ht
 ·rcases List.mem_append.1 ht with h1 | h1
  ·exact h.num t h1
  ·rw[List.mem_singleton.1 h1];exact hc
theorem qj {k:Q}:∀(n v:Nat) (ts:List Tm) (r:List Nat),Fm.Small ⟨ts,k⟩ v→Fm.Small ⟨(formT n v ts r).1,k⟩ (v+n)
 | 0,v,ts,r,h=>h
 | n+1,v,ts,r,h=>by
  unfold formT;rw[show v+(n+1)=v+1+n by omega];split
  ·exact qj n (v+1) _ _ (zu h (di _))
  ·exact qj n (v+1) _ _ ⟨h.ok.mono (by omega),h.num,h.const⟩
theorem gw (vars:Nat) (r:List Nat):(ep vars r).1.Small vars:=by
 have h0:Fm.Small ⟨[],(numQ r).1⟩ 0:=⟨⟨fun i s t hs=>(by simp at hs),fun t ht=>(by cases ht),(di r).ok⟩,fun t ht=>(by cases ht),di r⟩;have:=qj vars 0 [] (numQ r).2 h0;rw[Nat.zero_add] at this;exact this
def en:Nat→Nat→List Nat→List Fm×List Nat
 | 0,_,r=>([],r)
 | n+1,v,r=>((ep v r).1::(en n (v+1) (ep v r).2).1,(en n (v+1) (ep v r).2).2)
def ja:Nat→Nat→List Nat→List Fm×List Nat
 | 0,_,r=>([],r)
 | n+1,v,r=>((ep v r).1::(ja n v (ep v r).2).1,(ja n v (ep v r).2).2)
structure Gm where
 inputs:Nat
 units:List Fm
 outputs:List Fm
 deriving DecidableEq,Inhabited
def dn (r:List Nat):Gm×List Nat:=
 let i:=nx 3 r
 let u:=nx 5 i.2
 let o:=nx 3 u.2
 let us:=en u.1 (1+i.1) o.2
 let os:=ja (1+o.1) (1+i.1+u.1) us.2
 (⟨1+i.1,us.1,os.1⟩,os.2)
structure Gm.Ok (g:Gm):Prop where
 i0:1≤g.inputs
 i9:g.inputs≤3
 u9:g.units.length≤4
 o0:1≤g.outputs.length
 o9:g.outputs.length≤3
 us:∀(j:Nat) (f:Fm),g.units[j]?=some f→f.Small (g.inputs+j)
 os:∀f∈g.outputs,f.Small (g.inputs+g.units.length)
theorem th:∀(n v:Nat) (r:List Nat),(en n v r).1.length=n
 | 0,_,_=>rfl
 | n+1,v,r=>by unfold en;rw[List.length_cons,th]
theorem rk:∀(n v:Nat) (r:List Nat),(ja n v r).1.length=n
 | 0,_,_=>rfl
 | n+1,v,r=>by unfold ja;rw[List.length_cons,rk]
theorem a2d:∀(n v:Nat) (r:List Nat) (j:Nat) (f:Fm),(en n v r).1[j]?=some f→f.Small (v+j)
 | 0,_,_,j,f,h=>by simp[en] at h
 | n+1,v,r,0,f,h=>by
  unfold en at h;obtain rfl:(ep v r).1=f:=by simpa using h
  exact gw v r
 | n+1,v,r,j+1,f,h=>by
  unfold en at h;rw[show v+(j+1)=v+1+j by omega];exact a2d n (v+1) (ep v r).2 j f (by simpa using h)
theorem yb:∀(n v:Nat) (r:List Nat),∀f∈(ja n v r).1,f.Small v
 | 0,_,_,f,h=>by simp[ja] at h
 | n+1,v,r,f,h=>by
  unfold ja at h;rcases List.mem_cons.1 h with rfl | h
  ·exact gw v r
  ·exact yb n v (ep v r).2 f h
theorem so (r:List Nat):(dn r).1.Ok:=by
 have h1:=qh (n:=3) (by decide) r;have h2:=qh (n:=5) (by decide) (nx 3 r).2;have h3:=qh (n:=3) (by decide) (nx 5 (nx 3 r).2).2;unfold dn;refine⟨by simp only;omega,by simp only;omega,?_,?_,?_,fun j f hf=>a2d _ _ _ j f hf,fun f hf=>?_⟩
 ·simp only[th];omega
 ·simp only[rk];omega
 ·simp only[rk];omega
 ·have:=yb _ _ _ f hf;simp only[th];exact this
structure Fm.Sm (f:Fm) (vars:Nat):Prop where
 ok:f.Ok vars
 num:∀t∈f.terms,t.2.Sm
 const:f.const.Sm
structure Gm.Va (g:Gm):Prop where
 i0:1≤g.inputs
 i9:g.inputs≤256
 u9:g.units.length≤1024
 o0:1≤g.outputs.length
 o9:g.outputs.length≤256
 us:∀(j:Nat) (f:Fm),g.units[j]?=some f→f.Sm (g.inputs+j)
 os:∀f∈g.outputs,f.Sm (g.inputs+g.units.length)
theorem Q.Tiny.sm {q:Q} (h:q.Tiny):q.Sm:=Q.Sm.small (nj h.num dx) (nj h.den dx)
theorem Fm.Small.sm {f:Fm} {n:Nat} (h:f.Small n):f.Sm n:=⟨h.ok,fun t ht=>(h.num t ht).sm,h.const.sm⟩
theorem Gm.Ok.va {g:Gm} (h:g.Ok):g.Va:=⟨h.i0,nt h.i9 dx,nt h.u9 dx,h.o0,nt h.o9 dx,fun j f hf=>(h.us j f hf).sm,fun f hf=>(h.os f hf).sm⟩
section
attribute [local go_sem] Oper.semAt_some
theorem vy {n:Nat} (h:Sl n):Sl (tv n):=by
 unfold tv;split
 ·show (ab 1).length≤100000;rw[fp dx dx];exact (by decide:1≤100000)
 ·exact h
theorem aa0 (w:World) (a b:Rv) (x y:Q) (ha:a.Is w x) (hb:b.Is w y) (h1:Sl x.num) (h2:Sl y.num) (h3:Sl x.den) (h4:Sl y.den):
  Calls Tryz.prog 69 #[a.v,b.v] w fun e w'=>∃r:Rv,e=.returned r.v∧r.Is w' (Q.mul x y)∧Gr w w':=by
 have U1:Hid (Sl x.un):=vy h3;have U2:Hid (Sl y.un):=vy h4;have bd:∀m n,Sl m→Sl n→(ab (m*n)).length≤300000:=fun m n hm hn=>nt (bh m n) (nt (Nat.add_le_add hm hn) dx)
 have HL:=I (bd _ _ h1 h2);have U3:=I (bd _ _ U1 U2);have L1:=I h1;have L2:=I h2;have L3:=I h3;have L4:=I h4;have L5:=I U1.out;have L6:=I U2.out;have hE:Hid (Q.mul x y=quot (x.neg != y.neg) (x.num*y.num) (x.un*y.un)):=rfl;have N1:=I ha.neg;have N2:=I hb.neg;clear h1 h2 h3 h4 bd;simp only[Rv.v] at*;go_enter Tryz.func69,Tryz.ntmps69;go_wp2_with fail;have h9:¬w.heap.size=w.heap.size+1+1:=by omega
 have h8:¬w.heap.size+1=w.heap.size+1+1:=by omega
 have hpo:Hid (w.heap.size≤w.heap.size+1+1):=nt (Nat.le_succ _) (Nat.le_succ _);refine nw3h fun W HG4 C1 C2 C3=>?_
 have HA4:=I (ha.gr HG4);have HB4:=I (hb.gr HG4);clear ha hb;generalize w.heap.size+1+1=r at*;generalize w.heap.size+1=q at*;generalize hp:w.heap.size=p at*;have hPE:=I hp;clear hp;have h6:¬r=p:=fun e=>h9 e.symm
 have h5:¬r=q:=fun e=>h8 e.symm
 have a0_:=C1.c3;have b0_:=C2.c3;have HG0:Hid (Gr W W.drew):=(Gr.refl W).drew;have HM0:=I (lg W.drew a.num b.num _ _ (HA4.num.gr HG0) (HB4.num.gr HG0) (nt L1 dx) (nt L2 dx));rw[vl,vl] at HM0;have HU1:Hid (∀W2,Gr W W2→Calls Tryz.prog 54 #[a.den.v] W2 fun e w'=>∃y':Sv,e=.returned y'.v∧y'.Num w' (ab x.un)∧Gr W2 w'):=fun W2 G=>ko W2 a.den _ (HA4.den.gr G) (nt L3 dx)
 have HU2:Hid (∀W2,Gr W W2→Calls Tryz.prog 54 #[b.den.v] W2 fun e w'=>∃y':Sv,e=.returned y'.v∧y'.Num w' (ab y.un)∧Gr W2 w'):=fun W2 G=>ko W2 b.den _ (HB4.den.gr G) (nt L4 dx)
 first | (go_region_held3 (fun W=>W.cell? ⟨p,0,none⟩=some (.bool a.neg)∧W.cell? ⟨p,1,none⟩=some a.num.v∧W.cell? ⟨p,2,none⟩=some a.den.v∧W.cell? ⟨q,0,none⟩=some (.bool b.neg)∧W.cell? ⟨q,1,none⟩=some b.num.v∧W.cell? ⟨q,2,none⟩=some b.den.v)
   (first | go_keep | exact⟨hk0.1.1,hk0.1.2.1,hk0.1.2.2,hk0.2.1,hk0.2.2.1,hk0.2.2.2⟩ | exact⟨hk1.1.1,hk1.1.2.1,hk1.1.2.2,hk1.2.1,hk1.2.2.1,hk1.2.2.2⟩ | exact⟨hk2.1.1,hk2.1.2.1,hk2.1.2.2,hk2.2.1,hk2.2.2.1,hk2.2.2.2⟩ | exact⟨hk3.1.1,hk3.1.2.1,hk3.1.2.2,hk3.2.1,hk3.2.2.1,hk3.2.2.2⟩ | exact⟨hk4.1.1,hk4.1.2.1,hk4.1.2.2,hk4.2.1,hk4.2.2.1,hk4.2.2.2⟩)
   (first | (go_at_call 56;refine (HQ.out).mono ?_;rintro e w7 ⟨i,rfl,hi,G8⟩;have HG8:=I (HG7.out.trans G8);have hk4:=ai (HG8.out.bk C1.out).c3 (HG8.out.bk C2.out).c3;have HBs:=I (HG8.out.bk C3.out);obtain⟨r0,r1,r2⟩:=HBs.out.c3;have fz:=HBs.out.frozen;have HII:=I hi;clear hi G8) | (go_at_call 53;refine (HM.out).mono ?_;rintro e w6 ⟨z,rfl,hz,G7⟩;have HG7:=I (HG6.out.trans G7);have hk3:=ai (HG7.out.bk C1.out).c3 (HG7.out.bk C2.out).c3;have HQ:=I (n5 w6 (a.neg != b.neg) m z _ _ (HNM2.out.gr G7) hz HL.out (Nat.mul_pos x.un_pos y.un_pos) U3.out);clear hz G7) | (go_at_call 54;refine ((HU2.out w4 HG5.out)).mono ?_;rintro e w5 ⟨v,rfl,hv,G6⟩;have HNM2:=I (HNM1.out.gr G6);have HG6:=I (HG5.out.trans G6);have hk2:=ai (HG6.out.bk C1.out).c3 (HG6.out.bk C2.out).c3;have HM:=I (lg w5 u v _ _ (HNU.out.gr G6) hv (nt L5.out dx) (nt L6.out dx));rw[vl,vl] at HM;clear hv G6) | (go_at_call 54;refine ((HU1.out w3 HG3.out)).mono ?_;rintro e w4 ⟨u,rfl,hu,G5⟩;have HNM1:=I (HNM.out.gr G5);have HG5:=I (HG3.out.trans G5);have hk1:=ai (HG5.out.bk C1.out).c3 (HG5.out.bk C2.out).c3;have HNU:=I hu;clear hu G5) | (go_at_call 53;refine (HM0.out).mono ?_;rintro e w3 ⟨m,rfl,hm,G4⟩;have HG3:=I (HG0.out.trans G4);have hk0:=ai (HG3.out.bk C1.out).c3 (HG3.out.bk C2.out).c3;have HNM:=I hm;clear hm G4))) | fail
 go_wp2;refine pex ?_;refine ks HBs fun W5 B5 F5=>?_
 have d_:=B5.c3;refine bret Tryz.results69 ?_;exact⟨i,rfl,by rw[hE.out,← N1.out,← N2.out];exact HII.fr F5 HBs (ba _ _ _ _ _ _ _),(HG4.trans HG8).fr_at F5 (by rw[hPE.out];exact hpo.out)⟩
theorem a9d (w:World) (a b:Iv) (s t:Bool) (m n:Nat) (ha:a.Is w s m) (hb:b.Is w t n) (hm:(ab m).length≤300000) (hn:(ab n).length≤300000):
    Calls Tryz.prog 55 #[a.v,b.v] w fun e w'=>∃r:Iv,e=.returned r.v∧r.Is w' (sadd s m t n).1 (sadd s m t n).2∧Gr w w':=by
  obtain⟨B1,B2,B3,G⟩:=a8e w 118 118 118 #[.bool a.neg,a.mag.v] #[.bool b.neg,b.mag.v] #[.bool false,Nl];have hs:=I ha.neg;have ht:=I hb.neg;have HA:=I (ha.mag.gr G);have HB:=I (hb.mag.gr G);have HG:=I G;have HLM:=I hm;have HLN:=I hn;have hB1:=I B1;have hB2:=I B2;have hB3:=I B3;have a0_:=B1.c2;have b0_:=B2.c2;clear ha hb hm hn G B1 B2 B3;simp only[Iv.v];have HLA:Hid ((ab m).length≤400000):=nt HLM dx;have HLB:Hid ((ab n).length≤400000):=nt HLN dx;have HLP:Hid ((ab (m+n)).length≤1000000):=nt (ee m n _ HLM HLN) dx;by_cases hst:s=t
  · have HE:Hid (sadd s m t n=(s&&decide (0 < m+n),m+n)):=by unfold sadd;exact if_pos hst
    have hsd:(a.neg == b.neg)=true:=by rw[hs.out,ht.out,hst];simp
    go_enter Tryz.func55,Tryz.ntmps55;go_wp2_with fail;generalize hW:((w.alloc (.cells #[.bool a.neg,a.mag.v] 118)).alloc (.cells #[.bool b.neg,b.mag.v] 118)).alloc (.cells #[.bool false,Nl] 118)=W at*;clear hW;have hpr:¬w.heap.size=w.heap.size+1+1:=by omega
    have hqr:¬w.heap.size+1=w.heap.size+1+1:=by omega
    have hle:Hid (w.heap.size≤w.heap.size+1+1):=nt (Nat.le_succ _) (Nat.le_succ _);generalize w.heap.size+1+1=r at*;generalize w.heap.size+1=q at*;generalize hp:w.heap.size=p at*;have hPE:=I hp;clear hp;have hpr2:¬r=p:=fun e=>hpr e.symm
    have hqr2:¬r=q:=fun e=>hqr e.symm
    clear a0_ b0_;have a0_:=hB1.c2;have b0_:=hB2.c2;have HM:=I (a2l W.drew a.mag b.mag _ _ (HA.gr (Gr.refl W).drew) (HB.gr (Gr.refl W).drew) HLA HLB);rw[vl,vl] at HM
    first | (go_region_held3 (fun W=>W.cell? ⟨p,0,none⟩=some (.bool a.neg)∧W.cell? ⟨p,1,none⟩=some a.mag.v∧W.cell? ⟨q,0,none⟩=some (.bool b.neg)∧W.cell? ⟨q,1,none⟩=some b.mag.v) (first | go_keep | exact⟨hk1.1,hk1.2,hk2.1,hk2.2⟩ | exact⟨hj1.1,hj1.2,hj2.1,hj2.2⟩)
      (first | (go_at_call 110;refine HM.out.mono ?_;rintro e w1 ⟨z,rfl,hz,G1⟩;have hk1:=(G1.bk hB1.out).c2;have hk2:=(G1.bk hB2.out).c2;have HI:=I (jt w1 a.neg z _ hz HLP.out);have HBr:=I (G1.bk hB3.out);have HG1:=I (HG.out.drew.trans G1);have hB1':=I (G1.bk hB1.out);have hB2':=I (G1.bk hB2.out);clear hz G1)
             | (go_at_call 106;refine HI.mono ?_;rintro e w2 ⟨i,rfl,hi,G2⟩;have hj1:=(G2.bk hB1').c2;have hj2:=(G2.bk hB2').c2;have HBs:=I (G2.bk HBr);obtain⟨r0,r1⟩:=HBs.c2;have fz:=HBs.frozen;have HG2:=I (HG1.trans G2);have HII:=I hi;clear hi G2))) | fail
    go_wp2;refine pex ?_;refine ks HBs fun W5 B5 F5=>?_
    have d_:=B5.c2;refine bret Tryz.results55 ?_;exact⟨i,rfl,by rw[HE.out];exact⟨by rw[HII.neg,hs.out],HII.mag.fr F5 HBs (bf _ _ _ _)⟩,HG2.fr_at F5 (by rw[hPE.out];exact hle.out)⟩
  · have hsd:(a.neg == b.neg)=false:=by rw[hs.out,ht.out];simpa using hst
    have HC:=I (a2k _ a.mag b.mag _ _ HA HB HLA HLB);rw[vl,vl] at HC;have hle:Hid (w.heap.size≤w.heap.size+1+1):=nt (Nat.le_succ _) (Nat.le_succ _);go_enter Tryz.func55,Tryz.ntmps55;go_wp2_with fail;go_at_call 111
    refine HC.mono ?_;rintro e w1 ⟨G1,⟨hnm,z,rfl,hz⟩ | ⟨hmn,rfl⟩⟩
    · have HG3:=I (HG.trans G1)
      have HR3:=I (G1.bk hB3);obtain⟨x0,x1⟩:=(G1.bk hB1).c2;have HE:Hid (sadd s m t n=(s&&decide (0 < m - n),m - n)):=by
        unfold sadd;rw[if_neg hst,if_neg om];exact rfl
      have HI:=I (jt w1 a.neg z _ hz (nt (aw (Nat.sub_le m n)) (nt HLA dx)));clear hz G1 HC hB1 hB2 hB3 HG HA HB a0_ b0_ hnm;go_wp2_with fail;go_at_call 106
      refine cm1 HI fun i w4 HII G4=>?_
      have HG4:=I (HG3.trans G4);have HBs:=I (G4.bk HR3);obtain⟨r0,r1⟩:=HBs.c2;have fz:=HBs.frozen;clear HI;generalize w.heap.size+1+1=r at*;go_wp2;refine pex ?_;refine ks HBs fun W5 B5 F5=>?_
      have d_:=B5.c2;refine bret Tryz.results55 ?_;exact⟨i,rfl,by rw[HE.out];exact⟨by rw[HII.neg,hs.out],HII.mag.fr F5 HBs (bf _ _ _ _)⟩,HG4.fr_at F5 hle⟩
    · have HG2:=I (HG.trans G1)
      have hC1:=I (G1.bk hB1);have hC2:=I (G1.bk hB2);have hC3:=I (G1.bk hB3);obtain⟨x0,x1⟩:=hC1.c2;have y0_:=hC2.c2;have HE:Hid (sadd s m t n=(t&&decide (0 < n - m),n - m)):=by
        unfold sadd;rw[if_neg hst,if_pos hmn,dt om,Bool.and_true];exact rfl
      have HD:=I (a2k w1 b.mag a.mag _ _ (HB.gr G1) (HA.gr G1) HLB HLA);rw[vl,vl] at HD;clear G1 HC hB1 hB2 hB3 HG HA HB a0_ b0_;go_wp2_with fail;go_at_call 111
      refine HD.mono ?_;rintro e w3 ⟨G3,⟨_,z,rfl,hz⟩ | ⟨hx,rfl⟩⟩
      · have HG3:=I (HG2.trans G3)
        have HR3:=I (G3.bk hC3);obtain⟨u0,u1⟩:=(G3.bk hC2).c2;have HI:=I (jt w3 b.neg z _ hz (nt (aw (Nat.sub_le n m)) (nt HLB dx)));clear hz G3 HD hC1 hC2 hC3 x0 x1 y0_ hmn;go_wp2_with fail;go_at_call 106
        refine cm1 HI fun i w4 HII G4=>?_
        have HG4:=I (HG3.trans G4);have HBs:=I (G4.bk HR3);obtain⟨r0,r1⟩:=HBs.c2;have fz:=HBs.frozen;clear HI;generalize w.heap.size+1+1=r at*;go_wp2;refine pex ?_;refine ks HBs fun W5 B5 F5=>?_
        have d_:=B5.c2;refine bret Tryz.results55 ?_;exact⟨i,rfl,by rw[HE.out];exact⟨by rw[HII.neg,ht.out],HII.mag.fr F5 HBs (bf _ _ _ _)⟩,HG4.fr_at F5 hle⟩
      · exact absurd hx om
end
end Go.Proofs.YtbhbainhmfjpdaaGreatDoor
