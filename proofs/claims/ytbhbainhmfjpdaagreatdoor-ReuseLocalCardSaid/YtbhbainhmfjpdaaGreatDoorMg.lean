/- Walks of the search and of what it calls, part 7. -/
import Derived.Test.YtbhbainhmfjpdaaGreatDoorMf
import Derived.Test.YtbhbainhmfjpdaaGreatDoorLaid
import Derived.Lib.ItoaNum
import Derived.Deep.Cut
set_option linter.unusedVariables false
set_option linter.unusedSimpArgs false
set_option maxRecDepth 100000
set_option maxHeartbeats 8000000
namespace Go.Proofs.YtbhbainhmfjpdaaGreatDoor
open Go.RowKit
section
attribute [local go_sem] Oper.semAt_some
theorem aij {p:Nat} (hp:p < 4294967296):bits .or .u64 0 (p:Int)=(p:Int):=by
 have:=u64_or_nat 0 p om om;rw[Nat.zero_or] at this;exact this
theorem agw {v p:Nat} (hv:v < 4294967296) (hp:p < 4294967296):bits .or .u64 (v:Int) ((p:Int)*4294967296)=((v+B32*p:Nat):Int):=by
 rw[bc,show (p:Int)*4294967296=((p*4294967296:Nat):Int) by omega,u64_or_nat _ _ om om];have:=Nat.shiftLeft_add_eq_or_of_lt (i:=32) hv p;rw[Nat.shiftLeft_eq,Nat.or_comm] at this;rw[← this,Nat.mul_comm,Nat.add_comm]
theorem a5e (w:World) (x:Sv) (m:Nat) (hx:x.Num w (ab m)) (hm:m < 18446744073709551616):
  Calls Tryz.prog 329 #[x.v] w fun e w'=>e=.returned (.tuple #[.int .u64 m,.bool true])∧Gr w w':=by
 have H1:=I (bx w x _ hx);rw[vl] at H1;have hl2:(ab m).length≤2:=bb (by rw[bc];exact hm);clear hx;go_enter Tryz.func329,Tryz.ntmps329;go_wp2_with fail;refine cm1 H1 fun u w1 HU G1=>?_
 have HG1:=I G1;clear H1;obtain⟨A,n,c⟩:=u;have HN:=I HU.len;simp only[Sv.v] at*;have hn2:n≤2:=by rw[← HN.out];exact hl2
 have V0:Hid (val ((ab m).take 0)=0):=by rw[List.take_zero];exact rfl
 have VN:Hid (val ((ab m).take n)=m):=by
  rw[List.take_of_length_le (by rw[HN.out];exact nr _)];exact vl m
 clear hl2;go_wp2;go_loopw [4,14] (fun s4 i wr=>∃t v:Nat,i=.int .i64 t∧s4=.int .u64 v∧t≤n∧Hid (val ((ab m).take t)=v)∧Hid (Gr w wr)∧Hid (Gr w1 wr)) (fun _ i _=>n - (intOf i).toNat)
 case atStart=>exact⟨0,0,rfl,rfl,nq _,V0,HG1,Gr.refl _⟩
 case round=>
  obtain⟨t,v,rfl,rfl,ht,hV,hG,hGG⟩:=hrel;by_cases htn:t < n
  ·obtain⟨p,ad,hp,hp9,hAe,hbl,d1⟩:=(HU.gr hGG).at (i:=t) htn;simp only at hAe;subst hAe;have hVS:=bn hp;have hvl:v < B32 ^ t:=by
    rw[← hV.out];have:=eq ((fb m).take t);rw[List.length_take,HN.out,Nat.min_eq_left ht] at this;exact this
   rw[hV.out] at hVS;rw[bc] at hp9;rcases (show t=0∨t=1 by omega) with rfl | rfl
   ·have hv0:v=0:=by simpa using hvl
    subst hv0;rw[add_zero] at d1;have E0:=I (aij hp9);have HV2:Hid (val ((ab m).take 1)=p):=by
     rw[hVS,Nat.pow_zero,Nat.one_mul,Nat.zero_add];exact rfl
    clear hVS hvl hp hbl;go_wp2;go_roundw
    case rel=>
     rw[E0.out];exact⟨1,p,rfl,rfl,by omega,HV2,hG,hGG⟩
    case measure=>simp[intOf];omega
   ·have d2:wr.cell? ⟨ad.block,ad.off+1,none⟩=some (.int .u32 (p:Int)):=d1;clear d1;obtain rfl:n=2:=by omega
    rw[Nat.pow_one] at hVS hvl;have E0:=I (agw (by rw[bc] at hvl;exact hvl) hp9);have HV2:=I hVS;generalize v+B32*p=v2 at*;clear hVS hvl hp hbl;go_wp2;go_roundw
    case rel=>
     rw[E0.out];exact⟨2,v2,rfl,rfl,by omega,HV2,hG,hGG⟩
    case measure=>simp[intOf]
  ·obtain rfl:t=n:=by omega
   have HE:=I (hV.symm.trans VN);go_wp2;go_returns;exact⟨by rw[HE.out];rfl,hG.out⟩
theorem tb {x:Nat} (h:0 < x) (hx:x < B32):0 < Lib.bitLen x∧Lib.bitLen x≤32:=by
 obtain⟨h1,h2,_⟩:=Lib.bitLenAux_bounds 64 x (nm hx dx) om;refine⟨h1,Nat.le_of_not_lt fun h3=>?_⟩;have h4:2 ^ 32≤2 ^ (Lib.bitLenAux 64 x - 1):=Nat.pow_le_pow_right dx (by unfold Lib.bitLen at h3;omega);rw[bc] at hx;omega
theorem a7a (w:World) (x:Sv) (l:List Nat) (hx:x.Num w l) (hl:l.length≤1000000):
  Calls Tryz.prog 220 #[x.v] w fun e w'=>(∃r:Nat,e=.returned (.int .i64 r)∧r≤100000000∧((r:Int) == 0)=decide (val l=0))∧Gr w w':=by
 have H1:=I (bx w x l hx);have HA:Hid ((ab (val l)).length≤1000000):=nt (bb (eq hx.lim)) hl;clear hx hl;go_enter Tryz.func220,Tryz.ntmps220;go_wp2_with fail;refine cm2 H1 fun u w1 hu G1=>?_
 obtain⟨A,n,c⟩:=u;have HN:=I hu.len;have hn9:n≤1000000:=nt (Nat.le_of_eq HN.symm) HA;have HU:=I hu;have HG1:=I G1;clear hu H1;simp only[Sv.v] at*;by_cases h0:n=0
 ·have HZ:Hid (val l=0):=bw.1 (HN.trans h0);have hd:((n:Int) == 0)=true:=by simp[h0]
  go_wp2;go_ret;exact⟨⟨0,rfl,by omega,by rw[HZ.out];rfl⟩,HG1.out⟩
 ·have HZ:Hid (decide (val l=0)=false):=by
   have h:¬val l=0:=fun h=>h0 (HN.symm.trans (bw.2 h))
   exact df h
  have hd:((n:Int) == 0)=false:=by simp;omega
  obtain⟨j,rfl⟩:∃j,n=j+1:=⟨n - 1,by omega⟩;obtain⟨p,ad,hp,hp9,hAe,hbl,d1⟩:=HU.at (i:=j) (Nat.lt_succ_self j);simp only at hAe;subst hAe;have hp0:p≠0:=by
   have:=ue (val l) p;rw[List.getLast?_eq_getElem?,HN.out] at this;exact this hp
  obtain⟨hpos,hpos2⟩:=tb (x:=p) om hp9;have HL:=I (fun W=>Tryz.bits_Len32 (p:Int) W om (by rw[bc] at hp9;omega));clear hp hbl hp0;have hj:((j+1:Nat):Int) - 1=j:=by omega
  rw[Int.toNat_natCast] at HL;generalize Lib.bitLen p=q at*;go_wp2_with fail;refine (HL.out w1).mono ?_;rintro e w2 ⟨rfl,rfl⟩;clear HL;have hw:IntKind.i64.wrap (32*(j:Int)+q)=32*(j:Int)+q:=wi _ om;go_wp2;go_ret;exact⟨⟨32*j+q,by go_num,by omega,by rw[HZ.out];simp;omega⟩,HG1.out⟩
theorem ju (w:World) (x:Rv) (q:Q) (hx:x.Is w q) (hl:(ab q.den).length≤1000000):
  Calls Tryz.prog 217 #[x.v] w fun e w'=>∃y:Sv,e=.returned y.v∧y.Num w' (ab q.un)∧Gr w w':=by
 obtain⟨s,num,den⟩:=x;have b1:=Bk.made w 35 #[.bool s,num.v,den.v];have HG1:=I ((Gr.refl w).alloc (.cells #[.bool s,num.v,den.v] 35));have HB:=I b1;have HD:=I (hx.den.gr HG1);have H1:=I (a7a _ den _ HD hl);have HO:=I ab3;rw[vl] at H1;have c2:=b1.cell 2;clear hx hl b1;simp only[Rv.v] at*;go_enter Tryz.func217,Tryz.ntmps217;go_wp2_with fail;refine H1.mono ?_;rintro e w1 ⟨⟨r,rfl,hr,hr0⟩,G1⟩;have HG2:=I (HG1.trans G1);have HD2:=I (HD.gr G1);have c3:=(G1.bk HB).cell 2;clear G1 H1 HB c2;by_cases h0:q.den=0
 ·have HU:Hid (q.un=1):=by unfold Q.un;exact if_pos h0
  rw[dt h0] at hr0;go_wp2_with fail;refine cm1 (HO.out w1) fun y w2 HY G2=>?_
  have HG3:=I (HG2.trans G2)

  go_wp2;go_ret;exact⟨y,rfl,by rw[HU.out];exact HY.out,HG3.out⟩
 ·have HU:Hid (q.un=q.den):=by unfold Q.un;exact if_neg h0
  rw[df h0] at hr0;go_wp2;go_ret;exact⟨den,rfl,by rw[HU.out];exact HD2.out,HG2.out⟩
theorem aez {x:Nat} (h:0 < x) (hx:x < B32):2147483648≤x*2 ^ (32 - Lib.bitLen x)∧x*2 ^ (32 - Lib.bitLen x) < B32:=by
 obtain⟨h1,h2,h3⟩:=Lib.bitLenAux_bounds 64 x (nm hx dx) om;obtain⟨p1,p2⟩:=tb h hx;unfold Lib.bitLen at*;generalize Lib.bitLenAux 64 x=q at*;have e1:(2:Nat) ^ (q - 1)*2 ^ (32 - q)=2 ^ 31:=by rw[← Nat.pow_add];congr 1;omega
 have e2:(2:Nat) ^ q*2 ^ (32 - q)=2 ^ 32:=by rw[← Nat.pow_add];congr 1;omega
 have m1:2 ^ (q - 1)*2 ^ (32 - q)≤x*2 ^ (32 - q):=Nat.mul_le_mul_right _ (by assumption);have m2:x*2 ^ (32 - q) < 2 ^ q*2 ^ (32 - q):=Nat.mul_lt_mul_of_pos_right (by assumption) (Nat.two_pow_pos _);rw[bc];omega
theorem ami (w:World) (x:Nat) (h:0 < x) (hx:x < B32):
  Calls Tryz.prog 331 #[.int .u32 (x:Int)] w fun e w'=>e=.returned (.int .i64 ((32 - Lib.bitLen x:Nat):Int))∧Gr w w':=by
 obtain⟨hpos,hpos2⟩:=tb h hx;have HL:=I (fun W=>Tryz.bits_Len32 (x:Int) W om (by rw[bc] at hx;omega));rw[Int.toNat_natCast] at HL;generalize Lib.bitLen x=q at*;clear h hx;have hc:(32:Int) - (q:Int)=((32 - q:Nat):Int):=by omega
 have HC:=I hc;clear hc;go_enter Tryz.func331,Tryz.ntmps331;go_wp2_with fail;refine (HL.out w).mono ?_;rintro e w2 ⟨rfl,rfl⟩;clear HL;go_wp2;rw[HC.out];go_ret;exact⟨rfl,Gr.refl _⟩
theorem a8s (w:World) (x:Sv) (l:List Nat) (h:x.Num w l) (h0:val l≠0):
  Calls Tryz.prog 218 #[x.v] w fun e w'=>e=.returned (.slice x.A (ab (val l)).length x.c)∧Gr w w':=by
 obtain⟨A,n,c⟩:=x;have HI:=I h;have hn:=h.is.cap;have hc:=h.is.max;have HL:=I h.len;have H0:=I h0;simp only at hn hc HL ⊢;clear h h0;go_enter Tryz.func218,Tryz.ntmps218;go_wp2;go_loopw [3] (fun s wr=>∃k:Nat,s=.int .i64 k∧k≤n∧Hid (∀i x,k≤i→l[i]?=some x→x=0)∧Hid (Gr w wr)) (fun s _=>(intOf s).toNat)
 case atStart=>exact⟨n,rfl,nr _,(fun i x hi hx=>by rw[List.getElem?_eq_none (by rw[HL.out];exact hi)] at hx;cases hx),Gr.refl w⟩
 case round=>
  obtain⟨k,rfl,hk,hZ,hG⟩:=hrel;cases k with
  | zero=>exact absurd (by have e:=oa (l:=l) (k:=0) hZ;rw[← e];rfl) H0
  | succ j=>
   obtain⟨y,ad,hy,hy9,hA,hb,d⟩:=(HI.gr hG).at (i:=j) hk;simp only at hA;subst hA;have hw1:IntKind.i64.wrap ((j:Int)+1 - 1)=(j:Int):=by rw[wi _ om];omega
   have hw2:IntKind.i64.wrap (((j+1:Nat):Int) - 1)=(j:Int):=by rw[wi _ om];omega
   by_cases hy0:y=0
   ·subst hy0;have HZ:=I (ww hZ hy);clear hy hy9 hb hZ;go_wp2;go_roundw
    case rel=>exact⟨j,by go_num,by omega,HZ,hG⟩
    case measure=>first | (simp[intOf];done) | (simp[intOf];omega)
   ·have HT:=I (xh (k:=j+1) HI.lim (by rw[HL.out];exact hk) hZ (fun x _ hx=>by
     rw[Nat.add_sub_cancel,hy] at hx;injection hx with hx;omega))
    have HK:Hid ((ab (val l)).length=j+1):=by
     have h:(ab (val l)).length=j+1:=by rw[← HT.out,List.length_take,HL.out];exact Nat.min_eq_left hk
     exact h
    clear hy hy9 hb hZ;go_wp2;go_ret;exact⟨by rw[HK.out];rfl,hG.out⟩
end
structure Half (K M:Nat):Prop where
 prod:M*K=B32
 k0:0 < K
 m0:0 < M
theorem uf {k:Nat} (h:k≤32):Half (2 ^ k) (2 ^ (32 - k)):=
 ⟨by rw[← Nat.pow_add,show 32 - k+k=32 by omega],Nat.two_pow_pos _,Nat.two_pow_pos _⟩
section
variable {K M p z:Nat}
theorem Half.low (h:Half K M):p*K % B32=p % M*K:=by rw[← h.prod];exact Nat.mul_mod_mul_right K p M
theorem Half.high (h:Half K M):p*K / B32=p / M:=by rw[← h.prod];exact Nat.mul_div_mul_right p M h.k0
theorem Half.lt (h:Half K M) (hp:p < B32):p / M < K:=Nat.div_lt_of_lt_mul (by rw[h.prod];exact hp)
theorem Half.fits (h:Half K M) (hz:z < K):z+p % M*K < B32:=by
 have h1:p % M+1≤M:=Nat.mod_lt _ h.m0;have h2:=Nat.mul_le_mul_right K h1;rw[h.prod,Nat.add_mul,Nat.one_mul] at h2;omega
end
theorem aly {k p z:Nat} (hk:k≤32) (hz:z < 2 ^ k):bits .or .u32 (z:Int) ((p*2 ^ k % B32:Nat):Int)=((z+p*2 ^ k % B32:Nat):Int):=by
 have H:=uf hk;have h1:z+p*2 ^ k % B32 < B32:=by rw[H.low];exact H.fits hz
 have hB:=bc;rw[u32_or_nat _ _ (by omega) (by omega),Nat.or_comm,nat_join k _ _ (by rw[H.low];exact Nat.mul_mod_left _ _) hz,Nat.add_comm]
structure LefSt (a o:List Nat) (i k:Nat):Prop where
 len:o.length=a.length+1
 lim:Lim o
 sum:val o=val (a.take i)*2 ^ k
 low:∀z,o[i]?=some z→z < 2 ^ k
 zer:∀j,i < j→j < a.length+1→o[j]?=some 0
theorem LefSt.start (a:List Nat) (k:Nat):LefSt a (List.replicate (a.length+1) 0) 0 k:=
 ⟨by simp,Lim.zeros _,by rw[j8];simp[val],fun z hz=>by rw[iq (Nat.succ_pos _)] at hz;cases hz;exact Nat.two_pow_pos k,fun j _ hj=>iq hj⟩
theorem LefSt.step {a o:List Nat} {i k p z:Nat} (h:LefSt a o i k) (ha:Lim a) (hk:k≤32) (hp:a[i]?=some p) (hz:o[i]?=some z):
  LefSt a ((o.set i (z+p*2 ^ k % B32)).set (i+1) (p*2 ^ k / B32)) (i+1) k:=by
 have H:=uf hk;have hi:i < a.length:=(List.getElem?_eq_some_iff.1 hp).1;have hp9:=ha.at hp;have hz9:=h.low z hz;have h1:o[i+1]?=some 0:=h.zer (i+1) (by omega) (by omega);have h2:(o.set i (z+p*2 ^ k % B32))[i+1]?=some 0:=by rw[co (by omega)];exact h1
 have hlo:z+p*2 ^ k % B32 < B32:=by rw[H.low];exact H.fits hz9
 have hhi:p*2 ^ k / B32 < 2 ^ k:=by rw[H.high];exact H.lt hp9
 have hKB:2 ^ k≤B32:=by rw[← H.prod];exact Nat.le_mul_of_pos_left _ H.m0
 refine⟨by rw[List.length_set,List.length_set];exact h.len,(h.lim.set i hlo).set (i+1) (Nat.lt_of_lt_of_le hhi hKB),?_,fun y hy=>?_,fun j hj hm=>?_⟩
 ·have e1:=eu (z+p*2 ^ k % B32) hz;have e2:=eu (p*2 ^ k / B32) h2;have e3:=bn hp;rw[e3,Nat.add_mul];have e4:B32 ^ i*p*2 ^ k=B32 ^ i*(p*2 ^ k % B32)+B32 ^ (i+1)*(p*2 ^ k / B32):=by
   rw[Nat.pow_succ,Nat.mul_assoc (B32 ^ i) B32,← Nat.mul_add,Nat.mod_add_div,Nat.mul_assoc]
  have e5:=h.sum;rw[Nat.mul_add] at e1;rw[Nat.mul_zero] at e2;omega
 ·rw[List.getElem?_set_self (by rw[List.length_set,h.len];omega)] at hy;cases hy;exact hhi
 ·rw[co (by omega),co (by omega)];exact h.zer j (by omega) hm
theorem LefSt.done {a o:List Nat} {k:Nat} (h:LefSt a o a.length k):val o=val a*2 ^ k:=by
 rw[h.sum,List.take_length]
section
attribute [local go_sem] Oper.semAt_some
theorem ada {p k:Nat} (hp:p < B32) (hk:k≤32):IntKind.u64.wrap (IntKind.u64.wrap (p:Int)*2 ^ k)=((p*2 ^ k:Nat):Int):=by
 have hB:=bc;rw[hB] at hp;have h1:(2:Nat) ^ k≤4294967296:=Nat.pow_le_pow_right (n:=2) dx hk;have h2:p*2 ^ k≤4294967295*4294967296:=Nat.mul_le_mul om h1;rw[IntWalk.u64_in (p:Int) om,show (p:Int)*2 ^ k=((p*2 ^ k:Nat):Int) by push_cast;rfl,IntWalk.u64_in _ om]
theorem a6p (w:World) (x:Sv) (a:List Nat) (k:Nat) (hx:x.Num w a) (ha:a.length≤1000000) (hk:k≤31):
  Calls Tryz.prog 332 #[x.v,.int .i64 (k:Int)] w fun e w'=>∃(g:Nat) (o:List Nat),e=.returned (.slice (some ⟨g,0,none⟩) o.length o.length)∧o.length=a.length+1∧Lim o∧val o=val a*2 ^ k∧(∀z,o[a.length]?=some z→z < 2 ^ k)∧Lb w' g o∧w.heap.size≤g∧Gr w w':=by
 obtain⟨A,n,c⟩:=x;have hn:a.length=n:=hx.len;have HN:=I hn;have HX:=I hx;have hn9:n≤1000000:=by rw[← hn];exact ha
 have hmk:=a3e (n+1) om w;rw[show (((n+1:Nat)):Int)=(n:Int)+1 by omega] at hmk;have HR0:=I (Lb.made w (n+1));have HG0:Hid (Gr w (w.alloc (.cells (Array.replicate (n+1) (.int .u32 0)) 200))):=(Gr.refl w).alloc _;have HS0:=I (LefSt.start a k);rw[HN.out] at HS0;have HK:=I hk;have hk0:(0:Int)≤(k:Int):=by omega
 have hk9:(k:Int)≤64:=by omega
 clear hx ha hn hk;(try simp only)
 go_enter Tryz.func332,Tryz.ntmps332;go_wp2;clear hmk;generalize hge:w.heap.size=g at*;have HGE:=I hge;clear hge;go_loopw [15] (fun i wr=>∃(t:Nat) (o:List Nat),i=.int .i64 t∧t≤n∧Hid (LefSt a o t k)∧Hid (Lb wr g o)∧Hid (Gr w wr)) (fun i _=>n - (intOf i).toNat)
 case atStart=>exact⟨0,_,rfl,nq _,HS0,HR0,HG0⟩
 case round=>
  obtain⟨t,o,rfl,ht,hS,hR,hG⟩:=hrel;have fz:=hR.fz;have hlen:o.length=n+1:=by rw[hS.len,HN.out]
  by_cases htn:t < n
  ·obtain⟨p,ad,hp,hp9,hAe,hbl,d1⟩:=(HX.gr hG).at (i:=t) htn;(try simp only at hAe)
   subst hAe;obtain⟨z,hz⟩:∃z,o[t]?=some z:=⟨_,ge om⟩;obtain⟨y,hy⟩:∃y,o[t+1]?=some y:=⟨_,ge om⟩;have q0:=hR.cell hz;have q1:=hR.cell hy;have HST:=I (hS.step HX.lim (by have:=HK.out;omega) hp hz);have E0:=I (ada hp9 (by have:=HK.out;omega:k≤32));have E1:=I (aly (k:=k) (p:=p) (by have:=HK.out;omega:k≤32) (hS.low z hz));have EM:Hid (((p*2 ^ k:Nat):Int) % 4294967296=((p*2 ^ k % B32:Nat):Int)):=by rw[bc];exact (Int.natCast_emod _ _).symm
   have ED:Hid (((p*2 ^ k:Nat):Int) / 4294967296 % 4294967296=((p*2 ^ k / B32:Nat):Int)):=by
    have h9:=(uf (k:=k) (by have:=HK.out;omega)).lt hp9;rw[← (uf (k:=k) (by have:=HK.out;omega)).high] at h9;have h1:(2:Nat) ^ k≤2 ^ 31:=Nat.pow_le_pow_right (n:=2) dx HK;have h3:((p*2 ^ k:Nat):Int) / 4294967296=((p*2 ^ k / B32:Nat):Int):=by rw[bc];exact (Int.natCast_ediv _ _).symm
    show ((p*2 ^ k:Nat):Int) / 4294967296 % 4294967296=((p*2 ^ k / B32:Nat):Int);rw[h3];generalize p*2 ^ k / B32=v at*;omega
   have HL1:=I (hR.put t (z+p*2 ^ k % B32));have HL2:=I (HL1.put (t+1) (p*2 ^ k / B32));have HG5:=I ((hG.set (p:=⟨g,t,none⟩) (by rw[HGE.out];exact nr _) (lv (z+p*2 ^ k % B32))).set (p:=⟨g,t+1,none⟩) (by rw[HGE.out];exact nr _) (lv (p*2 ^ k / B32)));clear hp hbl hz hy hS hlen;go_wp2;go_roundw
   case rel=>
    rw[E0.out,EM.out,E1.out,ED.out];exact⟨t+1,_,by go_num,by omega,HST,HL2,HG5⟩
   case measure=>simp[intOf];omega
  ·obtain rfl:t=n:=by omega
   have h9:=hS.out;rw[← HN.out] at h9;have HV:=I h9.done;have HLM:=I h9.lim;have HLW:=I h9.low;have HLE:=I h9.len;have hg0:Hid (w.heap.size≤g):=by rw[HGE.out];exact nr _
   clear h9 hS;go_wp2;go_ret;exact⟨g,o,by rw[hlen];rfl,HLE.out,HLM.out,HV.out,HLW.out,hR.out,hg0.out,hG.out⟩
end
theorem a4g {l:List Nat} {k:Nat} (hl:Lim l) (hz:∀j x,k≤j→l[j]?=some x→x=0):val l < B32 ^ k:=by
 rw[← oa hz];refine Nat.lt_of_lt_of_le (eq (hl.take k)) (Nat.pow_le_pow_right (by decide) ?_);rw[List.length_take];exact Nat.min_le_left _ _
structure RedSt (p v o:List Nat) (q t i c b:Nat):Prop where
 len:o.length=p.length
 lim:Lim o
 car:c < B32
 bor:b≤1
 sum:val o+B32 ^ t*(q*val (v.take i))=val p+B32 ^ (t+i)*(c+b)
 rest:∀j,(j < t∨t+i≤j)→o[j]?=p[j]?
theorem RedSt.start {p v:List Nat} (hp:Lim p) (q t:Nat):RedSt p v p q t 0 0 0:=
 ⟨rfl,hp,by decide,Nat.zero_le _,by simp[val],fun _ _=>rfl⟩
theorem RedSt.step {p v o:List Nat} {q t i c b d u s x b':Nat} (h:RedSt p v o q t i c b) (hv:Lim v) (hq:q < B32) (hd:v[i]?=some d) (hu:o[t+i]?=some u) (hs:s=c+q*d)
  (hx:x < B32) (hb:b'≤1) (e:x+s % B32+b=u+B32*b'):RedSt p v (o.set (t+i) x) q t (i+1) (s / B32) b':=by
 have hd9:=hv.at hd;refine⟨by rw[List.length_set];exact h.len,h.lim.set _ hx,?_,hb,?_,fun j hj=>?_⟩
 ·have h1:=h.car;have h2:q*d≤(B32 - 1)*(B32 - 1):=Nat.mul_le_mul (by omega) (by omega);refine Nat.div_lt_of_lt_mul ?_;rw[hs];have h3:(B32 - 1)*(B32 - 1)+(B32 - 1) < B32*B32:=by decide
  omega
 ·have e1:=eu x hu;have e2:=h.sum;rw[bn hd,Nat.mul_add,Nat.mul_add];have e3:B32 ^ t*(q*(B32 ^ i*d))=B32 ^ (t+i)*(q*d):=by
   rw[Nat.pow_add,Nat.mul_left_comm q,Nat.mul_assoc]
  have e4:B32 ^ (t+i)*(c+b)+B32 ^ (t+i)*(q*d)+B32 ^ (t+i)*x=B32 ^ (t+(i+1))*(s / B32+b')+B32 ^ (t+i)*u:=by
   have e5:c+b+q*d+x=B32*(s / B32+b')+u:=by
    have:=Nat.mod_add_div s B32;rw[Nat.mul_add];omega
   rw[← Nat.mul_add,← Nat.mul_add,e5,Nat.mul_add,← Nat.add_assoc t i 1,Nat.pow_succ,Nat.mul_assoc]
  omega
 ·rw[co (by omega)];exact h.rest j (by omega)
theorem RedSt.fine {p v o:List Nat} {q t n c b u x:Nat} (h:RedSt p v o q t n c b) (hn:v.length=n) (hu:o[t+n]?=some u) (hx:x < B32) (e:x+c+b=u):
  val (o.set (t+n) x)+B32 ^ t*(q*val v)=val p:=by
 have e1:=eu x hu;have e2:=h.sum;rw[← hn,List.take_length] at e2;rw[hn] at e2;have e3:B32 ^ (t+n)*(c+b)+B32 ^ (t+n)*x=B32 ^ (t+n)*u:=by rw[← Nat.mul_add];congr 1;omega
 omega
theorem RedSt.over {p v o:List Nat} {q t n c b u x:Nat} (h:RedSt p v o q t n c b) (hn:v.length=n) (hu:o[t+n]?=some u) (hx:x < B32) (e:x+c+b=u+B32):
  val (o.set (t+n) x)+B32 ^ t*(q*val v)=val p+B32 ^ (t+n+1):=by
 have e1:=eu x hu;have e2:=h.sum;rw[← hn,List.take_length] at e2;rw[hn] at e2;have e3:B32 ^ (t+n)*(c+b)+B32 ^ (t+n)*x=B32 ^ (t+n)*u+B32 ^ (t+n+1):=by rw[← Nat.mul_add,Nat.pow_succ,← Nat.mul_add];congr 1;omega
 omega
structure BackSt (p v o:List Nat) (t i c:Nat):Prop where
 len:o.length=p.length
 lim:Lim o
 car:c≤1
 sum:val o+B32 ^ (t+i)*c=val p+B32 ^ t*val (v.take i)
 rest:∀j,(j < t∨t+i≤j)→o[j]?=p[j]?
theorem BackSt.start {p v:List Nat} (hp:Lim p) (t:Nat):BackSt p v p t 0 0:=
 ⟨rfl,hp,by decide,by simp[val],fun _ _=>rfl⟩
theorem BackSt.step {p v o:List Nat} {t i c d u s:Nat} (h:BackSt p v o t i c) (hv:Lim v) (hd:v[i]?=some d) (hu:o[t+i]?=some u) (hs:s=c+(u+d)):
  BackSt p v (o.set (t+i) (s % B32)) t (i+1) (s / B32):=by
 have hd9:=hv.at hd;have hu9:=h.lim.at hu;have h1:=h.car;refine⟨by rw[List.length_set];exact h.len,h.lim.set _ (Nat.mod_lt _ (by decide)),?_,?_,fun j hj=>?_⟩
 ·have:s / B32 < 2:=Nat.div_lt_of_lt_mul (by omega);omega
 ·have e1:=eu (s % B32) hu;have e2:=h.sum;rw[bn hd,Nat.mul_add];have e3:B32 ^ t*(B32 ^ i*d)=B32 ^ (t+i)*d:=by rw[Nat.pow_add,Nat.mul_assoc]
  have e4:B32 ^ (t+i)*(s % B32)+B32 ^ (t+(i+1))*(s / B32)=B32 ^ (t+i)*c+(B32 ^ (t+i)*u+B32 ^ (t+i)*d):=by
   rw[← Nat.add_assoc t i 1,Nat.pow_succ,Nat.mul_assoc,← Nat.mul_add,← Nat.mul_add,← Nat.mul_add,Nat.mod_add_div,hs]
  omega
 ·rw[co (by omega)];exact h.rest j (by omega)
theorem BackSt.done {p v o:List Nat} {t n c u:Nat} (h:BackSt p v o t n c) (hn:v.length=n) (hu:o[t+n]?=some u):
  ∃k,k≤1∧val (o.set (t+n) ((u+c) % B32))+B32 ^ (t+n+1)*k=val p+B32 ^ t*val v:=by
 have hu9:=h.lim.at hu;have h1:=h.car;refine⟨(u+c) / B32,?_,?_⟩
 ·have:(u+c) / B32 < 2:=Nat.div_lt_of_lt_mul (by omega);omega
 ·have e1:=eu ((u+c) % B32) hu;have e2:=h.sum;rw[← hn,List.take_length] at e2;rw[hn] at e2;have e4:B32 ^ (t+n)*((u+c) % B32)+B32 ^ (t+n+1)*((u+c) / B32)=B32 ^ (t+n)*u+B32 ^ (t+n)*c:=by
   rw[Nat.pow_succ,Nat.mul_assoc,← Nat.mul_add,← Nat.mul_add,Nat.mod_add_div]
  omega
theorem adm {U V D q r:Nat} (hD:0 < D) (hV:0 < V) (hq:U / (D*V)≤q) (e:r+D*(q*V)=U):q=U / (D*V)∧r=U % (D*V):=by
 have e1:q*(D*V)=D*(q*V):=Nat.mul_left_comm q D V;have h1:q≤U / (D*V):=(Nat.le_div_iff_mul_le (Nat.mul_pos hD hV)).2 (by rw[e1];omega);have h2:q=U / (D*V):=Nat.le_antisymm h1 hq;refine⟨h2,?_⟩;have h3:=Nat.mod_add_div U (D*V);rw[← h2,Nat.mul_comm (D*V),e1] at h3;omega
theorem adl {U V D q r E o k:Nat} (hD:0 < D) (hV:0 < V) (hq:q≤U / (D*V)+1) (hU:U < E) (e:o+D*(q*V)=U+E) (ho:o < E) (hr:r < E) (hk:k≤1) (e2:r+E*k=o+D*V):q=U / (D*V)+1∧r=U % (D*V):=by
 have e1:q*(D*V)=D*(q*V):=Nat.mul_left_comm q D V;have h0:=Nat.mul_pos hD hV;have h1:U / (D*V) < q:=by
  refine Nat.lt_of_not_le fun h=>?_
  have:=(Nat.le_div_iff_mul_le h0).1 h;rw[e1] at this;omega
 have h2:q=U / (D*V)+1:=by omega
 refine⟨h2,?_⟩;have h3:=Nat.mod_add_div U (D*V);have h4:=Nat.mod_lt U h0;have h5:D*(q*V)=D*V*(U / (D*V))+D*V:=by rw[← e1,h2,Nat.add_mul,Nat.one_mul,Nat.mul_comm]
 rcases Nat.lt_or_ge k 1 with hk0 | hk1
 ·have:k=0:=by omega
  subst this;rw[Nat.mul_zero] at e2;omega
 ·have:k=1:=by omega
  subst this;omega
section
attribute [local go_sem] Oper.semAt_some
theorem a6l {p q z cr s:Nat} (hp:p < B32) (hq:q < B32) (hz:z < B32) (hc:cr < B32) (hs:s=cr+(p*q+z)):
  IntKind.u64.wrap ((cr:Int)+IntKind.u64.wrap (IntKind.u64.wrap (IntKind.u64.wrap (p:Int)*IntKind.u64.wrap (q:Int))+IntKind.u64.wrap (z:Int)))=(s:Int):=by
 have hB:=bc;rw[hB] at hp hq hz hc;have h4:p*q≤4294967295*4294967295:=Nat.mul_le_mul om om;have e1:(p:Int)*(q:Int)=((p*q:Nat):Int):=by rw[Int.natCast_mul]
 rw[IntWalk.u64_in (p:Int) om,IntWalk.u64_in (q:Int) om,IntWalk.u64_in (z:Int) om,e1,IntWalk.u64_in ((p*q:Nat):Int) om,IntWalk.u64_in (((p*q:Nat):Int)+z) om,IntWalk.u64_in _ om];omega
theorem a19 (w:World) (x y:Sv) (a b:List Nat) (hx:x.Num w a) (hy:y.Num w b) (ha:a.length≤1000000) (hb:b.length≤1000000):
  Calls Tryz.prog 270 #[x.v,y.v] w fun e w'=>∃z:Sv,e=.returned z.v∧z.Num w' (ab (val a*val b))∧Gr w w':=by
 have H1:=I (bx w x a hx);have HY:=I hy;have HA:Hid ((ab (val a)).length≤1000000):=nt (bb (eq hx.lim)) ha;have HB:Hid ((ab (val b)).length≤1000000):=nt (bb (eq hy.lim)) hb;clear hx hy ha hb;go_enter Tryz.func270,Tryz.ntmps270;go_wp2_with fail;refine cm1 H1 fun u w1 HU G1=>?_
 have HG1:=I G1;have H2:=I (bx w1 y b (HY.gr G1));clear H1 HY;go_wp2_with fail;refine cm1 H2 fun v w2 HV G2=>?_
 have HG2:=I (HG1.trans G2);have HU2:=I (HU.gr G2);clear HG1 HU H2;obtain⟨A,n,c⟩:=u;obtain⟨B,m,d⟩:=v;have HN:=I HU2.len;have HM:=I HV.len;have VA:=I (vl (val a));have VB:=I (vl (val b));have ZA:Hid (n=0→val a=0):=fun h=>bw.1 (HN.trans h)
 have ZB:Hid (m=0→val b=0):=fun h=>bw.1 (HM.trans h)
 simp only[Sv.v] at*;have hn9:n≤1000000:=by rw[← HN.out];exact HA.out
 have hm9:m≤1000000:=by rw[← HM.out];exact HB.out
 by_cases hz:n=0∨m=0
 ·have HZ:Hid (ab (val a*val b)=[]):=by
   rcases hz with h | h
   ·rw[ZA.out h,Nat.zero_mul];exact aq
   ·rw[ZB.out h,Nat.mul_zero];exact aq
  by_cases h:n=0
  ·have h1:((n:Int) == 0)=true:=by simp[h]
   clear hz;go_wp2;go_ret;exact⟨Sv.none,rfl,by rw[HZ.out];exact Sv.Num.none _,HG2.out⟩
  ·have h1:((n:Int) == 0)=false:=by simp[h]
   have h2:((m:Int) == 0)=true:=by rcases hz with h9 | h9;exact absurd h9 h;simp[h9]
   clear hz;go_wp2;go_ret;exact⟨Sv.none,rfl,by rw[HZ.out];exact Sv.Num.none _,HG2.out⟩
 have hn0:((n:Int) == 0)=false:=by simp;omega
 have hm0:((m:Int) == 0)=false:=by simp;omega
 clear hz;generalize ab (val a)=la at*;generalize ab (val b)=lb at*;have hmk:=a3e (n+m) om w2;rw[show (((n+m:Nat)):Int)=(n:Int)+m by omega] at hmk;have HR0:=I (Lb.made w2 (n+m));have HG4:Hid (Gr w (w2.alloc (.cells (Array.replicate (n+m) (.int .u32 0)) 200))):=HG2.alloc _;have HGs:Hid (Gr w2 (w2.alloc (.cells (Array.replicate (n+m) (.int .u32 0)) 200))):=(Gr.refl w2).alloc _;have HS0:=I (MulSt.start la lb);rw[HN.out,HM.out] at HS0;have hg0:Hid (w.heap.size≤w2.heap.size):=HG2.size;go_wp2;clear hmk;generalize hge:w2.heap.size=g at*;have HGE:=I hge;clear hge;go_loopw [31] (fun i wr=>∃(t:Nat) (o:List Nat),i=.int .i64 t∧t≤n∧Hid (MulSt la lb o t)∧Hid (Lb wr g o)∧Hid (Gr w wr)∧Hid (Gr w2 wr)) (fun i _=>n - (intOf i).toNat)
 case atStart=>exact⟨0,_,rfl,nq _,HS0,HR0,HG4,HGs⟩
 case round=>
  obtain⟨t,o,rfl,ht,hS,hR,hG,hGG⟩:=hrel;by_cases htn:t < n
  ·obtain⟨p,ad,hp,hp9,hAe,hbl,d1⟩:=(HU2.gr hGG).at (i:=t) htn;simp only at hAe;subst hAe;have HP:=I hp;have HI0:=I (hS.into p);have HP9:=I hp9;clear hp hp9 hbl hS;go_wp2;go_loopw [8,38] (fun s8 i wx=>∃(k cr:Nat) (o:List Nat),i=.int .i64 k∧s8=.int .u64 cr∧k≤m∧Hid (MulIn la lb o t p k cr)∧Hid (Lb wx g o)∧Hid (Gr w wx)∧Hid (Gr w2 wx)) (fun _ i _=>m - (intOf i).toNat)
   case atStart=>exact⟨0,0,_,rfl,rfl,nq _,HI0,hR,hG,hGG⟩
   case round=>
    obtain⟨k,cr,o2,rfl,rfl,hk,hS2,hR2,hG2,hGG2⟩:=hrel;have fz:=hR2.fz;have hcr:cr < 4294967296:=hS2.car;have hlen2:o2.length=n+m:=by rw[hS2.len,HN.out,HM.out]
    by_cases hkm:k < m
    ·obtain⟨q,ad2,hq,hq9,hBe,hbl2,d2⟩:=(HV.gr hGG2).at (i:=k) hkm;simp only at hBe;subst hBe;obtain⟨z,hz⟩:∃z,o2[t+k]?=some z:=⟨_,ge om⟩;have q0:=hR2.cell hz;obtain⟨s,hs⟩:∃s,s=cr+(p*q+z):=⟨_,rfl⟩;have HST:=I (hS2.step (by rw[HN.out];exact htn) HP9 HV.lim hq hz hs);have HX:=I (a6l HP9 hq9 (hS2.lim.at hz) hcr hs);obtain⟨lo,hlo⟩:∃lo,lo=s % B32:=⟨_,rfl⟩;obtain⟨hi,hhi⟩:∃hi,hi=s / B32:=⟨_,rfl⟩;rw[← hlo,← hhi] at HST;have E1:Hid ((s:Int) % 4294967296=lo):=by rw[bc] at hlo;exact (by omega:(s:Int) % 4294967296=lo)
     have E2:Hid ((s:Int) / 4294967296=hi):=by rw[bc] at hhi;exact (by omega:(s:Int) / 4294967296=hi)
     have HL2:=I (hR2.put (t+k) lo);have HG5:=I (hG2.set (p:=⟨g,t+k,none⟩) hg0 (lv lo));have HG6:=I (hGG2.set (p:=⟨g,t+k,none⟩) (by rw[HGE.out];exact nr _) (lv lo));clear hq hq9 hbl2 hlo hhi hs hz;go_wp2;go_roundw
     case rel=>
      rw[HX.out,E1.out,E2.out];exact⟨k+1,hi,_,by go_num,rfl,by omega,HST,HL2,HG5,HG6⟩
     case measure=>simp[intOf];omega
    ·obtain rfl:k=m:=by omega
     obtain⟨z,hz⟩:∃z,o2[t+k]?=some z:=⟨_,ge om⟩;have q0:=hR2.cell hz;have HS5:Hid (MulSt la lb (o2.set (t+k) cr) (t+1)):=by
      have h:=hS2.out;rw[← HM.out] at h ⊢;exact h.done HP
     have HL2:=I (hR2.put (t+k) cr);have HG5:=I (hG2.set (p:=⟨g,t+k,none⟩) hg0 (lv cr));have HG6:=I (hGG2.set (p:=⟨g,t+k,none⟩) (by rw[HGE.out];exact nr _) (lv cr));have HCR:Hid ((cr:Int) % 4294967296=cr):=(by omega:(cr:Int) % 4294967296=cr);clear hz;go_wp2;go_roundw
     case rel=>
      try rw[HCR.out]
      exact⟨t+1,_,by go_num,by omega,HS5,HL2,HG5,HG6⟩
     case measure=>simp[intOf];omega
  ·obtain rfl:t=n:=by omega
   have e1:val o=val la*val lb:=by
    have h:=hS.out;rw[← HN.out] at h;exact h.done
   have hlen:o.length=t+m:=by rw[hS.len,HN.out,HM.out]
   have HT:=I (bx wr ⟨some ⟨g,0,none⟩,t+m,t+m⟩ o (by have:=hR.num hS.lim om;rw[hlen] at this;exact this));rw[e1,VA.out,VB.out] at HT;clear e1 hlen;go_wp2_with fail;refine cm1 HT fun z w5 HZ G5=>?_
   have HG6:=I (hG.trans G5);clear HT;go_wp2;go_ret;exact⟨z,rfl,HZ.out,HG6.out⟩
theorem a5l {u lo b:Nat} (hu:u < B32) (hlo:lo < B32) (hb:b≤1):∃x b':Nat,x < B32∧b'≤1∧x+lo+b=u+B32*b'∧IntKind.u64.wrap (IntKind.u64.wrap ((u:Int) - lo) - b) % 4294967296=x∧IntKind.u64.wrap (IntKind.u64.wrap ((u:Int) - lo) - b) / 9223372036854775808=b':=by
 rw[bc] at*;by_cases h:lo+b≤u
 ·refine⟨u - lo - b,0,by omega,by omega,by omega,?_,?_⟩<;>(rw[IntKind.wrap_u64,IntKind.wrap_u64];omega)
 ·refine⟨u+4294967296 - lo - b,1,by omega,by omega,by omega,?_,?_⟩<;>(rw[IntKind.wrap_u64,IntKind.wrap_u64];omega)
theorem aex {c q d s:Nat} (hc:c < B32) (hq:q < B32) (hd:d < B32) (hs:s=c+q*d):IntKind.u64.wrap ((c:Int)+IntKind.u64.wrap ((q:Int)*IntKind.u64.wrap (d:Int)))=(s:Int):=by
 have hB:=bc;rw[hB] at hc hq hd;have h4:q*d≤4294967295*4294967295:=Nat.mul_le_mul om om;have e1:(q:Int)*(d:Int)=((q*d:Nat):Int):=by rw[Int.natCast_mul]
 rw[IntWalk.u64_in (d:Int) om,e1,IntWalk.u64_in ((q*d:Nat):Int) om,IntWalk.u64_in _ om];omega
theorem afy {c u d s:Nat} (hc:c≤1) (hu:u < B32) (hd:d < B32) (hs:s=c+(u+d)):IntKind.u64.wrap ((c:Int)+IntKind.u64.wrap (IntKind.u64.wrap (u:Int)+IntKind.u64.wrap (d:Int)))=(s:Int):=by
 rw[bc] at*;rw[IntWalk.u64_in (u:Int) om,IntWalk.u64_in (d:Int) om,IntWalk.u64_in ((u:Int)+d) om,IntWalk.u64_in _ om];omega
theorem a38 (s:Nat):(s:Int) % 4294967296=((s % B32:Nat):Int):=by rw[bc];exact (Int.natCast_emod _ _).symm
theorem a39 (s:Nat):(s:Int) / 4294967296=((s / B32:Nat):Int):=by rw[bc];exact (Int.natCast_ediv _ _).symm
theorem a7u (w:World) (g gv:Nat) (L vv:List Nat) (t n cu cv q:Nat) (hu:Lb w g L) (hv:Lb w gv vv) (hne:¬gv=g) (hn:n≤vv.length) (hl:t+n < L.length) (hl9:L.length≤4000000) (hLL:Lim L) (hLv:Lim vv) (hq:q < B32)
  (hz:∀j x,t+n < j→L[j]?=some x→x=0) (hV:0 < val (vv.take n)) (hq1:val L / (B32 ^ t*val (vv.take n))≤q) (hq2:q≤val L / (B32 ^ t*val (vv.take n))+1):
  Calls Tryz.prog 333 #[.slice (some ⟨g,t,none⟩) (n+1) cu,.slice (some ⟨gv,0,none⟩) n cv,.int .u64 (q:Int)] w fun e w'=>∃o:List Nat,e=.returned (.int .u32 ((val L / (B32 ^ t*val (vv.take n)):Nat):Int))∧Lb w' g o∧Lim o∧o.length=L.length∧val o=val L % (B32 ^ t*val (vv.take n))∧Fr (fun b=>b=g) w w':=by
 have HU:=I hu;have HV:=I hv;have HS0:=I (RedSt.start (v:=vv.take n) hLL q t);have HF0:Hid (Fr (fun b=>b=g) w w):=Fr.refl _ _;have hq9:q < 4294967296:=hq;have hn9:n≤4000000:=by omega
 have HLL:=I hLL;have HLV:=I hLv;have HLEN:=I hl;have HN:=I hn;have HZ:=I hz;have HV0:=I hV;have HQ1:=I hq1;have HQ2:=I hq2;have HNE:=I hne;clear hu hv hne hLL hLv hq hz hV hq1 hq2 hn hl;go_enter Tryz.func333,Tryz.ntmps333;go_wp2;go_loopw [7,8,17] (fun s7 s8 i wr=>∃(k c b:Nat) (o:List Nat),i=.int .i64 k∧s7=.int .u64 c∧s8=.int .u64 b∧k≤n∧Hid (RedSt L (vv.take n) o q t k c b)∧Hid (Lb wr g o)∧Hid (Fr (fun b=>b=g) w wr)) (fun _ _ i _=>n - (intOf i).toNat)
 case atStart=>exact⟨0,0,0,_,rfl,rfl,rfl,nq _,HS0,HU,HF0⟩
 case round=>
  obtain⟨k,c,b,o,rfl,rfl,rfl,hk,hS,hR,hF⟩:=hrel;have fz:=hR.fz;have hc9:c < 4294967296:=hS.car;have hb9:b≤1:=hS.bor;have hlo:o.length=L.length:=hS.len;have hl:=HLEN.out;by_cases hkn:k < n
  ·obtain⟨d,hd⟩:∃d,vv[k]?=some d:=⟨_,ge (by have:=HN.out;omega)⟩;obtain⟨u,hu⟩:∃u,o[t+k]?=some u:=⟨_,ge om⟩;have hvk:Lb wr gv vv:=Fr.bk hF HV HNE;have d0:=hvk.cell hd;clear hvk;have q0:=hR.cell hu;have hdl:=HLV.at hd;have hul:=hS.lim.at hu;obtain⟨s,hs⟩:∃s,s=c+q*d:=⟨_,rfl⟩;have EA:=I (aex (q:=q) hc9 hq9 hdl hs);have EU:Hid (IntKind.u64.wrap (u:Int)=u):=IntWalk.u64_in _ (by rw[bc] at hul;omega);obtain⟨x,b',hx,hb',he,e1,e2⟩:=a5l hul (Nat.mod_lt s dx:s % B32 < B32) hb9;have EM:=I (a38 s);have ED:=I (a39 s);have E1:=I e1;have E2:=I e2;have HST:=I (hS.step (HLV.take n) hq9 (by rw[List.getElem?_take_of_lt hkn];exact hd) hu hs hx hb' he);have HL2:=I (hR.put (t+k) x);have HF2:=I (hF.trans (Fr.set (X:=fun b=>b=g) wr ⟨g,t+k,none⟩ (lv x) rfl));clear hd hu hdl hul hs hx hb' he e1 e2 hS;generalize s / B32=c2 at*;generalize s % B32=lo at*;go_wp2;go_roundw
   case rel=>
    rw[EA.out,EM.out,ED.out,EU.out,E1.out,E2.out];exact⟨k+1,c2,b',_,by go_num,rfl,rfl,by omega,HST,HL2,HF2⟩
   case measure=>simp[intOf];omega
  ·obtain rfl:k=n:=by omega
   obtain⟨u,hu⟩:∃u,o[t+k]?=some u:=⟨_,ge om⟩;have q0:=hR.cell hu;have hul:=hS.lim.at hu;have EU:Hid (IntKind.u64.wrap (u:Int)=u):=IntWalk.u64_in _ (by rw[bc] at hul;omega);obtain⟨x,b',hx,hb',he,e1,e2⟩:=a5l hul hc9 hb9;have E1:=I e1;have E2:=I e2;have HL2:=I (hR.put (t+k) x);have HF2:=I (hF.trans (Fr.set (X:=fun b=>b=g) wr ⟨g,t+k,none⟩ (lv x) rfl));have HLIM:=I (hS.lim.set (t+k) hx);have HLO:Hid ((o.set (t+k) x).length=L.length):=by rw[List.length_set];exact hS.len
   have hvl:(vv.take k).length=k:=by rw[List.length_take];exact Nat.min_eq_left HN
   by_cases hb0:b'=0
   ·subst hb0;have e9:=hS.fine hvl hu hx om;obtain⟨f1,f2⟩:=adm (Nat.pow_pos dx) HV0 HQ1 e9;have F1:=I f1;have F2:=I f2;have EQ:Hid ((q:Int) % 4294967296=q):=(by omega:(q:Int) % 4294967296=q);have hx0:(IntKind.u64.wrap (IntKind.u64.wrap (IntKind.u64.wrap (u:Int) - (c:Int)) - (b:Int)) / 9223372036854775808 == 0)=true:=by rw[EU.out,e2];rfl
    clear hu hul hx hb' he e1 e2 hS e9 f1 f2;go_wp2;rw[EU.out,E1.out];go_ret;exact⟨_,by rw[← F1.out];rfl,HL2.out,HLIM.out,HLO.out,F2.out,HF2.out⟩
   ·obtain rfl:b'=1:=by omega
    have HE9:=I (hS.over hvl hu hx (by rw[Nat.mul_one] at he;exact he));have hx0:(IntKind.u64.wrap (IntKind.u64.wrap (IntKind.u64.wrap (u:Int) - (c:Int)) - (b:Int)) / 9223372036854775808 == 0)=false:=by rw[EU.out,e2];rfl
    have HR1:Hid (∀j,t+k < j→(o.set (t+k) x)[j]?=L[j]?):=I fun j hj=>by rw[co om];exact hS.rest j (Or.inr om)
    have HB0:=I (BackSt.start (v:=vv.take k) HLIM t);have HVL:=I hvl;clear hu hul hx hb' he e1 e2 hS hvl hb0;go_wp2;rw[EU.out,E1.out];clear q0 fz;generalize wr.setCell ⟨g,t+k,none⟩ (.int .u32 x)=wb at*;generalize o.set (t+k) x=o1 at*;go_loopw [7,72] (fun s7 i wr=>∃(m c:Nat) (o:List Nat),i=.int .i64 m∧s7=.int .u64 c∧m≤k∧Hid (BackSt o1 (vv.take k) o t m c)∧Hid (Lb wr g o)∧Hid (Fr (fun b=>b=g) w wr)) (fun _ i _=>k - (intOf i).toNat)
    case atStart=>exact⟨0,0,_,rfl,rfl,nq _,HB0,HL2,HF2⟩
    case round=>
     clear HL2 HF2 HB0;obtain⟨m,c2,o2,rfl,rfl,hm,hS2,hR2,hF2⟩:=hrel;have fz:=hR2.fz;have hc2:c2≤1:=hS2.car;have hlo2:o2.length=L.length:=by rw[hS2.len];exact HLO.out
     by_cases hmk:m < k
     ·obtain⟨d,hd⟩:∃d,vv[m]?=some d:=⟨_,ge (by have:=HN.out;omega)⟩;obtain⟨u,hu⟩:∃u,o2[t+m]?=some u:=⟨_,ge om⟩;have hvk:Lb wr gv vv:=Fr.bk hF2 HV HNE;have d0:=hvk.cell hd;clear hvk;have q0:=hR2.cell hu;have hdl:=HLV.at hd;have hul:=hS2.lim.at hu;obtain⟨s,hs⟩:∃s,s=c2+(u+d):=⟨_,rfl⟩;have EA:=I (afy hc2 hul hdl hs);have EM:=I (a38 s);have ED:=I (a39 s);have HST:=I (hS2.step (HLV.take k) (by rw[List.getElem?_take_of_lt hmk];exact hd) hu hs);have HL3:=I (hR2.put (t+m) (s % B32));have HF3:=I (hF2.trans (Fr.set (X:=fun b=>b=g) wr ⟨g,t+m,none⟩ (lv (s % B32)) rfl));clear hd hu hdl hul hs hS2;generalize s / B32=c3 at*;generalize s % B32=lo at*;go_wp2;go_roundw
      case rel=>
       rw[EA.out,EM.out,ED.out];exact⟨m+1,c3,_,by go_num,rfl,by omega,HST,HL3,HF3⟩
      case measure=>simp[intOf];omega
     ·obtain rfl:m=k:=by omega
      obtain⟨u,hu⟩:∃u,o2[t+m]?=some u:=⟨_,ge om⟩;have q0:=hR2.cell hu;have hul:=hS2.lim.at hu;obtain⟨k9,hk9,e9⟩:=hS2.done HVL hu;have ho:val o1 < B32 ^ (t+m+1):=a4g HLIM fun j x hj hx=>HZ.out j x om (by rw[← HR1.out j om];exact hx)
      have hr:val (o2.set (t+m) ((u+c2) % B32)) < B32 ^ (t+m+1):=a4g (hS2.lim.set _ (Nat.mod_lt _ dx)) fun j x hj hx=>by
       rw[co om,hS2.rest j (Or.inr om),HR1.out j om] at hx;exact HZ.out j x om hx
      have hU:val L < B32 ^ (t+m+1):=a4g HLL fun j x hj hx=>HZ.out j x om hx
      obtain⟨f1,f2⟩:=adl (Nat.pow_pos dx) HV0 HQ2 hU HE9 ho hr hk9 e9;have F2:=I f2;have F1:Hid (IntKind.u64.wrap ((q:Int) - 1) % 4294967296=((val L / (B32 ^ t*val (vv.take m)):Nat):Int)):=by
       generalize val L / (B32 ^ t*val (vv.take m))=Q at*;have h:IntKind.u64.wrap ((q:Int) - 1) % 4294967296=(Q:Int):=by rw[IntKind.wrap_u64];omega
       exact h
      have EU:Hid (((u:Int)+(c2:Int)) % 4294967296=(((u+c2) % B32:Nat):Int)):=by
       have h:((u:Int)+(c2:Int)) % 4294967296=(((u+c2) % B32:Nat):Int):=by rw[bc];omega
       exact h
      have HL3:=I (hR2.put (t+m) ((u+c2) % B32));have HF3:=I (hF2.trans (Fr.set (X:=fun b=>b=g) wr ⟨g,t+m,none⟩ (lv ((u+c2) % B32)) rfl));have HLM3:=I (hS2.lim.set (t+m) (Nat.mod_lt (u+c2) dx));have HLO3:Hid ((o2.set (t+m) ((u+c2) % B32)).length=L.length):=by rw[List.length_set];exact hlo2
      clear hu hul e9 hk9 ho hr hU f1 f2 hS2;generalize (u+c2) % B32=y at*;go_wp2;rw[EU.out,F1.out];go_ret;exact⟨_,rfl,HL3.out,HLM3.out,HLO3.out,F2.out,HF3.out⟩
end
section
variable {B U V P t a b c:Nat}
structure Top (B U V P t a b c:Nat):Prop where
 u0:(t*B+c)*P≤U
 u1:U < (t*B+c+1)*P
 v0:(a*B+b)*P≤V
 v1:V < (a*B+b+1)*P
 p:0 < P
 a0:B≤2*a
 a1:2≤a
 b9:b < B
 c9:c < B
 lt:U < B*V
theorem Top.bpos (h:Top B U V P t a b c):0 < B:=by have:=h.b9;omega
theorem Top.big (h:Top B U V P t a b c):B+B≤a*B:=by
 have:=Nat.mul_le_mul_right B h.a1;omega
theorem Top.vpos (h:Top B U V P t a b c):0 < V:=by
 refine Nat.lt_of_lt_of_le (Nat.mul_pos ?_ h.p) h.v0;have:=h.big;have:=h.bpos;omega
theorem Top.t9 (h:Top B U V P t a b c):t < (a+1)*B:=by
 have h1:(t*B+c)*P < (B*(a*B+b+1))*P:=by
  refine Nat.lt_of_le_of_lt h.u0 (Nat.lt_of_lt_of_le h.lt ?_);rw[Nat.mul_assoc];exact Nat.mul_le_mul_left _ (Nat.le_of_lt h.v1)
 have h2:=Nat.lt_of_mul_lt_mul_right h1;have h3:=h.b9;have h4:t*B < (a*B+b+1)*B:=by rw[Nat.mul_comm (a*B+b+1)];omega
 have h5:=Nat.lt_of_mul_lt_mul_right h4;rw[Nat.add_mul,Nat.one_mul];omega
theorem Top.start (h:Top B U V P t a b c):U / V≤t / a:=by
 have ha:0 < a:=by have:=h.a1;omega
 rw[Nat.le_div_iff_mul_le ha];have h1:U / V*V≤U:=Nat.div_mul_le_self U V;have h2:U / V*((a*B)*P)≤U:=Nat.le_trans (Nat.mul_le_mul_left _ (Nat.le_trans (Nat.mul_le_mul_right _ (Nat.le_add_right _ _)) h.v0)) h1;have h3:(U / V*a*B)*P < ((t+1)*B)*P:=by
  have e:(U / V*a*B)*P=U / V*((a*B)*P):=by rw[Nat.mul_assoc (U / V) a B,Nat.mul_assoc (U / V)]
  rw[e];refine Nat.lt_of_le_of_lt h2 (Nat.lt_of_lt_of_le h.u1 (Nat.mul_le_mul_right _ ?_));have:=h.c9;rw[Nat.add_mul,Nat.one_mul];omega
 have h4:=Nat.lt_of_mul_lt_mul_right (Nat.lt_of_mul_lt_mul_right h3);omega
theorem Top.small (h:Top B U V P t a b c):U / V < B:=Nat.div_lt_of_lt_mul (by rw[Nat.mul_comm];exact h.lt)
theorem Top.step (h:Top B U V P t a b c) {q r:Nat} (e:q*a+r=t) (hq:r*B+c < q*b):U / V < q:=by
 refine Nat.lt_of_not_le fun hle=>?_
 have h1:q*V≤U:=Nat.le_trans (Nat.mul_le_mul_right _ hle) (Nat.div_mul_le_self U V);have h2:(q*(a*B+b))*P < (t*B+c+1)*P:=by
  rw[Nat.mul_assoc];exact Nat.lt_of_le_of_lt (Nat.le_trans (Nat.mul_le_mul_left _ h.v0) h1) h.u1
 have h3:=Nat.lt_of_mul_lt_mul_right h2;have e1:q*(a*B+b)=q*a*B+q*b:=by rw[Nat.mul_add,Nat.mul_assoc]
 have e2:t*B=q*a*B+r*B:=by rw[← e,Nat.add_mul]
 omega
theorem Top.done (h:Top B U V P t a b c) {q r:Nat} (e:q*a+r=t) (hq:q*b≤r*B+c) (h9:q < B):q≤U / V+1:=by
 rcases Nat.eq_zero_or_pos q with h0 | h0
 ·subst h0;exact Nat.zero_le _
 obtain⟨k,rfl⟩:∃k,q=k+1:=⟨q - 1,by omega⟩;refine Nat.succ_le_succ ((Nat.le_div_iff_mul_le h.vpos).2 ?_);have h1:k*V≤(k*(a*B+b+1))*P:=by
  rw[Nat.mul_assoc];exact Nat.mul_le_mul_left _ (Nat.le_of_lt h.v1)
 refine Nat.le_trans h1 (Nat.le_trans (Nat.mul_le_mul_right _ ?_) h.u0);have e1:(k+1)*(a*B+b)=(k+1)*a*B+(k+1)*b:=by rw[Nat.mul_add,Nat.mul_assoc]
 have e4:t*B=(k+1)*a*B+r*B:=by rw[← e,Nat.add_mul]
 have e2:(k+1)*(a*B+b)=k*(a*B+b)+(a*B+b):=by rw[Nat.add_mul,Nat.one_mul]
 have e3:k*(a*B+b+1)=k*(a*B+b)+k:=by rw[Nat.mul_add,Nat.mul_one]
 have:=h.big;omega
theorem Top.ovr (h:Top B U V P t a b c) {q r:Nat} (e:q*a+r=t) (hr:B≤r):q < B∧q*b≤r*B+c:=by
 have h1:q < B:=by
  have h2:=h.t9;have h3:q*a < B*a:=by rw[Nat.add_mul,Nat.one_mul] at h2;rw[Nat.mul_comm B a];omega
  exact Nat.lt_of_mul_lt_mul_right h3
 refine⟨h1,?_⟩;have h3:q*b≤B*B:=Nat.mul_le_mul (Nat.le_of_lt h1) (Nat.le_of_lt h.b9);have h4:B*B≤r*B:=Nat.mul_le_mul_right _ hr;omega
end
section
attribute [local go_sem] Oper.semAt_some
theorem Gr.ofd {W W1:World} (G:Gr W.drew W1):Gr W W1:=(Gr.refl W).drew.trans G
theorem a8o {l:List Nat} {k a b:Nat} (hb:l[k]?=some b) (ha:l[k+1]?=some a):val (l.take (k+2))=val (l.take k)+B32 ^ k*(a*B32+b):=by
 rw[bn (i:=k+1) ha,bn hb,Nat.pow_succ,Nat.mul_add,Nat.mul_assoc,Nat.mul_comm B32 a];omega
theorem a8p {l:List Nat} {k x y c:Nat} (hc:l[k]?=some c) (hy:l[k+1]?=some y) (hx:l[k+2]?=some x):val (l.take (k+3))=val (l.take k)+B32 ^ k*((x*B32+y)*B32+c):=by
 rw[bn (i:=k+2) hx,a8o hc hy];have e:B32 ^ (k+2)*x=B32 ^ k*(x*B32*B32):=by
  rw[Nat.pow_succ,Nat.pow_succ,Nat.mul_assoc,Nat.mul_assoc,Nat.mul_comm B32 (B32*x),Nat.mul_comm B32 x]
 rw[e,Nat.add_mul,Nat.mul_add,Nat.mul_add,Nat.mul_add];omega
theorem aka {L v:List Nat} {t m x y c a b:Nat} (hL:Lim L) (hv:Lim v) (hlen:v.length=m+2) (hc:L[t+m]?=some c) (hy:L[t+m+1]?=some y) (hx:L[t+m+2]?=some x)
  (hb:v[m]?=some b) (ha:v[m+1]?=some a) (hn:2147483648≤a) (hz:∀j x,t+m+3≤j→L[j]?=some x→x=0) (hlt:val L < B32*(B32 ^ t*val v)):
  Top B32 (val L) (B32 ^ t*val v) (B32 ^ (t+m)) (x*B32+y) a b c:=by
 have eU:=a8p hc hy hx;rw[oa hz] at eU;have eV:=a8o hb ha;rw[← hlen,List.take_length] at eV;have l1:=eq (hL.take (t+m));have l1':B32 ^ (L.take (t+m)).length≤B32 ^ (t+m):=Nat.pow_le_pow_right dx (by rw[List.length_take];exact Nat.min_le_left _ _);have l2:=eq (hv.take m);have l2':B32 ^ (v.take m).length≤B32 ^ m:=Nat.pow_le_pow_right dx (by rw[List.length_take];exact Nat.min_le_left _ _);have eW:B32 ^ t*val v=B32 ^ t*val (v.take m)+(a*B32+b)*B32 ^ (t+m):=by rw[eV,Nat.mul_add,← Nat.mul_assoc,← Nat.pow_add,Nat.mul_comm (B32 ^ (t+m))]
 have l3:B32 ^ t*val (v.take m) < B32 ^ (t+m):=by
  rw[Nat.pow_add];exact Nat.mul_lt_mul_of_pos_left (nk l2 l2') (Nat.pow_pos dx)
 rw[Nat.mul_comm (B32 ^ (t+m))] at eU;refine⟨by omega,?_,by omega,?_,Nat.pow_pos dx,?_,by omega,hv.at hb,hL.at hc,hlt⟩
 ·rw[Nat.add_mul ((x*B32+y)*B32+c),Nat.one_mul];omega
 ·rw[Nat.add_mul (a*B32+b),Nat.one_mul];omega
 ·rw[bc];omega
theorem a3s (w:World) (g gv:Nat) (L vv:List Nat) (t n cu cv a:Nat) (hu:Lb w g L) (hv:Lb w gv vv) (hn2:2≤n) (hn:n≤vv.length) (hl:t+n < L.length) (hl9:L.length≤4000000) (hLL:Lim L) (hLv:Lim vv)
  (hz:∀j x,t+n < j→L[j]?=some x→x=0) (ha:vv[n - 1]?=some a) (h31:2147483648≤a) (hlt:val L < B32*(B32 ^ t*val (vv.take n))):
  Calls Tryz.prog 334 #[.slice (some ⟨g,t,none⟩) (n+1) cu,.slice (some ⟨gv,0,none⟩) n cv] w fun e w'=>∃q:Nat,e=.returned (.int .u64 (q:Int))∧val L / (B32 ^ t*val (vv.take n))≤q∧q≤val L / (B32 ^ t*val (vv.take n))+1∧q < B32∧Gr w w':=by
 obtain⟨m,hm⟩:∃m,n=m+2:=⟨n - 2,by omega⟩;obtain⟨c,hc⟩:∃c,L[t+(n - 2)]?=some c:=⟨_,ge om⟩;obtain⟨y,hy⟩:∃y,L[t+(n - 1)]?=some y:=⟨_,ge om⟩;obtain⟨x,hx⟩:∃x,L[t+n]?=some x:=⟨_,ge om⟩;obtain⟨b,hb⟩:∃b,vv[n - 2]?=some b:=⟨_,ge om⟩;have HT:=I (aka (m:=m) (v:=vv.take n) hLL (hLv.take _) (by rw[List.length_take,Nat.min_eq_left hn];exact hm) (by rw[show t+m=t+(n - 2) by omega];exact hc) (by rw[show t+m+1=t+(n - 1) by omega];exact hy) (by rw[show t+m+2=t+n by omega];exact hx)
  (by rw[List.getElem?_take_of_lt om,show m=n - 2 by omega];exact hb) (by rw[List.getElem?_take_of_lt om,show m+1=n - 1 by omega];exact ha) h31 (fun j x hj=>hz j x om) hlt)
 have c0:=hu.cell hc;have c1:=hu.cell hy;have c2:=hu.cell hx;have d0:=hv.cell hb;have d1:=hv.cell ha;have hn9:n≤4000000:=by omega
 have hx9:=hLL.at hx;have hy9:=hLL.at hy;have hc9:=hLL.at hc;have ha9:=hLv.at ha;have hb9:=hLv.at hb;rw[bc] at hx9 hy9 hc9 ha9 hb9;clear hu hv hn hl hl9 hLL hLv hz ha hlt hc hy hx hb hm;generalize val L=U at*;generalize B32 ^ t*val (vv.take n)=V at*;go_enter Tryz.func334,Tryz.ntmps334;go_wp2;go_region
 go_wp2;go_region
 obtain⟨T,hT⟩:∃T,x*B32+y=T:=⟨_,rfl⟩;rw[hT] at HT;have hT9:T < 18446744073709551616:=by rw[bc] at hT;omega
 have EO:=I (aik (r:=x) (p:=y) (by rw[bc];exact hx9) (by rw[bc];exact hy9));rw[hT] at EO;have hqa:T / a*a+T % a=T:=by rw[Nat.mul_comm];exact Nat.div_add_mod T a
 have hra:T % a < a:=Nat.mod_lt _ om;have hq0:T / a≤T:=Nat.div_le_self _ _;have HS:=I HT.start;have HSM:=I HT.small;have EQ:Hid (IntKind.u64.wrap ((T:Int).tdiv a)=((T / a:Nat):Int)):=by
  rw[vo];generalize T / a=z at*;exact IntWalk.u64_in _ om
 have ER:=I (vn T a);have hr0:T % a < 4294967296:=nm hra ha9;clear hT hx9 hy9;go_wp2;rw[EO.out,EQ.out,ER.out];go_loopw [7,8] (fun s7 s8 wr=>∃q r:Nat,s7=.int .u64 q∧s8=.int .u64 r∧q≤T∧r < 4294967296∧Hid (q*a+r=T)∧Hid (U / V≤q)∧Hid (Gr w wr)) (fun s7 _ _=>(intOf s7).toNat)
 case atStart=>exact⟨T / a,T % a,rfl,rfl,hq0,hr0,hqa,HS,(Gr.refl w).drew.drew⟩
 case round=>
  obtain⟨q,r,rfl,rfl,hqT,hr,HE,HQ,HG⟩:=hrel;clear hqa hra hq0 HS EQ ER EO hr0;have d0:=HG.keep d0;have d1:=HG.keep d1;have c0:=HG.keep c0;have w2:IntKind.i64.wrap ((n:Int) - 2)=((n - 2:Nat):Int):=by rw[wi _ om];omega
  have w3:((n - 2:Nat):Int) < (n:Int):=by omega
  have w4:((n - 2:Nat):Int) < (n:Int)+1:=by omega
  by_cases hqB:4294967296≤q
  ·have hd:decide ((4294967296:Int)≤(q:Int))=true:=by simp;omega
   have HQ2:Hid (U / V≤q - 1):=by
    have h:=HSM.out;rw[bc] at h;generalize U / V=z at*;exact (by omega:z≤q - 1)
   go_upto_region 4 with fail;refine wpr ?_;have kc:=I fun W' (G:Gr wr.drew W')=>ai (G.keep d0) (G.keep c0)
   refine wg 0 (tf 22 0) [0,1,2,3,4,5,6,7,8,9,10,11,12,13,14,15,16,17,18,19,20,21] [] ?_;iterate 22 refine .tk ?_
   refine .done fun W1 G1 F1=>?_
   refine wpe ?_;have HG1:=I (HG.trans G1.ofd);have d1:=G1.ofd.keep d1;clear kc G1 F1 w2 w3 w4 c0 d0;have EA:Hid ((q:Int) - 1=((q - 1:Nat):Int)):=(by omega:(q:Int) - 1=((q - 1:Nat):Int));have EB:Hid ((r:Int)+(a:Int)=((r+a:Nat):Int)):=(by omega:(r:Int)+(a:Int)=((r+a:Nat):Int));have HE2:Hid ((q - 1)*a+(r+a)=T):=by
    have h1:q*a=(q - 1)*a+a:=by
     obtain⟨k,rfl⟩:∃k,q=k+1:=⟨q - 1,by omega⟩;rw[Nat.add_sub_cancel,Nat.add_mul,Nat.one_mul]
    have h2:=HE.out;exact (by omega:(q - 1)*a+(r+a)=T)
   by_cases hrB:4294967296≤r+a
   ·have hd2:decide ((4294967296:Int)≤(r:Int)+(a:Int))=true:=by simp only[de];omega
    obtain⟨o1,o2⟩:=HT.ovr HE2 (by rw[bc];exact hrB);have O1:=I o1;have O2:=I (HT.done HE2 o2 o1);clear o1 o2;clear hrB;go_wp2;rw[EA.out];go_ret;exact⟨q - 1,rfl,HQ2.out,O2.out,O1.out,HG1.out⟩
   ·have hd2:decide ((4294967296:Int)≤(r:Int)+(a:Int))=false:=by simp only[decide_eq_false_iff_not];omega
    go_wp2;go_roundw
    case rel=>
     rw[EA.out,EB.out];exact⟨q - 1,r+a,rfl,rfl,by omega,by omega,HE2,HQ2,HG1⟩
    case measure=>rw[EA.out];simp[intOf];omega
  ·have hd:decide ((4294967296:Int)≤(q:Int))=false:=by simp;omega
   have hqb:q*b≤4294967295*4294967295:=Nat.mul_le_mul om om;have EM:Hid (IntKind.u64.wrap ((q:Int)*(b:Int))=((q*b:Nat):Int)):=by
    have h:IntKind.u64.wrap ((q:Int)*(b:Int))=((q*b:Nat):Int):=by rw[← Int.natCast_mul];exact IntWalk.u64_in _ om
    exact h
   have EO:=I (aik (r:=r) (p:=c) (by rw[bc];exact hr) (by rw[bc];exact hc9));have EW1:IntKind.u64.wrap ((r:Int)*4294967296)=(r:Int)*4294967296:=IntWalk.u64_in _ om;have EW2:IntKind.u64.wrap (c:Int)=c:=IntWalk.u64_in _ om;have EW3:IntKind.u64.wrap (b:Int)=b:=IntWalk.u64_in _ om;by_cases hgt:r*B32+c < q*b
   ·have hd3:decide (bits BinOp.or IntKind.u64 (IntKind.u64.wrap ((r:Int)*4294967296)) (IntKind.u64.wrap (c:Int)) < IntKind.u64.wrap ((q:Int)*IntKind.u64.wrap (b:Int)))=true:=by rw[EW1,EW2,EW3,EO.out,EM.out];simp only[de];exact Int.ofNat_lt.2 hgt
    have h0:=HT.step HE hgt;clear EW1 EW2 EW3;have HQ2:Hid (U / V≤q - 1):=by
     generalize U / V=z at*;exact (by omega:z≤q - 1)
    have hq1:1≤q:=nj (nq _) h0;clear h0 hqb;clear hgt;go_upto_region 4 with fail;refine wpr ?_;have kc:=I fun W' (G:Gr wr.drew W')=>ai (G.keep d0) (G.keep c0)
    refine wg 0 (tf 22 0) [0,1,2,3,4,5,6,7,8,9,10,11,12,13,14,15,16,17,18,19,20,21] [] ?_;iterate 22 refine .tk ?_
    refine .done fun W1 G1 F1=>?_
    refine wpe ?_;have HG1:=I (HG.trans G1.ofd);have d1:=G1.ofd.keep d1;clear kc G1 F1 w2 w3 w4 c0 d0;have EA:Hid ((q:Int) - 1=((q - 1:Nat):Int)):=(by omega:(q:Int) - 1=((q - 1:Nat):Int));have EB:Hid ((r:Int)+(a:Int)=((r+a:Nat):Int)):=(by omega:(r:Int)+(a:Int)=((r+a:Nat):Int));have HE2:Hid ((q - 1)*a+(r+a)=T):=by
     have h1:q*a=(q - 1)*a+a:=by
      obtain⟨k,rfl⟩:∃k,q=k+1:=⟨q - 1,by omega⟩;rw[Nat.add_sub_cancel,Nat.add_mul,Nat.one_mul]
     have h2:=HE.out;exact (by omega:(q - 1)*a+(r+a)=T)
    by_cases hrB:4294967296≤r+a
    ·have hd2:decide ((4294967296:Int)≤(r:Int)+(a:Int))=true:=by simp only[de];omega
     obtain⟨o1,o2⟩:=HT.ovr HE2 (by rw[bc];exact hrB);have O1:=I o1;have O2:=I (HT.done HE2 o2 o1);clear o1 o2;clear hrB;go_wp2;rw[EA.out];go_ret;exact⟨q - 1,rfl,HQ2.out,O2.out,O1.out,HG1.out⟩
    ·have hd2:decide ((4294967296:Int)≤(r:Int)+(a:Int))=false:=by simp only[decide_eq_false_iff_not];omega
     go_wp2;go_roundw
     case rel=>
      rw[EA.out,EB.out];exact⟨q - 1,r+a,rfl,rfl,by omega,by omega,HE2,HQ2,HG1⟩
     case measure=>rw[EA.out];simp[intOf];omega
   ·have hd3:decide (bits BinOp.or IntKind.u64 (IntKind.u64.wrap ((r:Int)*4294967296)) (IntKind.u64.wrap (c:Int)) < IntKind.u64.wrap ((q:Int)*IntKind.u64.wrap (b:Int)))=false:=by rw[EW1,EW2,EW3,EO.out,EM.out];simp only[decide_eq_false_iff_not];exact fun h=>hgt (Int.ofNat_lt.1 h)
    clear EW1 EW2 EW3;have O2:=I (HT.done HE (Nat.le_of_not_lt hgt) (by rw[bc];omega));have O1:Hid (q < B32):=by rw[bc];exact (by omega:q < 4294967296)
    clear hgt hqb;go_upto_region 4 with fail;refine wpr ?_;have kc:=I fun W' (G:Gr wr.drew W')=>ai (G.keep d0) (G.keep c0)
    refine wg 0 (tf 22 0) [0,1,2,3,4,5,6,7,8,9,10,11,12,13,14,15,16,17,18,19,20,21] [] ?_;iterate 22 refine .tk ?_
    refine .done fun W1 G1 F1=>?_
    refine wpe ?_;have HG1:=I (HG.trans G1.ofd);have d1:=G1.ofd.keep d1;clear kc G1 F1 w2 w3 w4 c0 d0;go_wp2;go_ret;exact⟨q,rfl,HQ.out,O2.out,O1.out,HG1.out⟩
theorem a2b {a:List Nat} {i:Nat} (hi:i < a.length):∃r,val (a.drop i)=(lim0 a i+B32*lim0 a (i+1))+B32*B32*r:=by
 have h1:a.drop i=a[i]::a.drop (i+1):=List.drop_eq_getElem_cons hi;have h2:lim0 a i=a[i]:=by simp[lim0,ge hi]
 rcases Nat.lt_or_ge (i+1) a.length with h3 | h3
 ·have h4:a.drop (i+1)=a[i+1]::a.drop (i+1+1):=List.drop_eq_getElem_cons h3;have h5:lim0 a (i+1)=a[i+1]:=by simp[lim0,ge h3]
  refine⟨val (a.drop (i+1+1)),?_⟩;rw[h1,val,h4,val,h2,h5,Nat.mul_add,Nat.mul_assoc];omega
 ·have h5:lim0 a (i+1)=0:=by simp[lim0,List.getElem?_eq_none h3]
  refine⟨0,?_⟩;rw[h1,val,List.drop_eq_nil_of_le h3,h2,h5];simp[val]
theorem a94 {a:List Nat} {i k:Nat} (ha:Lim a) (hi:i < a.length) (hk:k≤32):val a / 2 ^ k / B32 ^ i % B32=(lim0 a i+B32*lim0 a (i+1)) / 2 ^ k % B32:=by
 have e1:=jr (a.take i) (a.drop i);rw[List.take_append_drop,List.length_take,Nat.min_eq_left om] at e1;have e2:val (a.take i) < B32 ^ i:=by
  have:=eq (ha.take i);rwa [List.length_take,Nat.min_eq_left om] at this
 have e3:val a / B32 ^ i=val (a.drop i):=by
  rw[e1,Nat.add_mul_div_left _ _ (Nat.pow_pos dx),Nat.div_eq_of_lt e2,Nat.zero_add]
 obtain⟨r,hr⟩:=a2b hi;have H:=uf hk;have e4:B32*B32*r=2 ^ k*(B32*(2 ^ (32 - k)*r)):=by
  conv=>lhs;rw[Nat.mul_assoc];arg 1;rw[← H.prod]
  rw[Nat.mul_comm (2 ^ (32 - k)),Nat.mul_assoc]
  congr 1
  rw[Nat.mul_left_comm]
 rw[Nat.div_div_eq_div_mul,Nat.mul_comm,← Nat.div_div_eq_div_mul,e3,hr,e4,Nat.add_mul_div_left _ _ (Nat.two_pow_pos k),Nat.add_mul_mod_self_left]
structure ShrSt (N:Nat) (o:List Nat) (i m:Nat):Prop where
 len:o.length=m
 lim:Lim o
 sum:val o=N % B32 ^ i
 zer:∀j,i≤j→j < m→o[j]?=some 0
theorem ShrSt.start (N m:Nat):ShrSt N (List.replicate m 0) 0 m:=⟨by simp,Lim.zeros _,by rw[j8];simp[Nat.mod_one],fun j _ hj=>iq hj⟩
theorem ShrSt.step {N:Nat} {o:List Nat} {i m:Nat} (h:ShrSt N o i m) (hi:i < m):ShrSt N (o.set i (N / B32 ^ i % B32)) (i+1) m:=by
 refine⟨by rw[List.length_set];exact h.len,h.lim.set i (Nat.mod_lt _ dx),?_,fun j hj hm=>by rw[co om];exact h.zer j om hm⟩;have e1:=eu (N / B32 ^ i % B32) (h.zer i (nr _) hi);rw[Nat.mul_zero,h.sum] at e1;rw[Nat.mod_pow_succ];omega
theorem ad0 {p q k:Nat} (hp:p < B32) (hq:q < B32):bits .or .u64 (IntKind.u64.wrap (p:Int)) (IntKind.u64.wrap (IntKind.u64.wrap (q:Int)*4294967296))=((p+B32*q:Nat):Int):=by
 have hB:=bc;have h1:=hp;have h2:=hq;rw[hB] at h1 h2;rw[IntWalk.u64_in (p:Int) om,IntWalk.u64_in (q:Int) om,IntWalk.u64_in ((q:Int)*4294967296) om,show (q:Int)*4294967296=((q*4294967296:Nat):Int) by omega,u64_or_nat _ _ om om,Nat.or_comm];have:=Nat.shiftLeft_add_eq_or_of_lt (i:=32) h1 q;rw[Nat.shiftLeft_eq] at this;rw[← this,hB]
 congr 1
 omega
theorem a5q {s k d:Nat} (h:d=s / 2 ^ k % B32):(s:Int) / 2 ^ k % 4294967296=(d:Int):=by
 rw[h,bc,Int.natCast_emod,Int.natCast_ediv];simp
theorem ahn (w:World) (x:Sv) (a:List Nat) (k:Nat) (hx:x.Num w a) (ha:a.length≤4000000) (hk:k≤31):
  Calls Tryz.prog 335 #[x.v,.int .i64 (k:Int)] w fun e w'=>∃z:Sv,e=.returned (.tuple #[z.v,.int .i64 0])∧z.Num w' (ab (val a / 2 ^ k))∧Gr w w':=by
 have H1:=I (bx w x a hx);have HA:Hid ((ab (val a)).length≤4000000):=nt (bb (eq hx.lim)) ha;have HK:=I hk;have k0:decide ((k:Int) < 0)=false:=by simp
 have k1:decide ((1048576:Int) < (k:Int))=false:=by simp only[decide_eq_false_iff_not];omega
 have k2:(k:Int).tdiv 32=0:=by rw[show (32:Int)=((32:Nat):Int) from rfl,vo,Nat.div_eq_of_lt om];rfl
 have k3:(k:Int).tmod 32=(k:Int):=by rw[show (32:Int)=((32:Nat):Int) from rfl,vn,Nat.mod_eq_of_lt om]
 have k4:(0:Int)≤(k:Int):=by omega
 have k5:(k:Int)≤64:=by omega
 clear hx ha hk;go_enter Tryz.func335,Tryz.ntmps335;go_wp2_with fail;refine cm2 H1 fun u w1 hu G1=>?_
 have HU:=I hu;have HG1:=I G1;have HN:=I hu.len;obtain⟨A,n,c⟩:=u;simp only[Sv.v] at*;have hn9:n≤4000000:=by rw[← HN.out];exact HA.out
 have VA:=I (vl (val a));clear hu H1;by_cases hn0:n=0
 ·have h1:decide ((n:Int)≤0)=true:=by simp only[de];omega
  have HZ:Hid (val a=0):=bw.1 (HN.trans hn0);subst hn0;go_wp2;go_returns;exact⟨Sv.none,rfl,by rw[HZ.out,Nat.zero_div,aq];exact Sv.Num.none _,HG1.out⟩
 ·have h1:decide ((n:Int)≤0)=false:=by simp only[decide_eq_false_iff_not];omega
  generalize ab (val a)=la at*;have hmk:=a3e n om w1;have HR0:=I (Lb.made w1 n);have HG2:Hid (Gr w (w1.alloc (.cells (Array.replicate n (.int .u32 0)) 200))):=HG1.alloc _;have HGs:Hid (Gr w1 (w1.alloc (.cells (Array.replicate n (.int .u32 0)) 200))):=(Gr.refl w1).alloc _;have hg0:Hid (w.heap.size≤w1.heap.size):=HG1.size;go_wp2;clear hmk;have HLL:Hid (Lim la):=HU.lim;have HS0:=I (ShrSt.start (val la / 2 ^ k) n);generalize hge:w1.heap.size=g at*;have HGE:=I hge;clear hge;go_loopw [32] (fun i wr=>∃(t:Nat) (o:List Nat),i=.int .i64 t∧t≤n∧Hid (ShrSt (val la / 2 ^ k) o t n)∧Hid (Lb wr g o)∧Hid (Gr w wr)∧Hid (Gr w1 wr)) (fun i _=>n - (intOf i).toNat)
  case atStart=>exact⟨0,_,rfl,nq _,HS0,HR0,HG2,HGs⟩
  case round=>
   obtain⟨t,o,rfl,ht,hS,hR,hG,hGG⟩:=hrel;have fz:=hR.fz;have hlen:o.length=n:=hS.len;by_cases htn:t < n
   ·obtain⟨p,ad,hp,hp9,hAe,hbl,d1⟩:=(HU.gr hGG).at (i:=t) htn;simp only at hAe;subst hAe;have q0:=hR.cell (hS.zer t (nr _) htn);have HD:=I (a94 HLL (i:=t) (k:=k) (by rw[HN.out];exact htn) (by have:=HK.out;omega));have HP0:Hid (lim0 la t=p):=(by simp[lim0,hp]:lim0 la t=p);have HST:=I (hS.step htn);have HL2:=I (hR.put t (val la / 2 ^ k / B32 ^ t % B32));have HG5:=I (hG.set (p:=⟨g,t,none⟩) hg0 (lv (val la / 2 ^ k / B32 ^ t % B32)));have HG6:=I (hGG.set (p:=⟨g,t,none⟩) (by rw[HGE.out];exact nr _) (lv (val la / 2 ^ k / B32 ^ t % B32)));by_cases ht1:t+1 < n
    ·obtain⟨q,ad2,hq,hq9,hAe2,hbl2,d2⟩:=(HU.gr hGG).at (i:=t+1) ht1;simp only[oq] at hAe2;subst hAe2;rw[show ad.add (t+1)=(⟨ad.block,ad.off+(t+1),none⟩:Addr) from by unfold Addr.add;rw[if_neg om]] at d2;have HQ0:Hid (lim0 la (t+1)=q):=(by simp[lim0,hq]:lim0 la (t+1)=q);have ht2:decide ((t:Int)+1 < (n:Int))=true:=by simp only[de];omega
     have EX:=I (ad0 (k:=k) hp9 hq9);have EV:Hid (((p+B32*q:Nat):Int) / 2 ^ k % 4294967296=((val la / 2 ^ k / B32 ^ t % B32:Nat):Int)):=by
      have h:=HD.out;rw[HP0.out,HQ0.out] at h;exact (a5q h)
     clear hp hbl hS hq hbl2;go_wp2;go_roundw
     case rel=>
      rw[EX.out,EV.out];exact⟨t+1,_,by go_num,by omega,HST,HL2,HG5,HG6⟩
     case measure=>simp[intOf];omega
    ·have HQ0:Hid (lim0 la (t+1)=0):=by
      have h:lim0 la (t+1)=0:=by simp[lim0,List.getElem?_eq_none (l:=la) (i:=t+1) (by rw[HN.out];omega)]
      exact h
     have ht2:decide ((t:Int)+1 < (n:Int))=false:=by simp only[decide_eq_false_iff_not];omega
     have EX:Hid (IntKind.u64.wrap (p:Int)=p):=IntWalk.u64_in _ (by rw[bc] at hp9;omega);have EV:Hid ((p:Int) / 2 ^ k % 4294967296=((val la / 2 ^ k / B32 ^ t % B32:Nat):Int)):=by
      have h:=HD.out;rw[HP0.out,HQ0.out] at h;have:=a5q h;rw[Nat.mul_zero,Nat.add_zero] at this;exact this
     clear hp hbl hS;go_wp2;go_roundw
     case rel=>
      rw[EX.out,EV.out];exact⟨t+1,_,by go_num,by omega,HST,HL2,HG5,HG6⟩
     case measure=>simp[intOf];omega
   ·obtain rfl:t=n:=by omega
    have e1:val o=val la / 2 ^ k:=by
     rw[hS.sum];refine Nat.mod_eq_of_lt (nj (Nat.div_le_self _ _) ?_);have:=eq HLL;rwa [HN.out] at this
    have HT:=I (bx wr ⟨some ⟨g,0,none⟩,t,t⟩ o (fw hR hS.lim hlen om));rw[e1,VA.out] at HT;clear e1 hlen;go_wp2_with fail;refine cm1 HT fun z w5 HZ G5=>?_
    have HG6:=I (hG.trans G5);clear HT;go_wp2;go_returns;exact⟨z,rfl,HZ.out,HG6.out⟩
theorem ajp (w:World) (x y:Sv) (a b:Nat) (hx:x.Num w (ab a)) (hy:y.Num w (ab b)) (ha:(ab a).length≤1000000) (hb0:0 < b) (hb:b < B32):
  Calls Tryz.prog 268 #[x.v,y.v] w fun e w'=>∃p q:Sv,e=.returned (.tuple #[p.v,q.v,.int .i64 0])∧p.Num w' (ab (a / b))∧q.Num w' (ab (a % b))∧Gr w w':=by
 have H1:=I (bx w x _ hx);rw[vl] at H1;have HY:=I hy;have HA:=I ha;have HL1:=I (fp (n:=b) om hb);have HBB:=I hb;clear hx hy ha hb;go_enter Tryz.func268,Tryz.ntmps268;go_wp2_with fail;refine cm1 H1 fun u w1 HU G1=>?_
 have HG1:=I G1;have H2:=I (bx w1 y _ (HY.gr G1));rw[vl] at H2;clear H1 HY;go_wp2_with fail;refine cm2 H2 fun v w2 hv G2=>?_
 have HG2:=I (HG1.trans G2);have HU2:=I (HU.gr G2);have HV:=I hv;have H3:=I (mo w2 u v _ _ (HU.gr G2) hv);rw[vl,vl] at H3;clear hv HG1 HU H2;obtain⟨B,m,d⟩:=v;have hm:m=1:=by
  have:=HV.len;rw[HL1.out] at this;exact this.symm
 subst hm;simp only[Sv.v] at*;go_wp2_with fail;refine cm0 H3 fun w3 G3=>?_
 have HG3:=I (HG2.trans G3);have HU3:=I (HU2.gr G3);have HV3:=I (HV.gr G3);clear HG2 HU2 HV H3;by_cases hab:a < b
 ·have HC:Hid (cmpN a b=-1):=qn hab;rw[HC.out];have H4:=I (ou w3 u _ HU3 HA);rw[vl] at H4;have E1:Hid (a / b=0):=Nat.div_eq_of_lt hab;have E2:Hid (a % b=a):=Nat.mod_eq_of_lt hab;go_wp2_with fail;refine cm1 H4 fun z w4 HZ G4=>?_
  have HG4:=I (HG3.trans G4);clear H4;go_wp2;go_returns;exact⟨Sv.none,z,rfl,by rw[E1.out,aq];exact Sv.Num.none _,by rw[E2.out];exact HZ.out,HG4.out⟩
 ·have hcn:decide (cmpN a b < 0)=false:=by
   unfold cmpN;rw[if_neg hab];split<;>simp
  generalize cmpN a b=cm at*;obtain⟨p,ad,hp,hp9,hAe,hbl,d1⟩:=HV3.at (i:=0) Nat.one_pos;simp only at hAe;subst hAe;rw[HL1.out] at hp;obtain rfl:b=p:=by simpa using hp
  rw[add_zero] at d1;have H4:=I (fun W hW=>a95 W u _ b (HU3.gr hW) HA hb0 HBB);rw[vl] at H4;clear hp hp9 hbl;go_wp2_with fail;refine (H4.out _ (Gr.refl _)).mono ?_;rintro e w4 ⟨z,z2,rfl,hz,hz2,G4⟩;have HZ:=I hz;have HZ2:=I hz2;have HG4:=I (HG3.trans G4);clear hz hz2 G4 H4;go_wp2;go_returns;exact⟨z,z2,rfl,HZ.out,HZ2.out,HG4.out⟩
theorem a3q {l:List Nat} {k i x:Nat} (h:val l < B32 ^ k) (hk:k≤i) (hx:l[i]?=some x):x=0:=by
 have e:=bn hx;have h1:=xd l (i+1);have h2:B32 ^ k≤B32 ^ i:=Nat.pow_le_pow_right dx hk;rcases Nat.eq_zero_or_pos x with h0 | h0
 ·exact h0
 ·have h3:B32 ^ i*1≤B32 ^ i*x:=Nat.mul_le_mul_left _ h0;rw[Nat.mul_one] at h3;omega
structure LdSt (X V:Nat) (o L:List Nat) (j m:Nat):Prop where
 len:o.length=m
 lim:Lim o
 lim2:Lim L
 lt:val L < B32 ^ j*V
 sum:val o*V+val L=X
 zer:∀k,k < j→k < m→o[k]?=some 0
theorem LdSt.step {X V:Nat} {o L L':List Nat} {t m:Nat} (h:LdSt X V o L (t+1) m) (ht:t < m) (hV:0 < V) (hL:Lim L') (e:val L'=val L % (B32 ^ t*V)):LdSt X V (o.set t (val L / (B32 ^ t*V))) L' t m:=by
 have hp:0 < B32 ^ t*V:=Nat.mul_pos (Nat.pow_pos dx) hV;have hQ:val L / (B32 ^ t*V) < B32:=Nat.div_lt_of_lt_mul (by have:=h.lt;rw[Nat.pow_succ,Nat.mul_assoc,Nat.mul_comm B32 V,← Nat.mul_assoc] at this;exact this);refine⟨by rw[List.length_set];exact h.len,h.lim.set t hQ,hL,by rw[e];exact Nat.mod_lt _ hp,?_,fun k hk hm=>by rw[co om];exact h.zer k om hm⟩;have e1:=eu (val L / (B32 ^ t*V)) (h.zer t (Nat.lt_succ_self t) ht);rw[Nat.mul_zero,Nat.add_zero] at e1;rw[e1,e,Nat.add_mul,← h.sum];have e2:=Nat.mod_add_div (val L) (B32 ^ t*V);have e3:B32 ^ t*(val L / (B32 ^ t*V))*V=B32 ^ t*V*(val L / (B32 ^ t*V)):=by rw[Nat.mul_right_comm]
 omega
theorem LdSt.done {X V:Nat} {o L:List Nat} {m:Nat} (h:LdSt X V o L 0 m) (hV:0 < V):val o=X / V∧val L=X % V:=by
 have h1:=h.lt;rw[Nat.pow_zero,Nat.one_mul] at h1;have h2:=h.sum;refine⟨?_,?_⟩
 ·rw[← h2,Nat.mul_comm,Nat.mul_add_div hV,Nat.div_eq_of_lt h1,Nat.add_zero]
 ·rw[← h2,Nat.mul_comm,Nat.mul_add_mod,Nat.mod_eq_of_lt h1]
theorem ais {b s n p:Nat} (hn:(ab b).length=n+1) (hp:(ab b)[n]?=some p) (h1:2147483648≤p*2 ^ s) (h2:p*2 ^ s < B32):2147483648*B32 ^ n≤b*2 ^ s∧b*2 ^ s < B32 ^ (n+1):=by
 have e:=bn hp;rw[← hn,List.take_length,vl] at e;have l1:=eq ((fb b).take n);have l2:B32 ^ ((ab b).take n).length≤B32 ^ n:=Nat.pow_le_pow_right dx (by rw[List.length_take];exact Nat.min_le_left _ _);generalize val ((ab b).take n)=z at*;have e2:b*2 ^ s=z*2 ^ s+B32 ^ n*(p*2 ^ s):=by rw[e,Nat.add_mul,Nat.mul_assoc]
 refine⟨?_,?_⟩
 ·have:=Nat.mul_le_mul_left (B32 ^ n) h1;rw[Nat.mul_comm 2147483648];omega
 ·-- b < (p+1) B^n,and (p+1) 2^s≤B
  have h3:(p+1)*2 ^ s≤B32:=by
   rw[Nat.add_mul,Nat.one_mul];rcases Nat.lt_or_ge s 33 with h | h
   ·have H:=uf (k:=s) om;have h4:p < 2 ^ (32 - s):=Nat.lt_of_mul_lt_mul_right (a:=2 ^ s) (by rw[H.prod];exact h2);have h5:=Nat.mul_le_mul_right (2 ^ s) h4;rw[H.prod,Nat.succ_mul] at h5;exact h5
   ·have h6:2 ^ 33≤2 ^ s:=Nat.pow_le_pow_right dx h;have h7:p≠0:=fun h0=>by rw[h0,Nat.zero_mul] at h1;omega
    have h8:1*2 ^ s≤p*2 ^ s:=Nat.mul_le_mul_right _ om;rw[bc] at h2;omega
  have h9:b < (p+1)*B32 ^ n:=by
   rw[e,Nat.add_mul,Nat.one_mul,Nat.mul_comm p];omega
  have h10:b*2 ^ s < (p+1)*B32 ^ n*2 ^ s:=Nat.mul_lt_mul_of_pos_right h9 (Nat.two_pow_pos s);rw[Nat.mul_right_comm] at h10;have h11:=Nat.mul_le_mul_right (B32 ^ n) h3;rw[Nat.pow_succ,Nat.mul_comm (B32 ^ n)];omega
theorem acu {l:List Nat} {n p:Nat} (hl:Lim l) (hp:l[n]?=some p) (h:2147483648*B32 ^ n≤val (l.take (n+1))):2147483648≤p:=by
 rw[bn hp] at h;have l1:=eq (hl.take n);have l2:B32 ^ (l.take n).length≤B32 ^ n:=Nat.pow_le_pow_right dx (by rw[List.length_take];exact Nat.min_le_left _ _);have h1:2147483648*B32 ^ n < (p+1)*B32 ^ n:=by rw[Nat.add_mul,Nat.one_mul,Nat.mul_comm p];omega
 have:=Nat.lt_of_mul_lt_mul_right h1;omega
theorem afh (w:World) (x y:Sv) (a b:Nat) (hx:x.Num w (ab a)) (hy:y.Num w (ab b)) (ha:(ab a).length≤1000000) (hab:b≤a) (hb:B32≤b):
  Calls Tryz.prog 268 #[x.v,y.v] w fun e w'=>∃p q:Sv,e=.returned (.tuple #[p.v,q.v,.int .i64 0])∧p.Num w' (ab (a / b))∧q.Num w' (ab (a % b))∧Gr w w':=by
 have H1:=I (bx w x _ hx);rw[vl] at H1;have HY:=I hy;have HA:=I ha;have HAB:=I hab;have HL1:Hid ((ab b).length≤(ab a).length):=aw hab;have HL2:Hid (2≤(ab b).length):=by
  have h:2≤(ab b).length:=Nat.lt_of_not_le fun h=>by
   have h1:=fc b;have h2:B32 ^ (ab b).length≤B32 ^ 1:=Nat.pow_le_pow_right dx h;rw[Nat.pow_one] at h2;omega
  exact h
 clear hx hy ha hab hb;go_enter Tryz.func268,Tryz.ntmps268;go_wp2_with fail;refine cm1 H1 fun u w1 HU G1=>?_
 have HG1:=I G1;have H2:=I (bx w1 y _ (HY.gr G1));rw[vl] at H2;clear H1 HY;go_wp2_with fail;refine cm2 H2 fun v w2 hv G2=>?_
 have HG2:=I (HG1.trans G2);have HU2:=I (HU.gr G2);have HV:=I hv;have H3:=I (mo w2 u v _ _ (HU.gr G2) hv);rw[vl,vl] at H3;clear hv HG1 HU H2;obtain⟨A,m,c⟩:=u;obtain⟨B,n,d⟩:=v;have HM:=I HU2.len;have HN:=I HV.len;simp only[Sv.v] at*;have hm9:m≤1000000:=by rw[← HM.out];exact HA.out
 have hn2:2≤n:=by rw[← HN.out];exact HL2.out
 have hnm:n≤m:=by rw[← HN.out,← HM.out];exact HL1.out
 have hz0:((n:Int) == 0)=false:=by simp;omega
 have hz1:((n:Int) == 1)=false:=by simp;omega
 have hc0:decide (cmpN a b < 0)=false:=by
  have h:¬cmpN a b < 0:=by
   have:=HAB.out;unfold cmpN;split
   ·omega
   ·split<;>omega
  exact df h
 go_wp2_with fail;refine cm0 H3 fun w3 G3=>?_
 have HG3:=I (HG2.trans G3);have HU3:=I (HU2.gr G3);have HV3:=I (HV.gr G3);clear HG2 HU2 HV H3;obtain⟨k,rfl⟩:∃k,n=k+1:=⟨n - 1,by omega⟩;obtain⟨p,ad,hp,hp9,hBe,hbl,d1⟩:=HV3.at (i:=k) (Nat.lt_succ_self k);simp only at hBe;subst hBe;have hp0:p≠0:=by
  have:=ue b p;rw[List.getLast?_eq_getElem?,HN.out] at this;exact this hp
 obtain⟨s1,s2⟩:=aez (Nat.pos_of_ne_zero hp0) hp9;obtain⟨b1,b2⟩:=tb (Nat.pos_of_ne_zero hp0) hp9;have HLZ:=I (fun W=>ami W p (Nat.pos_of_ne_zero hp0) hp9);obtain⟨n1,n2⟩:=ais HN hp s1 s2;obtain⟨s,hs⟩:∃s,32 - Lib.bitLen p=s:=⟨_,rfl⟩;rw[hs] at n1 n2 HLZ;have hs9:s≤31:=by omega
 have N1:=I n1;have N2:=I n2;clear hp hp0 s1 s2 b1 b2 n1 n2 hs hbl hp9;go_wp2_with fail;refine cm0 (HLZ.out w3) fun w4 G4=>?_
 have HG4:=I (HG3.trans G4);have HU4:=I (HU3.gr G4);have HV4:=I (HV3.gr G4);clear HG3 HU3 HV3 HLZ d1;have H5:=I (a6p w4 ⟨A,m,c⟩ (ab a) s HU4 HA hs9);go_wp2_with fail;refine H5.mono ?_;rintro e w5 ⟨gu,L,rfl,hL1,hL2,hL3,hL4,hL5,hL6,G5⟩;rw[vl] at hL3;rw[HM.out] at hL1;have HLL:=I hL2;have HLv:=I hL3;have HLn:=I hL1;have HLb:=I hL5;have HLg:Hid (w.heap.size≤gu):=nt HG4.size hL6;have HG5:=I (HG4.trans G5);have H6:=I (a6p w5 ⟨some ad,k+1,d⟩ (ab b) s (HV4.gr G5) (by have:=HL1.out;have:=HA.out;omega) hs9);have hgu:Hid (gu < w5.heap.size):=Bk.lt hL5;clear hL1 hL2 hL3 hL4 hL5 hL6 G5 H5 HG4 HU4 HV4;go_wp2_with fail;refine H6.mono ?_;rintro e w6 ⟨gv,vv,rfl,hv1,hv2,hv3,hv4,hv5,hv6,G6⟩;rw[vl] at hv3;rw[HN.out] at hv1;have HVL:=I hv2;have HVv:=I hv3;have HVn:=I hv1;have HVb:=I hv5;have HNE:Hid (¬gv=gu):=by
  have h:¬gv=gu:=by have:=hgu.out;omega
  exact h
 have HG6:=I (HG5.trans G6);have HLb6:Hid (Lb w6 gu L):=Gr.bk G6 HLb;have HLEN:Hid ((ab (val vv)).length=k+1):=by
  have h:(ab (val vv)).length=k+1:=by
   rw[HVv.out];refine Nat.le_antisymm (bb N2) (Nat.lt_of_not_le fun h=>?_);have h1:=fc (b*2 ^ s);have h2:B32 ^ (ab (b*2 ^ s)).length≤B32 ^ k:=Nat.pow_le_pow_right dx h;have:=N1.out;have h3:1*B32 ^ k≤2147483648*B32 ^ k:=Nat.mul_le_mul_right _ dx;omega
  exact h
 have HV0:Hid (0 < b*2 ^ s):=by
  have h3:0 < 2147483648*B32 ^ k:=Nat.mul_pos dx (Nat.pow_pos dx);exact nk h3 N1
 have H7:=I (a8s w6 ⟨some ⟨gv,0,none⟩,vv.length,vv.length⟩ vv (hv5.num hv2 om) (by rw[hv3];exact Nat.pos_iff_ne_zero.1 HV0));rw[HLEN.out] at H7;clear hv1 hv2 hv3 hv4 hv5 hv6 G6 H6 HG5 HLb hgu;go_wp2_with fail;refine cm0 H7 fun w7 G7=>?_
 have HG7:=I (HG6.trans G7);have HLb7:Hid (Lb w7 gu L):=Gr.bk G7 HLb6;have HVb7:Hid (Lb w7 gv vv):=Gr.bk G7 HVb;clear H7 HG6 HLb6 HVb;obtain⟨r,rfl⟩:∃r,m=r+(k+1):=⟨m - (k+1),by omega⟩;have hmk:=a3e (r+1) om w7;rw[show (((r+1:Nat)):Int)=(r:Int)+1 by omega] at hmk;have HR0:=I (Lb.made w7 (r+1));have e1:(((r+(k+1):Nat):Int)) - ((k+1:Nat):Int)=(r:Int):=by omega
 go_wp2;have HG8:Hid (Gr w (w7.alloc (.cells (Array.replicate (r+1) (.int .u32 0)) 200))):=HG7.alloc _;have HGs:Hid (Gr w7 (w7.alloc (.cells (Array.replicate (r+1) (.int .u32 0)) 200))):=(Gr.refl w7).alloc _;have HLb8:Hid (Lb (w7.alloc (.cells (Array.replicate (r+1) (.int .u32 0)) 200)) gu L):=Gr.bk HGs HLb7;have HVb8:Hid (Lb (w7.alloc (.cells (Array.replicate (r+1) (.int .u32 0)) 200)) gv vv):=Gr.bk HGs HVb7;have hou:Hid (¬gu=w7.heap.size):=by
  have h:¬gu=w7.heap.size:=by have:=Bk.lt HLb7;omega
  exact h
 have hov:Hid (¬gv=w7.heap.size):=by
  have h:¬gv=w7.heap.size:=by have:=Bk.lt HVb7;omega
  exact h
 have hog:Hid (w.heap.size≤w7.heap.size):=HG7.size;have HS0:Hid (LdSt (a*2 ^ s) (b*2 ^ s) (List.replicate (r+1) 0) L (r+1) (r+1)):=by
  refine⟨by simp,Lim.zeros _,HLL.out,?_,by rw[j8,Nat.zero_mul,Nat.zero_add];exact HLv.out,fun i _ hi=>iq hi⟩;rw[HLv.out];have h1:=fc a;rw[HM.out] at h1;have h2:(2:Nat) ^ s≤2 ^ 31:=Nat.pow_le_pow_right dx hs9;have h3:a*2 ^ s < B32 ^ (r+(k+1))*2 ^ 31:=nk (Nat.mul_lt_mul_of_pos_right h1 (Nat.two_pow_pos s)) (Nat.mul_le_mul_left _ h2);refine nk h3 (nt ?_ (Nat.mul_le_mul_left _ N1));rw[show r+(k+1)=(r+1)+k by omega,Nat.pow_add,Nat.mul_assoc,Nat.mul_comm (B32 ^ k)];exact nr _
 have VT:Hid (val (vv.take (k+1))=b*2 ^ s):=by
  have h:val (vv.take (k+1))=b*2 ^ s:=by rw[oa (fun i x hi hx=>a3q (by rw[HVv.out];exact N2.out) hi hx)];exact HVv.out
  exact h
 obtain⟨pa,hpa⟩:∃pa,vv[k]?=some pa:=⟨_,ge (by have:=HVn.out;omega)⟩;have HPA:=I hpa;have HP31:Hid (2147483648≤pa):=acu HVL hpa (by rw[VT.out];exact N1.out);clear hpa;clear hmk HG7 HLb7 HVb7 HGs;generalize w7.heap.size=go at*;rw[HLn.out];go_loopw [13,14] (fun i _ wr=>∃(j:Nat) (o L':List Nat),i=.int .i64 ((j:Int) - 1)∧j≤r+1∧Hid (LdSt (a*2 ^ s) (b*2 ^ s) o L' j (r+1))∧Hid (L'.length=r+(k+1)+1)∧Hid (Lb wr gu L')∧Hid (Lb wr go o)∧Hid (Lb wr gv vv)∧Hid (Gr w wr)) (fun i _ _=>(intOf i+1).toNat)
 case atStart=>exact⟨r+1,_,L,by go_num,nr _,HS0,HLn,HLb8,HR0,HVb8,HG8⟩
 case round=>
  clear HS0 HLb8 HR0 HVb8 HG8;obtain⟨j,o,L',rfl,hj,hS,hLe,hU,hO,hVb,hG⟩:=hrel;cases j with
  | zero=>
   obtain⟨f1,f2⟩:=hS.done HV0;rw[Nat.mul_div_mul_right _ _ (Nat.two_pow_pos s)] at f1;rw[Nat.mul_mod_mul_right] at f2;have ho:=hS.len;have h0:((0:Nat):Int) - 1=-1:=rfl;rw[h0];have HSH:=I (ahn wr ⟨some ⟨gu,0,none⟩,r+(k+1)+1,r+(k+1)+1⟩ L' s (by have:=hU.num hS.lim2 (by have:=hLe.out;omega);rw[hLe.out] at this;exact this) (by have:=hLe.out;omega) hs9);rw[f2,Nat.mul_div_cancel _ (Nat.two_pow_pos s)] at HSH;have HO2:=I (hO.num hS.lim om);rw[ho] at HO2;have F1:=I f1;clear f1 f2 ho hS;go_wp2_with fail;refine cm1 HSH fun z wa HZ Ga=>?_
   have HGa:=I (hG.trans Ga);have HT:=I (bx wa ⟨some ⟨go,0,none⟩,r+1,r+1⟩ o (HO2.gr Ga));rw[F1.out] at HT;clear HSH;go_wp2_with fail;refine cm1 HT fun z2 wb HZ2 Gb=>?_
   have HZb:=I (HZ.gr Gb);have HGb:=I (HGa.trans Gb);clear HT;go_wp2;go_returns;exact⟨z2,z,rfl,HZ2.out,HZb.out,HGb.out⟩
  | succ t=>
   have ht:(((t+1:Nat):Int) - 1)=(t:Int):=by omega
   rw[ht];have htr:t≤r:=by omega
   have i1:IntKind.i64.wrap (IntKind.i64.wrap ((t:Int)+((k:Int)+1))+1)=(t:Int)+((k:Int)+1)+1:=by rw[wi ((t:Int)+((k:Int)+1)) om,wi _ om]
   go_upto_region 16 with fail;rw[show t+(k+1)+1 - t=k+1+1 by omega];have hlt:val L' < B32*(B32 ^ t*(b*2 ^ s)):=by
    have:=hS.lt;rw[Nat.pow_succ,Nat.mul_comm (B32 ^ t),Nat.mul_assoc] at this;exact this
   have hzz:∀i x,t+(k+1) < i→L'[i]?=some x→x=0:=fun i x hi hx=>by
    refine a3q (k:=t+(k+1)+1) ?_ om hx;refine nk hS.lt ?_;have h1:=Nat.mul_le_mul_left (B32 ^ (t+1)) (Nat.le_of_lt N2);rw[← Nat.pow_add] at h1;rw[show t+(k+1)+1=t+1+(k+1) by omega];exact h1
   have HE:=I (a3s wr gu gv L' vv t (k+1) (r+(k+1)+1 - t) vv.length pa hU hVb hn2 (by have:=HVn.out;omega) (by have:=hLe.out;omega) (by have:=hLe.out;omega) hS.lim2 HVL hzz HPA HP31 (by rw[VT.out];exact hlt));rw[VT.out] at HE;have HZZ:=I hzz;clear hlt hzz;go_wp2_with fail;refine HE.mono ?_;rintro e wa ⟨q,rfl,q1,q2,q3,Ga⟩;have HD:=I (a7u wa gu gv L' vv t (k+1) (r+(k+1)+1 - t) vv.length q (Gr.bk Ga hU) (Gr.bk Ga hVb) HNE (by have:=HVn.out;omega) (by have:=hLe.out;omega) (by have:=hLe.out;omega) hS.lim2 HVL q3 HZZ (by rw[VT.out];exact HV0.out) (by rw[VT.out];exact q1) (by rw[VT.out];exact q2));rw[VT.out] at HD;have HGa:=I (hG.trans Ga);have HOa:Hid (Lb wa go o):=Gr.bk Ga hO;have HVa:Hid (Lb wa gv vv):=Gr.bk Ga hVb;clear q1 q2 q3 Ga HE hG hO hVb hU;go_wp2_with fail;refine HD.mono ?_;rintro e wb ⟨L2,rfl,hU2,hl2,hn2',hv2,hF⟩;have HGb:Hid (Gr w wb):=HGa.fr_at hF HLg;have HOb:Hid (Lb wb go o):=Fr.bk hF HOa (fun h=>hou.out h.symm);have HVb2:Hid (Lb wb gv vv):=Fr.bk hF HVa HNE;have HST:=I (hS.step om HV0 hl2 hv2);have HU2:=I hU2;have HL2n:Hid (L2.length=r+(k+1)+1):=by rw[hn2'];exact hLe.out
   have fz:=HOb.fz;have q0:=HOb.cell (hS.zer t (Nat.lt_succ_self t) om);generalize val L' / (B32 ^ t*(b*2 ^ s))=Q at*;have HO3:=I (HOb.put t Q);have HG3:=I (HGb.set (p:=⟨go,t,none⟩) hog (lv Q));have HU3:Hid (Lb (wb.setCell ⟨go,t,none⟩ (lv Q)) gu L2):=Fr.bk (Fr.set (X:=fun b=>b=go) wb ⟨go,t,none⟩ (lv Q) rfl) HU2 hou;have HV3:Hid (Lb (wb.setCell ⟨go,t,none⟩ (lv Q)) gv vv):=Fr.bk (Fr.set (X:=fun b=>b=go) wb ⟨go,t,none⟩ (lv Q) rfl) HVb2 hov;clear hU2 hl2 hn2' hv2 hF HD HGa HOa HVa hS hLe;go_wp2;go_roundw
   case rel=>exact⟨t,_,L2,by go_num,by omega,HST,HL2n,HU3,HO3,HV3,HG3⟩
   case measure=>first | (simp[intOf];done) | (simp[intOf];omega)
theorem afg (w:World) (x y:Sv) (a b:Nat) (hx:x.Num w (ab a)) (hy:y.Num w (ab b)) (ha:(ab a).length≤1000000) (hab:a < b) (hb:B32≤b) (hbl:(ab b).length≤1000000):
  Calls Tryz.prog 268 #[x.v,y.v] w fun e w'=>∃p q:Sv,e=.returned (.tuple #[p.v,q.v,.int .i64 0])∧p.Num w' (ab (a / b))∧q.Num w' (ab (a % b))∧Gr w w':=by
 have H1:=I (bx w x _ hx);rw[vl] at H1;have HY:=I hy;have HA:=I ha;have HAB:=I hab;have HL2:Hid (2≤(ab b).length):=by
  have h:2≤(ab b).length:=Nat.lt_of_not_le fun h=>by
   have h1:=fc b;have h2:B32 ^ (ab b).length≤B32 ^ 1:=Nat.pow_le_pow_right dx h;rw[Nat.pow_one] at h2;omega
  exact h
 have HBL:=I hbl;clear hx hy ha hab hb hbl;go_enter Tryz.func268,Tryz.ntmps268;go_wp2_with fail;refine cm1 H1 fun u w1 HU G1=>?_
 have HG1:=I G1;have H2:=I (bx w1 y _ (HY.gr G1));rw[vl] at H2;clear H1 HY;go_wp2_with fail;refine cm2 H2 fun v w2 hv G2=>?_
 have HG2:=I (HG1.trans G2);have HU2:=I (HU.gr G2);have HV:=I hv;have H3:=I (mo w2 u v _ _ (HU.gr G2) hv);rw[vl,vl] at H3;clear hv HG1 HU H2;obtain⟨A,m,c⟩:=u;obtain⟨B,n,d⟩:=v;have HN:=I HV.len;simp only[Sv.v] at*;have hn9:n≤1000000:=by rw[← HN.out];exact HBL.out
 have hn2:2≤n:=by rw[← HN.out];exact HL2.out
 have hz0:((n:Int) == 0)=false:=by simp;omega
 have hc0:decide (cmpN a b < 0)=true:=by rw[qn HAB.out];rfl
 have H4:=I (fun W hW=>ou W ⟨A,m,c⟩ _ (HU2.gr hW) HA);rw[vl] at H4;have E1:Hid (a / b=0):=Nat.div_eq_of_lt HAB;have E2:Hid (a % b=a):=Nat.mod_eq_of_lt HAB;go_wp2_with fail;refine cm0 H3 fun w3 G3=>?_
 have HG3:=I (HG2.trans G3);have HH:=I G3;clear HG2 H3;go_wp2_with fail;refine cm1 (H4.out _ HH) fun z w4 HZ G4=>?_
 have HG4:=I (HG3.trans G4);clear H4;go_wp2;go_returns;exact⟨Sv.none,z,rfl,by rw[E1.out,aq];exact Sv.Num.none _,by rw[E2.out];exact HZ.out,HG4.out⟩
theorem pd (w:World) (x y:Sv) (a b:Nat) (hx:x.Num w (ab a)) (hy:y.Num w (ab b)) (ha:(ab a).length≤1000000) (hb:(ab b).length≤1000000) (hb0:0 < b):
  Calls Tryz.prog 268 #[x.v,y.v] w fun e w'=>∃p q:Sv,e=.returned (.tuple #[p.v,q.v,.int .i64 0])∧p.Num w' (ab (a / b))∧q.Num w' (ab (a % b))∧Gr w w':=by
 rcases Nat.lt_or_ge b B32 with h | h
 ·exact ajp w x y a b hx hy ha hb0 h
 ·rcases Nat.lt_or_ge a b with h2 | h2
  ·exact afg w x y a b hx hy ha h2 h hb
  ·exact afh w x y a b hx hy ha h2 h
theorem yj (w:World) (ad:Addr):Sv.Num w ⟨some ad,0,0⟩ []:=⟨⟨by simp,nr _,by simp,fun e=>(by cases e),Sees.nil⟩,Lim.nil,fun _ _ h=>absurd h (ni _)⟩
theorem a45 {P:Program} {t tx e e':TypeId} (ht:P.underlying t=some (.slice e)) (hx:P.underlying tx=some (.slice e')) (ty:TypeId) (b:Option Addr) (n c:Nat) (x:Value) (w:World):
  (Builtin.append_ #[t,tx] ty #[.slice b n c,x]).run P w=(Builtin.append_ #[t,t] ty #[.slice b n c,x]).run P w:=by
 simp[Builtin.append_,run_underlying ht,run_underlying hx]
theorem a4e {P:Program} {t tx e size bytes:Nat} (h:ElemS P t e size bytes) (hu:P.underlying tx=some (.slice e)) {w:World} {ops:Array Oper} {rest:List Oper} {o:Oper} {a:Act} {Q:Exit→Act→World→Prop} (hgd:o.guard=none) (s x:Operand) (ho:o.op=.call { callee:=.builtin .append,args:=#[s,x],argTypes:=#[t,tx] })
  (base:Nat) (v:Value) (n:Nat) (xs:List Value) (hs:a.eval s=v) (hown:w.ownsRow base e size v n xs) (ad:Addr) (m c:Nat) (news:List Value) (hx:a.eval x=.slice (some ad) m c) (hl:news.length=m*size) (hnews:∀j u,news[j]?=some u→w.cell? (ad.add j)=some u) (h1:∀u∈news,u.oneCell'=true)
  (h63:n+m≤maxLen) (hbytes:(n+m)*bytes≤140737488355328) (hbase:base≤w.heap.size)
  (hK:∀v' w',w'.ownsRow base e size v' (n+m) (xs++news)→w.grownBy w' v.ownBlock→(v'.ownBlock=v.ownBlock∨v'.ownBlock=some w.heap.size)→wpList P ops Q rest (a.put o.dst v') w'):
  wpList P ops Q (o::rest) a w:=by
 obtain⟨i,z,hi,hz,hsz,hby,hzs⟩:=h.hi;obtain⟨v',w',hrun,h2,h3,_,h5⟩:=run_append_own_at (P:=P) w base t o.type e i z size bytes h.ht hi hz hsz hby hzs h.pos v n xs hown ad m c news hl hnews h1 h63 hbytes hbase;obtain⟨b0,c0,rfl⟩:=a99 hown;rw[← a45 h.ht hu] at hrun;refine wpList_plain hgd fun _ hK'=>?_
 unfold Oper.wp execOp;simp only[ho,resolve,invoke,builtin,Sem.run_bind,Sem.run_pure,Result.andThen_ok,List.map_toArray,List.map_cons,List.map_nil,hs,hx,hrun];exact hK' _ _ (hK v' w' h2 h3 h5)
def Sv.New (w:World) (y:Sv):Prop:=∀ad,y.A=some ad→w.heap.size≤ad.block
theorem zy (w:World) (x:Sv) (l:List Nat) (h:x.Num w l) (hl9:l.length≤1000000):
  Calls Tryz.prog 109 #[x.v] w fun e w'=>∃y:Sv,e=.returned y.v∧y.Num w' (ab (val l))∧Gr w w'∧y.New w:=by
 obtain⟨A,n,c⟩:=x;have HI:=I h;have hn:=h.is.cap;have hc:=h.is.max;have HL:=I h.len;simp only at hn hc HL ⊢;have hn9:n≤1000000:=by rw[← HL.out];exact hl9
 have HU:=I (show Tryz.prog.underlying 32=some (.slice 200) by kernel_rfl);clear h hl9;go_enter Tryz.func109,Tryz.ntmps109;go_wp2;go_loopw [3] (fun s wr=>∃k:Nat,s=.int .i64 k∧k≤n∧Hid (∀i x,k≤i→l[i]?=some x→x=0)∧Hid (Gr w wr)) (fun s _=>(intOf s).toNat)
 case atStart=>exact⟨n,rfl,nr _,(fun i x hi hx=>by rw[List.getElem?_eq_none (by rw[HL.out];exact hi)] at hx;cases hx),Gr.refl w⟩
 case round=>
  obtain⟨k,rfl,hk,hZ,hG⟩:=hrel;cases k with
  | zero=>
   have HE:Hid (ab (val l)=[]):=by
    rw[← xh (k:=0) HI.lim (nq _) hZ.out (fun x hx=>absurd hx om)];exact List.take_zero
   cases A with
   | none=>
    go_wp2;go_ret;exact⟨⟨some ⟨wr.heap.size,0,none⟩,0,0⟩,rfl,by rw[HE.out];exact yj _ _,hG.alloc _,fun ad h=>by injection h with h;subst h;exact hG.size⟩
   | some ad=>
    go_wp2;go_ret;exact⟨⟨some ⟨wr.heap.size,0,none⟩,0,0⟩,rfl,by rw[HE.out];exact yj _ _,hG.alloc _,fun ad h=>by injection h with h;subst h;exact hG.size⟩
  | succ j=>
   obtain⟨y,ad,hy,hy9,hA,hb,d⟩:=(HI.gr hG).at (i:=j) hk;simp only at hA;subst hA;have hw1:IntKind.i64.wrap ((j:Int)+1 - 1)=(j:Int):=by rw[wi _ om];omega
   have hw2:IntKind.i64.wrap (((j+1:Nat):Int) - 1)=(j:Int):=by rw[wi _ om];omega
   by_cases hy0:y=0
   ·subst hy0;have HZ:=I (ww hZ hy);clear hy hy9 hb hZ;go_wp2;go_roundw
    case rel=>exact⟨j,by go_num,by omega,HZ,hG⟩
    case measure=>first | (simp[intOf];done) | (simp[intOf];omega)
   ·have HT:=I (xh (k:=j+1) HI.lim (by rw[HL.out];exact hk) hZ (fun x _ hx=>by
     rw[Nat.add_sub_cancel,hy] at hx;injection hx with hx;omega))
    have HY:=I ((HI.gr hG).take (k:=j+1) hk);rw[HT.out] at HY;have HO:Hid ((wr.alloc (.cells #[] 200)).ownsRow wr.heap.size 200 1 (.slice (some ⟨wr.heap.size,0,none⟩) 0 0) 0 []):=⟨rfl,.inr ⟨wr.heap.size,0,#[],rfl,nr _,Bk.made _ _ _,nr _,nq _,rfl,rfl⟩⟩;have HC:Hid (∀i u,((ab (val l)).map lv)[i]?=some u→(wr.alloc (.cells #[] 200)).cell? (ad.add i)=some u):=(HY.is.gr ((Gr.refl wr).alloc _)).cells rfl;have H1:Hid (((ab (val l)).map lv).length=(j+1)*1):=HY.is.len;have HL1:Hid (∀u∈(ab (val l)).map lv,u.oneCell'=true):=fun u hu=>by
     obtain⟨y,_,rfl⟩:=List.mem_map.1 hu;rfl
    clear hy hy9 hb hZ;go_wp2_with (at_builtin;refine a4e elemN HU.out rfl _ _ rfl wr.heap.size (.slice (some ⟨wr.heap.size,0,none⟩) 0 0) 0 [] rfl HO.out ad (j+1) c ((ab (val l)).map lv) rfl H1.out HC.out HL1.out (by unfold maxLen;omega) om (by simp) ?_;intro v' w' h2 h3 h5);go_wp2;go_ret;rw[Nat.zero_add,List.nil_append] at h2;obtain⟨z,rfl,_,hz,hty⟩:=Sv.of_row h2 dx;refine⟨z,rfl,⟨hz,fb _,hty⟩,hG.trans (Gr.of_own h3),fun ad h=>?_⟩;rcases h2.2 with ⟨e,_⟩ | ⟨g,cap,cur,e,hb,_⟩
    ·simp only[Sv.v,Value.slice.injEq] at e;rw[e.1] at h;cases h
    ·simp only[Sv.v,Value.slice.injEq] at e;rw[e.1] at h;injection h with h;subst h;exact nt hG.size hb
theorem f8 (w:World) (x:Sv) (l:List Nat) (h:x.Num w l) (hl9:l.length≤1000000):
  Calls Tryz.prog 109 #[x.v] w fun e w'=>∃y:Sv,e=.returned y.v∧y.Num w' (ab (val l))∧Gr w w':=
 (zy w x l h hl9).mono fun _ _ ⟨y,h1,h2,h3,_⟩=>⟨y,h1,h2,h3⟩
theorem a0p (w:World) (x:Nat) (hx:x < 18446744073709551616):Calls Tryz.prog 107 #[.int .u64 x] w fun e w'=>∃z:Sv,e=.returned z.v∧z.Num w' (ab x)∧Gr w w':=by
 obtain⟨lo,hi,hlo,hhi,e⟩:∃lo hi,lo < B32∧hi < B32∧x=lo+B32*hi:=⟨x % B32,x / B32,Nat.mod_lt _ dx,Nat.div_lt_of_lt_mul (by rw[bc];omega),(Nat.mod_add_div x B32).symm⟩;have E1:(x:Int) % 4294967296=lo:=by rw[bc] at e hlo;omega
 have E2:(x:Int) / 4294967296=hi:=by rw[bc] at e hlo hhi;omega
 have HR:Hid (Lb (w.alloc (.cells #[.int .u32 lo,.int .u32 hi] 200)) w.heap.size [lo,hi]):=Bk.made w 200 #[.int .u32 lo,.int .u32 hi];have HG:=I ((Gr.refl w).alloc (.cells #[.int .u32 lo,.int .u32 hi] 200));have HT:=I (f8 _ ⟨some ⟨w.heap.size,0,none⟩,2,2⟩ [lo,hi] (fw HR (fun y hy=>by simp at hy;rcases hy with rfl | rfl<;>assumption) rfl dx) (by simp));rw[show val [lo,hi]=x by rw[e];simp[val]] at HT;clear e;go_enter Tryz.func107,Tryz.ntmps107;go_wp2_with fail;refine cm1 HT fun z w1 HZ G1=>?_
 have HG1:=I (HG.trans G1);clear HT;go_wp2;go_ret;exact⟨z,rfl,HZ.out,HG1.out⟩
theorem mb (w:World) (x:Sv) (l:List Nat) (i:Nat) (hx:x.Num w l) (hi:i≤1000000000):
  Calls Tryz.prog 108 #[x.v,.int .i64 i] w fun e w'=>e=.returned (.int .u32 (lim0 l i))∧w'=w:=by
 obtain⟨A,n,c⟩:=x;have hl:=hx.len;simp only at hl;by_cases h:i < n
 ·obtain⟨p,ad,hp,hp9,hA,hb,d⟩:=hx.at (i:=i) h;simp only at hA;subst hA;have HE:=I (jy hp);clear hp hp9 hb hx hl;go_enter Tryz.func108,Tryz.ntmps108;go_wp2;go_ret;exact⟨by rw[HE.out];rfl,rfl⟩
 ·have HE:Hid (lim0 l i=0):=im om;have hd:decide ((i:Int) < n)=false:=by simp;omega
  clear hx hl;go_enter Tryz.func108,Tryz.ntmps108;go_wp2;go_ret;exact⟨by rw[HE.out];rfl,rfl⟩
theorem xu (w:World) (x:Sv) (m:Nat) (hx:x.Num w (ab m)) (hm:m < 18446744073709551616):
  Calls Tryz.prog 167 #[x.v] w fun e w'=>e=.returned (.tuple #[.int .u64 m,.bool true])∧Gr w w':=by
 have hl2:(ab m).length≤2:=bb (by rw[bc];exact hm);have H1:=I (f8 w x _ hx (nt hl2 dx));rw[vl] at H1;clear hx;go_enter Tryz.func167,Tryz.ntmps167;go_wp2_with fail;go_at_call 109
 refine cm2 H1 fun u w1 hu G1=>?_
 obtain⟨A,n,c⟩:=u;have hn:=hu.len;simp only at hn;have HU:=I hu;have HG1:=I G1;have HN:=I hn;rw[hn] at hl2;clear hu H1 hn;simp only[Sv.v] at*;rcases (show n=0∨n=1∨n=2 by omega) with rfl | rfl | rfl
 ·have HE:Hid (m=0):=bw.1 HN;go_wp2;go_returns;exact⟨by rw[HE.out];rfl,HG1.out⟩
 ·obtain⟨p,ad,hp,hp9,hA,hb,d⟩:=HU.at (i:=0) Nat.one_pos;simp only at hA;subst hA;have HE:Hid (m=p):=by
   have h:=vl m
   match hh:ab m,HN.out with
   | [z],_=>
    rw[hh] at hp h;obtain rfl:z=p:=by simpa using hp
    rw[← h];exact (show val [z]=z by simp[val])
  rw[add_zero] at d;clear hp hb;rw[bc] at hp9;go_wp2;go_returns;exact⟨by rw[HE.out];rfl,HG1.out⟩
 ·obtain⟨p,ad,hp,hp9,hA,hb,d⟩:=HU.at (i:=0) (nm Nat.one_pos (Nat.lt_succ_self _));obtain⟨q,ad2,hq,hq9,hA2,hb2,d'⟩:=HU.at (i:=1) (Nat.lt_succ_self _);simp only at hA hA2;subst hA;injection hA2 with hA2;subst hA2;have HE:Hid (m=p+B32*q):=by
   have h:=vl m
   match hh:ab m,HN.out with
   | [z,y],_=>
    rw[hh] at hp hq h;obtain rfl:z=p:=by simpa using hp
    obtain rfl:y=q:=by simpa using hq
    rw[← h];exact (show val [z,y]=z+B32*y by simp[val])
  rw[add_zero] at d;have d2:w1.drew.cell? ⟨ad.block,ad.off+1,none⟩=some (.int .u32 (q:Int)):=d';have d1:w1.drew.cell? ad=some (.int .u32 (p:Int)):=d;clear hp hq hb hb2 d';rw[bc] at hp9 hq9;have E0:=I (agw hp9 hq9);go_wp2;go_region
  all_goals go_wp2
  all_goals go_returns
  all_goals exact⟨by rw[HE.out,← E0.out];rfl,HG1.drew⟩
theorem adn (w:World) (x y:Sv) (a b:Nat) (hx:x.Num w (ab a)) (hy:y.Num w (ab b)) (ha:a < 18446744073709551616) (hb0:0 < b) (hb:b < 18446744073709551616):
  Calls Tryz.prog 113 #[x.v,y.v] w fun e w'=>∃p q:Sv,e=.returned (.tuple #[p.v,q.v,.int .i64 0])∧p.Num w' (ab (a / b))∧q.Num w' (ab (a % b))∧Gr w w':=by
 have H1:=I (xu w x a hx ha);have HY:=I hy;have hbd:((b:Int) == 0)=false:=by simp;omega
 have hbd2:¬(b:Int)=0:=by omega
 have hbd3:¬b=0:=by omega
 have hq:a / b < 18446744073709551616:=nj (Nat.div_le_self a b) ha;have hr:a % b < 18446744073709551616:=nj (Nat.mod_le a b) ha;have E1:(a:Int) / (b:Int)=((a / b:Nat):Int):=(Int.natCast_ediv a b).symm;have E2:(a:Int) % (b:Int)=((a % b:Nat):Int):=(Int.natCast_emod a b).symm;have E3:=vo a b;have E4:=vn a b;have HD1:=I (fun W=>a0p W (a / b) hq);have HD2:=I (fun W=>a0p W (a % b) hr);generalize a / b=qv at*;generalize a % b=rv at*;have E5:IntKind.u64.wrap (qv:Int)=(qv:Int):=IntWalk.u64_in _ om;clear hx hy;go_enter Tryz.func113,Tryz.ntmps113;go_wp2_with fail;go_at_call 167
 refine cm0 H1 fun w1 G1=>?_
 have HG1:=I G1;have H2:=I (xu w1 y b (HY.gr G1) hb);clear H1;go_wp2_with fail;go_at_call 167
 refine cm0 H2 fun w2 G2=>?_
 have HG2:=I (HG1.trans G2);clear H2 HG1 HY;go_wp2_with fail
 first | (go_region_held3 (fun W=>True) (first | go_keep | trivial) (first | (go_at_call 107;refine (HD2.out w3).mono ?_;rintro e w4 ⟨v,rfl,hv,G4⟩;have HV:=I hv;have HU4:=I (HU.out.gr G4);have HG4:=I (HG3.out.trans G4);clear hv G4) | (go_at_call 107;refine (HD1.out _).mono ?_;rintro e w3 ⟨u,rfl,hu,G3⟩;have HU:=I hu;have HG3:=I (HG2.out.drew.trans G3);clear hu G3))) | fail
 go_wp2;go_returns;exact⟨u,v,rfl,HU4.out,HV.out,HG4.out⟩
theorem a8b {w:World} {x:Sv} {l l':List Nat} (h:x.Num w l) (h':x.Num w l'):l=l':=by
 apply List.ext_getElem?
 intro i;rcases Nat.lt_or_ge i x.n with hi | hi
 ·obtain⟨y,ad,hy,_,hA,_,hc⟩:=h.at hi;obtain⟨z,ad',hz,_,hA',_,hc'⟩:=h'.at hi;rw[hA] at hA';injection hA' with hA';subst hA';rw[hc] at hc';simp only[oq,Value.int.injEq,true_and] at hc';rw[hy,hz];exact congrArg some om
 ·rw[List.getElem?_eq_none (by rw[h.len];exact hi),List.getElem?_eq_none (by rw[h'.len];exact hi)]
open Classical in
noncomputable def aew (w:World) (v:Value):Nat:=if h:∃m,∃x:Sv,v=x.v∧x.Num w (ab m) then Classical.choose h else 0
theorem vz {w:World} {x:Sv} {m:Nat} (h:x.Num w (ab m)):aew w x.v=m:=by
 have he:∃m,∃y:Sv,x.v=y.v∧y.Num w (ab m):=⟨m,x,rfl,h⟩;unfold aew;rw[dif_pos he];obtain⟨y,hy,hn⟩:=Classical.choose_spec he;obtain⟨A,n,c⟩:=x;obtain⟨B,k,d⟩:=y;simp only[Sv.v,Value.slice.injEq] at hy;obtain⟨rfl,rfl,rfl⟩:=hy;exact se (a8b hn h)
end
end Go.Proofs.YtbhbainhmfjpdaaGreatDoor
