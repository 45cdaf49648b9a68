/- Walks of the search and of what it calls, part 18. -/
import Derived.Test.YtbhbainhmfjpdaaGreatDoorMq
set_option linter.unusedVariables false
set_option linter.unusedSectionVars false
set_option linter.unusedSimpArgs false
set_option maxRecDepth 100000
set_option maxHeartbeats 8000000
namespace Go.Proofs.YtbhbainhmfjpdaaGreatDoor
open Go.RowKit
theorem agq {l:List Mm} {u:Int} (h9:l.length≤1000000):PCalls Tryz.prog [] 59 [mmsP l,iP u] (bP (tt l u)):=by
 refine pcA [] Tryz.func59 (fun D=>?_);refine au ?_;refine pl (ι:={i:Nat // i≤l.length∧(l.take i).any (fun m:Mm=>decide (5≤m.1.kind)&&(m.1.index == u))=false}) (fun i=>[(0,.pv (mmsP l)),(1,.pv (iP u)),(5,.pv (iP (i.1:Int)))]) (fun i=>[]) [] (fun i=>l.length - i.1) ⟨0,nq _,rfl⟩ (ai Y (ai Y (ai Y trivial))) trivial (fun _=>rfl) ?_;intro ⟨i,hi0,hg⟩;refine a2 (fun e9=>?_) (fun e9=>?_)
 ·have hi:i < l.length:=db e9;refine ax (c:=(aj (ah hi))) ?_;refine a2 (fun e19=>?_) (fun e19=>?_)
  ·refine ax (c:=(aj (ah hi))) ?_;refine a2 (fun e28=>?_) (fun e28=>?_)
   ·exact ar (c:=(show bP true=bP (tt l u) from congrArg bP (a25 (f:=(fun m:Mm=>decide (5≤m.1.kind)&&(m.1.index == u))) hi (by simp_all)).symm))
   ·refine aa (c:=ae (by show i≤_;omega)) ?_;refine au ?_;exact pe ⟨i+1,hi,pg hg hi (by simp_all<;>omega)⟩ (ai Y (ai Y (ai Y trivial))) trivial Y (by show l.length - (i+1) < l.length - i;omega)
  ·refine aa (c:=ae (by show i≤_;omega)) ?_;refine au ?_;exact pe ⟨i+1,hi,pg hg hi (by simp_all<;>omega)⟩ (ai Y (ai Y (ai Y trivial))) trivial Y (by show l.length - (i+1) < l.length - i;omega)
 ·have hj:l.length≤i:=dw e9;exact ar (c:=(show bP false=bP (tt l u) from congrArg bP (a57 hg hj).symm))
theorem a85 {ls:List Lm} {e:Bool} {p:List Mm} {u:Int} (h9:ls.length≤1000000) (hp:p.length≤1000000) (hm:∀m∈ls,m.proof.length≤1000000):PCalls Tryz.prog [] 22 [.agg [lmsP ls,iP 0,iP 0,bP false,.nat 0,.nat 0,.rows 46 9 ndT [],bP e,mmsP p],iP u] (bP (vd ls p u)):=by
 refine pcA [46] Tryz.func22 (fun D=>?_);refine ac (c:=agq hp) ?_;refine a2 (fun e9=>?_) (fun e9=>?_)
 ·exact ar (c:=(show bP true=bP (vd ls p u) from congrArg bP (by rw[vd,e9];rfl)))
 ·refine au ?_;refine pl (ι:={i:Nat // i≤ls.length∧(ls.take i).any (fun m:Lm=>(m.unit == u)||tt m.proof u)=false}) (fun i=>[(1,.pv (iP u)),(2,.box 2 0),(5,.pv (iP (i.1:Int)))]) (fun i=>[(2,.box 46 [.pv (lmsP ls),.pv (iP 0),.pv (iP 0),.pv (bP false),.pv (.nat 0),.pv (.nat 0),.pv (.rows 46 9 ndT []),.pv (bP e),.pv (mmsP p)])]) [46] (fun i=>ls.length - i.1) ⟨0,nq _,rfl⟩ (ai Y (ai Y (ai Y trivial))) (ai Y trivial) (fun _=>rfl) ?_;intro ⟨i,hi0,hg⟩;refine a2 (fun e14=>?_) (fun e14=>?_)
  ·have hi:i < ls.length:=db e14;refine ax (c:=(aj (ah hi))) ?_;refine a2 (fun e25=>?_) (fun e25=>?_)
   ·exact ar (c:=(show bP true=bP (vd ls p u) from congrArg bP (by rw[vd,a25 (f:=(fun m:Lm=>(m.unit == u)||tt m.proof u)) hi (by simp_all),Bool.or_true])))
   ·refine ax (c:=(aj (ah hi))) ?_;refine ac (c:=agq (hm _ (mg (ah hi)))) ?_;refine a2 (fun e34=>?_) (fun e34=>?_)
    ·exact ar (c:=(show bP true=bP (vd ls p u) from congrArg bP (by rw[vd,a25 (f:=(fun m:Lm=>(m.unit == u)||tt m.proof u)) hi (by simp_all),Bool.or_true])))
    ·refine aa (c:=ae (by show i≤_;omega)) ?_;refine au ?_;exact pe ⟨i+1,hi,pg hg hi (by simp_all<;>omega)⟩ (ai Y (ai Y (ai Y trivial))) (ai Y trivial) Y (by show ls.length - (i+1) < ls.length - i;omega)
  ·have hj:ls.length≤i:=dw e14;exact ar (c:=(show bP false=bP (vd ls p u) from congrArg bP (by rw[vd,a57 hg hj,e9];rfl)))
theorem ah1 {q p:Qr} {u:Int} {x:En} (h:Off q p u) (hx:bz q x=true) (hz:EnZ x) (hn:bz p x=false):PCalls Tryz.prog [] 22 [.agg [lmsP x.lems,iP 0,iP 0,bP false,.nat 0,.nat 0,.rows 46 9 ndT [],bP x.empty,mmsP x.proof],iP u] (bP true):=by
 have hp:=a85 (e:=x.empty) (u:=u) hz.2.1 hz.2.2.2 hz.2.2.1;cases hm:vd x.lems x.proof u with
 | true=>rwa [hm] at hp
 | false=>rw[h.applies hm hx] at hn;cases hn
theorem aj2 {A B:List En} {P:En→Bool} {i k:Nat} (hj:A.length≤i) (hk:k≤B.length) (h:B.drop k=(A.drop i).filter P):k=B.length:=by
 rw[List.drop_of_length_le hj] at h;have:=congrArg List.length h;rw[List.length_drop] at this;simp at this;omega
theorem aln {A0 A1:Option Addr} {k0 k1:Nat} {L M:List Nat} (hl:∀y∈L,y < 256) (hn:L.length≤300) (hm:∀y∈M,y < 256) (hn2:M.length≤60):PCallsW (fun w=>LaidG w∧(By ⟨A0,L.length,k0⟩ L w∧By ⟨A1,M.length,k1⟩ M w)) Tryz.prog TL 6 [.raw (.slice A0 L.length k0),.raw (.slice A1 M.length k1)] (bP true):=by
 obtain⟨g1,g2,g3,g4,g5⟩:=a8t L;have t4:=(vi L).2.2.2;have hk:kh L≤8:=nt (act L) dx;have hok:(bo L).g.Ok:=by rw[(lf L).1];exact so L
 obtain⟨c1,c2,c3⟩:=a8h M g1 hok t4 g2;have hch:=a9x (x:=⟨A1,M.length,k1⟩) hm om hok t4;obtain⟨s1,s2,s3,s4,s5⟩:=uz (bo L) M;have hdf:=al4 g1.g c1.g s1.symm s2.symm (by rw[s3]) fun f hf=>by
  rcases hf with hf | hf
  ·exact nt (g1.us _ hf).len om
  ·exact nt (jk (hok.os _ hf)).len om
 have hoff:=fun u=>am4 (q:=bo L) (L:=M) (u:=u)
 have hE1:=ac5 g5 hk c1 dx dx c3;have he1:=a2x g4 g5.lim hk c1 c3 c2 hE1;have hE2:=ac5 g5 hk g1 dx dx g2;have hf2:=a4m g4 g5.lim hk g1 g3 hE2;have h9:2 ^ kh L≤1000000:=nt (Nat.pow_le_pow_right dx hk) dx;have hA9:(gk (bo L) (entR (kh L) (mz L) [] [])).length≤1000000:=nt (wd ..) (nt (jo ..) h9);have hB9:(gk (cf (bo L) M) (entR (kh L) (mz L) [] [])).length≤1000000:=nt (wd ..) (nt (jo ..) h9);have hz:∀y∈gk (bo L) (entR (kh L) (mz L) [] []),EnZ y:=fun y hy=>by
  obtain⟨x,hx,rfl⟩:=af4 hy;exact .of (hE2 x hx).2.2.1 (hE2 x hx).2.2.2
 have hBA:gk (cf (bo L) M) (entR (kh L) (mz L) [] [])=(gk (bo L) (entR (kh L) (mz L) [] [])).filter (bz (cf (bo L) M)):=by
  have:gk (bo L) (entR (kh L) (mz L) [] [])=(entR (kh L) (mz L) [] []).map du:=List.filter_eq_self.2 fun y hy=>by
   obtain⟨x,hx,rfl⟩:=List.mem_map.1 hy;exact a7i L x hx
  rw[this];rfl
 have hap:∀y∈gk (bo L) (entR (kh L) (mz L) [] []),bz (bo L) y=true:=fun y hy=>(List.mem_filter.1 hy).2
 have ht:=aks (A:=A0) (k:=k0) hl om;generalize gk (bo L) (entR (kh L) (mz L) [] [])=A at*;generalize gk (cf (bo L) M) (entR (kh L) (mz L) [] [])=B at*;generalize kf (bo L).g.units (cf (bo L) M).g.units (bo L).g.units.length=DU at*;generalize kf (bo L).g.outputs (cf (bo L) M).g.outputs (bo L).g.outputs.length=DO at*;generalize cf (bo L) M=q2 at*;clear g3 g4 g5 t4 hE1 hE2 hk hok c1 c2 c3 h9 s1 s2 s3 s4 s5;rw[← ru] at he1 hf2;generalize bo L=q at*;generalize mz L=n at*;obtain⟨ls,d,ks,e,p⟩:=n;refine pcW [39,46,39] (by kernel_rfl) Tryz.func6 rfl rfl (fun D hF hM hH=>?_);refine au ?_;refine rcw hM (fun _ G=>hH.1.gr G) (a14) Y Y Y Y Y Y Y ?_;refine qg 1 ?_;refine rn Y (pif Y (fun e=>by cases e) (fun _=>?_));refine pk (ps (pr0 (qg 1 ?_)));refine ro0 Y Y Y (fun hd=>m8 Y Y Y hd) ?_;refine akF (c:=by exact (show _=false from df om)) ?_;refine qg 2 ?_;refine ro0 Y Y Y (fun hd=>m8 Y Y Y hd) ?_;refine akF (c:=by exact (show _=false from df om)) ?_;refine au ?_;refine rcw hM (fun _=>hH.2.1.gr) (ht) Y Y Y Y Y Y Y ?_;refine au ?_;refine rcw hM (fun _=>hH.2.2.gr) (hch) Y Y Y Y Y Y Y ?_;refine ac (c:=hdf) ?_;refine a2 (fun e46=>?_) (fun e46=>?_)
 ·exact ar (c:=rfl)
 ·obtain⟨u,rfl⟩:∃u,DU=[u]:=by
   rw[List.length_map] at e46
   match DU,e46 with
   | [],h=>cases h
   | [u],_=>exact⟨u,rfl⟩
   | _::_::l,h=>simp at h;omega
  have hof:=hoff u rfl;refine ac (c:=hf2) ?_;refine au ?_;refine rcw hM (fun _ G=>hH.1.gr G) (he1) Y Y Y Y Y Y Y ?_;refine au ?_;refine pl (ι:={p:Nat×Nat // p.2≤A.length∧p.1≤B.length∧B.drop p.1=(A.drop p.2).filter (bz q2)}) (fun p=>[(8,.pv (z0 [u])),(11,.pv (ensP A)),(13,.pv (ensP B)),(14,.pv (iP 0)),(15,.pv (iP (p.1.1:Int))),(16,.pv (iP (p.1.2:Int)))]) (fun p=>[]) [] (fun p=>A.length - p.1.2) ⟨(0,0),nq _,nq _,hBA⟩ (ai Y (ai Y (ai Y (ai Y (ai Y (ai Y trivial)))))) trivial (fun _=>rfl) ?_;intro ⟨(k,i),hi0,hk0,hs1⟩;simp only at hk0 hi0 hs1;refine a2 (fun e62=>?_) (fun e62=>?_)
  ·have hi:i < A.length:=db e62;have hst:=af1 hi (P:=bz q2) (fun y hy=>by rw[hBA] at hy;exact (List.mem_filter.1 hy).2) hs1;refine a2 (fun e69=>?_) (fun e69=>?_)
   ·have hk:k < B.length:=db e69;refine aa (c:=ae (by show i≤_;omega)) ?_;refine ro0 Y Y Y (fun hd=>f5 al Y Y Y (.inr ⟨_,rfl,rfl⟩) (.inr ⟨_,rfl,rfl⟩) (Nat.le_succ _) (by rw[List.length_map];exact hi) Y dx hd) ?_;refine aa (c:=ae (by show k≤_;omega)) ?_;refine ro0 Y Y Y (fun hd=>f5 al Y Y Y (.inr ⟨_,rfl,rfl⟩) (.inr ⟨_,rfl,rfl⟩) (Nat.le_succ _) (by rw[List.length_map];exact hk) Y dx hd) ?_;refine ac (c:=anu (by exact a2f hi) (by exact a2f hk) (hz _ (mg (ah hi)))) ?_;refine a2 (fun e81=>?_) (fun e81=>?_)
    ·refine aa (c:=ae (by show k≤_;omega)) ?_;refine aa (c:=ae (by show i≤_;omega)) ?_;refine au ?_;exact pe ⟨(k+1,i+1),hi,hk,hst.1 hk e81⟩ (ai Y (ai Y (ai Y (ai Y (ai Y (ai Y trivial)))))) trivial Y (by show A.length - (i+1) < A.length - i;omega)
    ·have hno:¬k < B.length∨enEq (atZ A (i:Int)) (atZ B (k:Int))=false:=.inr e81;have hme:=ah1 hof (hap _ (mg (ah hi))) (hz _ (mg (ah hi))) (hst.2 hno).1;refine ax (c:=(aj (ah hi))) ?_;refine au ?_;refine ro0 Y Y Y (fun hd=>jf (i:=0) al Y Y Y Y Y dx Y (aj (f:=fun x=>[iP x]) (l:=[u]) (i:=0) Y) hd) ?_;refine ac (c:=hme) ?_;refine aa (c:=ae (by show i≤_;omega)) ?_;refine au ?_;exact pe ⟨(k,i+1),hi,hk0,(hst.2 hno).2⟩ (ai Y (ai Y (ai Y (ai Y (ai Y (ai Y trivial)))))) trivial Y (by show A.length - (i+1) < A.length - i;omega)
   ·have hno:¬k < B.length∨enEq (atZ A (i:Int)) (atZ B (k:Int))=false:=.inl (by have h:B.length≤k:=dw e69;omega);have hme:=ah1 hof (hap _ (mg (ah hi))) (hz _ (mg (ah hi))) (hst.2 hno).1;refine ax (c:=(aj (ah hi))) ?_;refine au ?_;refine ro0 Y Y Y (fun hd=>jf (i:=0) al Y Y Y Y Y dx Y (aj (f:=fun x=>[iP x]) (l:=[u]) (i:=0) Y) hd) ?_;refine ac (c:=hme) ?_;refine aa (c:=ae (by show i≤_;omega)) ?_;refine au ?_;exact pe ⟨(k,i+1),hi,hk0,(hst.2 hno).2⟩ (ai Y (ai Y (ai Y (ai Y (ai Y (ai Y trivial)))))) trivial Y (by show A.length - (i+1) < A.length - i;omega)
  ·have hj:A.length≤i:=dw e62;refine akT (c:=by exact (show _=true from rfl)) ?_;exact ar (c:=congrArg bP (show ((k:Int) == ((B.map enC).length:Int))=true from by have:=aj2 hj hk0 hs1;rw[List.length_map,← this];exact beq_self_eq_true _))
theorem alm {A0 A1:Option Addr} {n0 k0 n1 k1:Nat} (h:300 < n0):PCallsW LaidG Tryz.prog TL 6 [.raw (.slice A0 n0 k0),.raw (.slice A1 n1 k1)] (bP true):=by
 refine pcW [39,46,39] (by kernel_rfl) Tryz.func6 rfl rfl (fun D hF hM hH=>?_);refine au ?_;refine rcw hM (fun _ G=>hH.gr G) (a14) Y Y Y Y Y Y Y ?_;refine qg 1 ?_;refine rn Y (pif Y (fun e=>by cases e) (fun _=>?_));refine pk (ps (pr0 (qg 1 ?_)));refine ro0 Y Y Y (fun hd=>m8 Y Y Y hd) ?_;refine akT (c:=by exact (show _=true from dt om)) ?_;exact ar (c:=rfl)
theorem alk {A0 A1:Option Addr} {n0 k0 n1 k1:Nat} (h0:n0≤300) (h:60 < n1):PCallsW LaidG Tryz.prog TL 6 [.raw (.slice A0 n0 k0),.raw (.slice A1 n1 k1)] (bP true):=by
 refine pcW [39,46,39] (by kernel_rfl) Tryz.func6 rfl rfl (fun D hF hM hH=>?_);refine au ?_;refine rcw hM (fun _ G=>hH.gr G) (a14) Y Y Y Y Y Y Y ?_;refine qg 1 ?_;refine rn Y (pif Y (fun e=>by cases e) (fun _=>?_));refine pk (ps (pr0 (qg 1 ?_)));refine ro0 Y Y Y (fun hd=>m8 Y Y Y hd) ?_;refine akF (c:=by exact (show _=false from df om)) ?_;refine qg 2 ?_;refine ro0 Y Y Y (fun hd=>m8 Y Y Y hd) ?_;refine akT (c:=by exact (show _=true from dt om)) ?_;exact ar (c:=rfl)
theorem law_local_in (w:World) (hw:LaidG w) (a0:Option Addr) (len0 cap0:Nat) (zs0:List Int) (a1:Option Addr) (len1 cap1:Nat) (zs1:List Int) (h0:IsRow .u8 w a0 len0 cap0 zs0) (h1:IsRow .u8 w a1 len1 cap1 zs1):
  Calls Tryz.prog 6 #[.slice a0 len0 cap0,.slice a1 len1 cap1] w fun e w'=>e=.returned (.bool true)∧Below w.heap.size w w':=by
 have hr:PV.RepL w NoX [.raw (.slice a0 len0 cap0),.raw (.slice a1 len1 cap1)] [.slice a0 len0 cap0,.slice a1 len1 cap1]:=PV.RepL.cons (nc _) (PV.RepL.cons (nc _) PV.RepL.nil);rcases Nat.lt_or_ge 300 len0 with h | h
 ·exact (alm h).in1 hw hr
 ·rcases Nat.lt_or_ge 60 len1 with k | k
  ·exact (alk h k).in1 hw hr
  ·have hl:=a42 h0;have hm:=a42 h1;have hp:=aln (A0:=a0) (k0:=cap0) (A1:=a1) (k1:=cap1) h0.lim om h1.lim om;rw[hl,hm] at hp;exact hp.in1 ⟨hw,h0.is,h1.is⟩ hr
end Go.Proofs.YtbhbainhmfjpdaaGreatDoor
