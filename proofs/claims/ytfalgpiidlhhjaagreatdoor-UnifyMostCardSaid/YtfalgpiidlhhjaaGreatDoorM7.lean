import Derived.Test.YtfalgpiidlhhjaaGreatDoorM3
import Derived.Test.YtfalgpiidlhhjaaGreatDoorM6
import Derived.Test.YtfalgpiidlhhjaaGreatDoorM2
import Derived.Test.YtfalgpiidlhhjaaGreatDoorM5
import Derived.Test.YtfalgpiidlhhjaaGreatDoorM4
/- Lemmas on the program's own code, towards the laws of this folder, part 7. Conditions: as each lemma says. -/
open Bool renaming false_eq_true -> Zd, not_false -> Zw, not_true -> Zn
open ByteArray renaming empty -> Zh
open Int renaming toNat_natCast -> Zv
open List renaming foldl_cons -> ZP, getElem?_eq_getElem -> Zc, getElem?_map -> Zj, getElem?_take -> ZJ, getElem_mem -> ZD, length_append -> Zm, length_map -> Zp, length_singleton -> ZN, map_append -> ZK, mem_singleton -> Zx, range -> Zg, take_append_getElem -> ZL, take_of_length_le -> Zq
open Nat renaming beq_eq -> Zu, le_refl -> Ze, le_trans -> ZC, lt_add_right -> ZQ, lt_of_lt_of_le -> Zo, lt_succ_self -> Zf, reduceAdd -> Zb, reduceEqDiff -> Za, reduceLeDiff -> Zr, zero_le -> ZA
section
namespace Go.Proofs.hq
open Go Go.RowKit Go.Hb
variable {ok:Ok}
set_option maxRecDepth 10000
attribute [local irreducible] LX LG EL STG SOP SGO SGD SAL SRD SEF SEG SLK SCK ES
set_option maxHeartbeats 4000000 in
theorem zhr {b n c lo hi f:Nat}{D:Nat->Bnd}{H:Heap}(hr:RowB H 87 b n D) (hn:n<=bmost) (hfn:f+hi<=n) (hlo:lo<=n) (hp:HpF Bnd.v f (lo+1) hi D) (hw:H.wf) :
  EvF Tryz.prog okT 151 [.slice (some ⟨b,0,none⟩) n c,.int .i64 (lo:Nat),.int .i64 (hi:Nat),.int .i64 (f:Nat),cvB] H fun _ H' =>
   ∃D',RowB H' 87 b n D'/\Pm f (f+hi) D D'/\HpF Bnd.v f lo hi D'/\HK (·=b) H H':=by
 have hms:bmost<=1048576:=by simp [bmost]
 have hg:=z36;refine EvF.enter rfl Tryz.func151 (by decide) rfl ?_
 repeat' (first|refine qZa ?_|refine qZg ?_|(refine qZb ?_;simp only[sB,initTm,Za,Zb,reduceCtorEq]))
 refine qZk (fun k st=>∃tm H' r D',st=⟨tm,[],H'⟩/\k=hi - r/\lo<=r/\r<=n/\tm.get 0=some (.slice (some ⟨b,0,none⟩) n c)/\tm.get 2=some (.int .i64 (hi:Nat))/\tm.get 3=some (.int .i64 (f:Nat))/\tm.get 4=some cvB /\
  tm.get 10=some (.int .i64 (r:Nat))/\RowB H' 87 b n D'/\Pm f (f+hi) D D'/\HpX Bnd.v f lo hi r D'/\HK (·=b) H H') ?_ (hi - lo) _ ?_
 ·rintro k st ⟨tm,H',r,D',rfl,rfl,hlr,hrn,t0,t2,t3,t4,t10,hr',hm,hx,hk⟩;have hw1:IntKind.i64.wrap (2*(r:Int))=((2*r:Nat):Int):=by rw[z05 (by omega) (by omega)];omega
  have hw2:IntKind.i64.wrap (((2*r:Nat):Int)+1)=((2*r+1:Nat):Int):=by rw[z05 (by omega) (by omega)];omega
  (repeat refine qZa ?_);refine qZg ?_;(repeat refine qZa ?_);refine qZb ?_;simp only[sB,Za,t10,hw1,hw2];by_cases h1:2*r+1 < hi
  ·have hd:decide (((2*r+1:Nat):Int) >= (hi:Int))=false:=decide_eq_false (by omega);(repeat refine qZa ?_);refine qZb ?_;simp only[sB,Za,t2,hd];refine qZm (by simp only[sB,Za]) ?_;(try refine qZe ?_);(try simp only[z00,z0b]);have hw3:IntKind.i64.wrap (((2*r+1:Nat):Int)+1)=((2*r+2:Nat):Int):=by rw[z05 (by omega) (by omega)];omega
   refine EvC.cut (fun st=>∃tm H' ch,st=⟨tm,[],H'⟩/\(ch=2*r+1\/ch=2*r+2)/\ch < hi/\(∀d,(d=2*r+1\/d=2*r+2)->d < hi->(D' (f+d)).v<=(D' (f+ch)).v)/\tm.get 0=some (.slice (some ⟨b,0,none⟩) n c)/\tm.get 2=some (.int .i64 (hi:Nat)) /\
    tm.get 3=some (.int .i64 (f:Nat))/\tm.get 4=some cvB/\tm.get 10=some (.int .i64 (r:Nat))/\tm.get 11=some (.int .i64 (ch:Nat))/\RowB H' 87 b n D'/\HK (·=b) H H') ?_ ?_
   ·by_cases h2:2*r+2 < hi
    ·have hw4:IntKind.i64.wrap ((f:Int)+((2*r+1:Nat):Int))=((f+(2*r+1):Nat):Int):=by rw[z05 (by omega) (by omega)];omega
     have hw5:IntKind.i64.wrap (((f+(2*r+1):Nat):Int)+1)=((f+(2*r+2):Nat):Int):=by rw[z05 (by omega) (by omega)];omega
     have k1:f+(2*r+1) < n:=by omega
     have k2:f+(2*r+2) < n:=by omega
     have l1:=hr'.load k1;have l2:=hr'.load k2;have hb:=hk.bump 22
     repeat' (first|refine qZa ?_|(refine qZj (id:=3) [([(0,0),(1,0),(2,0),(3,0),(4,0),(5,0),(6,0),(7,0),(8,0),(9,0),(10,0),(11,0),(12,0),(13,0),(14,0),(15,0),(16,0),(17,0),(18,0)],some 19),([(20,1),(21,1)],none)] ?_ ?_;kernel_rfl;simp (config:=qZc) (disch:=first|omega|rfl) only[sD,sB,Za,Zb,reduceCtorEq,ia48,ld87,t0,t2,t3,t4,hw3,decl h2,hw4,hw5,l1,l2,z10,z0m hg,isAlloc,isRead]))
     obtain⟨cells0,hg0,-,-⟩:=hr'.row;have hbl:=hk.wf _ _ hg0;refine(z27 hb.wf).mono ?_;rintro v H2 ⟨rfl,hx2⟩;have hk2:=hb.hxs hx2;have r2:=hr'.heap (H':=H2) (by rw[hx2.keep b (ZQ _ hbl)];rfl);by_cases hc:(D' (f+(2*r+1))).v < (D' (f+(2*r+2))).v
     ·repeat' (first|(refine qZb ?_;simp only[sB,Za,hw3])|(refine z0p ?_;simp only[sD,sB,Za,cz_t hc,isAlloc,isRead])|(refine qZd ?_ ?_;simp only[sB,Za];refine z01 ?_))
      exact⟨_,_,2*r+2,rfl,.inr rfl,h2,fun d hd _=>by rcases hd with rfl|rfl<;>omega,(by simp only[sG,reduceCtorEq,t0]),(by simp only[sG,Za,t2]),(by simp only[sG,Za,t3]),(by simp only[sG,Za,t4]),(by simp only[sG,Za,t10]),(by simp only[sG,Za]),r2,hk2⟩
     ·repeat' (first|(refine qZe ?_;try simp only[true_and])|(refine z0p ?_;simp only[sD,sB,Za,cz_f hc,isAlloc,isRead])|(refine qZm ?_ ?_;simp only[sB,Za];refine z01 ?_))
      exact⟨_,_,2*r+1,rfl,.inl rfl,h1,fun d hd _=>by rcases hd with rfl|rfl<;>omega,(by simp only[sG,reduceCtorEq,t0]),(by simp only[sG,Za,t2]),(by simp only[sG,Za,t3]),(by simp only[sG,Za,t4]),(by simp only[sG,Za,t10]),(by simp only[sG,Za]),r2,hk2⟩
    ·repeat' (first|refine qZa ?_|(refine qZe ?_;try simp only[true_and])|(refine qZj (id:=3) [([(0,0),(1,0),(2,0),(3,0),(4,0),(5,0),(6,0),(7,0),(8,0),(9,0),(10,0),(11,0),(12,0),(13,0),(14,0),(15,0),(16,0),(17,0),(18,0)],some 19),([(20,1),(21,1)],none)] ?_ ?_;kernel_rfl;simp only[sD,sB,Za,Zb,t2,hw3,decn h2,Zd,isAlloc,isRead])|(refine qZm ?_ ?_;simp only[sB,Za];refine z01 ?_))
     exact⟨_,_,2*r+1,rfl,.inl rfl,h1,fun d hd h=>by rcases hd with rfl|rfl<;>omega,(by simp only[sG,reduceCtorEq,t0]),(by simp only[sG,Za,t2]),(by simp only[sG,Za,t3]),(by simp only[sG,Za,t4]),(by simp only[sG,Za,t10]),(by simp only[sG,Za]),hr'.heap rfl,hk.bump _⟩
   ·rintro st ⟨tm,H1,ch,rfl,hch,hchi,hbig,t0,t2,t3,t4,t10,t11,hr1,hk1⟩;have k1:f+r < n:=by omega
    have k2:f+ch < n:=by omega
    have l1:=hr1.load k1;have l2:=hr1.load k2;have hb:=hk1.bump 16;have hw6:IntKind.i64.wrap ((f:Int)+(r:Int))=((f+r:Nat):Int):=by rw[z05 (by omega) (by omega)];omega
    have hw7:IntKind.i64.wrap ((f:Int)+(ch:Int))=((f+ch:Nat):Int):=by rw[z05 (by omega) (by omega)];omega
    repeat' (first|refine qZa ?_|(refine qZj (id:=5) [([(0,0),(1,0),(2,0),(3,0),(4,0),(5,0),(6,0),(7,0),(8,0),(9,0),(10,0),(11,0),(12,0)],some 13),([(14,1),(15,1)],none)] ?_ ?_;kernel_rfl;simp (config:=qZc) (disch:=first|omega|rfl) only[sD,sB,Za,Zb,reduceCtorEq,ia48,ld87,t0,t3,t4,t10,t11,hw6,hw7,l1,l2,z10,z0m hg,isAlloc,isRead]))
    obtain⟨cells0,hg0,-,-⟩:=hr1.row;have hbl:=hk1.wf _ _ hg0;refine(z27 hb.wf).mono ?_;rintro v H2 ⟨rfl,hx2⟩;have hk2:=hb.hxs hx2;have r2:=hr1.heap (H':=H2) (by rw[hx2.keep b (ZQ _ hbl)];rfl);by_cases hc:(D' (f+r)).v < (D' (f+ch)).v
    ·have l1:=r2.load k1;have l2:=r2.load k2;obtain⟨cells,hg2,hl,he⟩:=r2.row;have hbl2:=hk2.wf _ _ hg2;have le1:(f+r)*7+7<=cells.length:=by have:=mul7 k1;omega
     have le2:(f+ch)*7+7<=cells.length:=by have:=mul7 k2;omega
     have hsw:=fun H2 h2=>RowB.swap (H:=H') (b:=b) (T:=87) hl he k1 k2 H2 h2
     have ms:=Pm.swap (a:=f) (b:=f+hi) (i:=f+r) (j:=f+ch) (D:=D') (by omega) (by omega) (by omega) (by omega);have hst:=hx.step hlr hch hchi hc hbig;generalize hE1:D' (f+r)=E1 at *;generalize hE2:D' (f+ch)=E2 at *;have le3:(f+ch)*7+7<=(Hb.splice cells ((f+r)*7) E2.seven).length:=by rw[z0k (vs:=E2.seven) le1];exact le2
     repeat' (first|refine qZa ?_|(refine qZe ?_;try simp only[z00])|(refine qZb ?_;simp (config:=qZc) only[sB,Za,t11])|(refine qZj (id:=6) [([(0,0),(1,0),(2,0),(3,0),(8,0),(9,0),(10,0),(11,0),(12,0),(13,0),(14,0),(15,0),(16,0),(17,0),(18,0),(19,0),(20,0)],some 21),([(4,0),(5,0),(6,0),(7,0),(22,1)],some 23),([],none)] ?_ ?_;kernel_rfl;simp (config:=qZc) (disch:=first|omega|rfl) only[sV,sD,sB,Za,Zb,one,reduceCtorEq,ia48,ld87,st87,t0,t3,t10,t11,hw6,hw7,l1,l2,hg2,le1,le3,isAlloc,isRead])|(refine z0p ?_;simp (config:=qZc) only[sD,sB,Za,cz_t hc,Zn,isAlloc,isRead])|(refine qZm ?_ ?_;simp (config:=qZc) only[sB,Za];refine z01 ?_))
     exact⟨hi - ch,by omega,_,_,ch,_,rfl,rfl,by omega,by omega,(by simp only[sG,reduceCtorEq,t0]),(by simp only[sG,Za,t2]),(by simp only[sG,Za,t3]),(by simp only[sG,Za,t4]),(by simp only[sG,Za]),hsw _ (by rw[get_put,if_pos rfl]),hm.trans ms,hst,hk2.two hbl2 _ _ _⟩
    ·repeat' (first|(refine qZf ?_;try simp only[z04,z02])|(refine z0p ?_;simp only[sD,sB,Za,cz_f hc,Zw,isAlloc,isRead])|(refine qZd ?_ ?_;simp only[sB,Za];refine z01 ?_))
     exact z2x rfl ⟨D',r2,hm,hx.done fun d hd hlt=>Int.le_trans (hbig d hd hlt) (by omega),hk2⟩
  ·have hd:decide (((2*r+1:Nat):Int) >= (hi:Int))=true:=decide_eq_true (by omega)
   repeat' (first|refine qZa ?_|(refine qZi ?_;try simp only[sB,reduceCtorEq])|(refine qZb ?_;simp only[sB,Za,t2,hd])|(refine qZd ?_ ?_;simp only[sB,Za];refine z01 ?_))
   exact z0r rfl ⟨D',hr',hm,hx.done fun d hd hlt=>by omega,hk⟩
 ·exact⟨_,_,lo,D,rfl,rfl,Ze _,hlo,(by simp only[sG,reduceCtorEq]),(by simp only[sG,Za,reduceCtorEq]),(by simp only[sG,Za,reduceCtorEq]),(by simp only[sG,Za,reduceCtorEq]),(by simp only[sG,Za,reduceCtorEq]),hr,Pm.refl D,.start hp,HK.refl hw⟩
set_option maxHeartbeats 4000000 in
theorem zot {b n c a e:Nat}{D:Nat->Bnd}{H:Heap}(hr:RowB H 87 b n D) (hn:n<=bmost) (h1:a < e) (h3:e<=n) (hw:H.wf) :
  EvF Tryz.prog okT 125 [.slice (some ⟨b,0,none⟩) n c,.int .i64 (a:Nat),.int .i64 (e:Nat),cvB] H fun _ H' =>
   ∃D',RowB H' 87 b n D'/\Pm a e D D'/\InZ Bnd.v a e D'/\HK (·=b) H H':=by
 have hms:bmost<=1048576:=by simp [bmost]
 obtain⟨m,rfl⟩:∃m,e=a+(m+1):=⟨e - a - 1,by omega⟩
 refine EvF.enter rfl Tryz.func125 (by decide) rfl ?_;have hw1:IntKind.i64.wrap (((a+(m+1):Nat):Int) - (a:Int))=((m+1:Nat):Int):=by rw[z05 (by omega) (by omega)];omega
 have hw2:IntKind.i64.wrap (((m+1:Nat):Int) - 1)=((m:Nat):Int):=by rw[z05 (by omega) (by omega)];omega
 have hq:IntKind.i64.wrap (((m:Nat):Int).tdiv 2)=((m / 2+1:Nat):Int) - 1:=by rw[Int.tdiv_eq_ediv_of_nonneg (by omega),z05 (by omega) (by omega)];omega
 (repeat refine qZa ?_);refine qZb ?_;simp only[sB,initTm,Za,Zb,reduceCtorEq];(repeat refine qZa ?_);refine qZb ?_;simp only[sA];(repeat refine qZa ?_);refine qZb ?_;simp only[sB,Za,reduceCtorEq,hw1];(repeat refine qZa ?_);refine qZb ?_;simp (disch:=first|omega|rfl) only[sB,Za,reduceCtorEq,hw2,bQuo,hq];refine EvC.meet (fun st=>∃tm H' D',st=⟨tm,[],H'⟩/\tm.get 0=some (.slice (some ⟨b,0,none⟩) n c)/\tm.get 3=some cvB/\tm.get 8=some (.int .i64 (a:Nat))/\tm.get 9=some (.int .i64 0)/\tm.get 10=some (.int .i64 ((m+1:Nat):Int)) /\
  RowB H' 87 b n D'/\Pm a (a+(m+1)) D D'/\HpF Bnd.v a 0 (m+1) D'/\HK (·=b) H H') ?_ ?_
 ·refine qZg (qZk (fun k st=>∃tm H' D',st=⟨tm,[],H'⟩/\k<=m+1/\tm.get 0=some (.slice (some ⟨b,0,none⟩) n c)/\tm.get 3=some cvB/\tm.get 8=some (.int .i64 (a:Nat))/\tm.get 9=some (.int .i64 0)/\tm.get 10=some (.int .i64 ((m+1:Nat):Int)) /\
   tm.get 11=some (.int .i64 ((k:Nat) - 1:Int))/\RowB H' 87 b n D'/\Pm a (a+(m+1)) D D'/\HpF Bnd.v a k (m+1) D'/\HK (·=b) H H') ?_ (m / 2+1) _ ?_)
  ·rintro k st ⟨tm,H',D',rfl,hkm,t0,t3,t8,t9,t10,t11,hr',hm,hp,hk⟩;by_cases hk0:k=0
   ·subst hk0;have hd:decide (((0:Nat):Int) - 1 >= 0)=false:=rfl
    repeat' (first|refine qZa ?_|(refine qZi ?_;try simp only[sB,reduceCtorEq])|(refine qZb ?_;simp only[sB,t11,hd])|(refine qZm ?_ ?_;simp only[sB,Za];refine z01 ?_))
    exact⟨_,_,D',rfl,(by simp only[sG,reduceCtorEq,t0]),(by simp only[sG,Za,t3]),(by simp only[sG,Za,t8]),(by simp only[sG,Za,t9]),(by simp only[sG,Za,t10]),hr',hm,hp,hk⟩
   ·obtain⟨j,rfl⟩:∃j,k=j+1:=⟨k - 1,by omega⟩
    rw[show ((j+1:Nat):Int) - 1=(j:Int) by omega] at t11;have hd:decide ((j:Int) >= 0)=true:=decide_eq_true (by omega);have hw3:IntKind.i64.wrap ((j:Int) - 1)=(j:Int) - 1:=by rw[z05 (by omega) (by omega)]
    repeat' (first|refine qZa ?_|refine qZg ?_|(refine qZe ?_;try simp only[z00])|(refine qZb ?_;simp only[sB,Za,reduceCtorEq,zt8,t0,t3,t8,t10,t11,hd])|(refine qZd ?_ ?_;simp only[sB,Za];refine z01 ?_))
    refine(zhr hr' hn (by omega) (by omega) hp hk.wf).mono ?_;rintro v H2 ⟨D2,r2,m2,p2,k2⟩
    repeat' (first|(refine qZb ?_;simp only[sB,Za,t11,hw3]))
    exact⟨j,Zf _,_,_,D2,rfl,by omega,(by simp only[sG,reduceCtorEq,t0]),(by simp only[sG,Za,t3]),(by simp only[sG,Za,t8]),(by simp only[sG,Za,t9]),(by simp only[sG,Za,t10]),(by simp only[sG,Za]),r2,hm.trans m2,p2,hk.trans k2⟩
  ·exact⟨_,_,D,rfl,by omega,(by simp only[sG,reduceCtorEq]),(by simp only[sG,Za,reduceCtorEq]),(by simp only[sG,Za,reduceCtorEq]),(by simp only[sG,Za,reduceCtorEq]),(by simp only[sG,Za,reduceCtorEq]),(by simp only[sG,Za,reduceCtorEq]),hr,Pm.refl D,fun k c h1 h2 h3=>by omega,HK.refl hw⟩
 rintro st ⟨tm,H1,D1,rfl,t0,t3,t8,t9,t10,hr1,hm1,hp1,hk1⟩;(repeat refine qZa ?_);refine qZb ?_;simp only[sB,Za,t10,hw2];refine qZg (qZk (fun k st=>∃tm H' D',st=⟨tm,[],H'⟩/\k<=m+1/\tm.get 0=some (.slice (some ⟨b,0,none⟩) n c)/\tm.get 3=some cvB/\tm.get 8=some (.int .i64 (a:Nat))/\tm.get 9=some (.int .i64 0) /\
   tm.get 12=some (.int .i64 ((k:Nat) - 1:Int))/\RowB H' 87 b n D'/\Pm a (a+(m+1)) D D'/\HpF Bnd.v a 0 k D'/\InZ Bnd.v (a+k) (a+(m+1)) D'/\(∀p q,a<=p->p < a+k->a+k<=q->q < a+(m+1)->(D' p).v<=(D' q).v)/\HK (·=b) H H') ?_ (m+1) _ ?_)
 ·rintro k st ⟨tm,H',D',rfl,hkm,t0,t3,t8,t9,t12,hr',hm,hp,ho,hbd,hk⟩;by_cases hk0:k=0
  ·subst hk0;have hd:decide (((0:Nat):Int) - 1 >= 0)=false:=rfl
   repeat' (first|refine qZa ?_|(refine qZi ?_;try simp only[sB])|(refine qZb ?_;simp only[sB,t12,hd])|(refine qZm ?_ ?_;simp only[sB,Za];refine z01 ?_))
   exact z0r rfl ⟨D',hr',hm,ho,hk⟩
  ·obtain⟨j,rfl⟩:∃j,k=j+1:=⟨k - 1,by omega⟩
   rw[show ((j+1:Nat):Int) - 1=(j:Int) by omega] at t12;have hd:decide ((j:Int) >= 0)=true:=decide_eq_true (by omega);have hw3:IntKind.i64.wrap ((j:Int) - 1)=(j:Int) - 1:=by rw[z05 (by omega) (by omega)]
   have hw4:IntKind.i64.wrap ((a:Int)+(j:Int))=((a+j:Nat):Int):=by rw[z05 (by omega) (by omega)];omega
   have k1:a < n:=by omega
   have k2:a+j < n:=by omega
   have l1:=hr'.load k1;have l2:=hr'.load k2;obtain⟨cells,hg2,hl,he⟩:=hr'.row;have hbl2:=hk.wf _ _ hg2;have le1:a*7+7<=cells.length:=by have:=mul7 k1;omega
   have le2:(a+j)*7+7<=cells.length:=by have:=mul7 k2;omega
   have hsw:=fun H2 h2=>RowB.swap (H:=H') (b:=b) (T:=87) hl he k1 k2 H2 h2
   have ms:=Pm.swap (a:=a) (b:=a+(m+1)) (i:=a) (j:=a+j) (D:=D') (by omega) (by omega) (by omega) (by omega);have hdr:=hp.drop;have hps:=fun D2=>zoi (D2:=D2) hp ho hbd
   generalize hD1:swF a (a+j) D'=D1 at *;generalize hE1:D' a=E1 at *;generalize hE2:D' (a+j)=E2 at *;have le3:(a+j)*7+7<=(Hb.splice cells (a*7) E2.seven).length:=by rw[z0k (vs:=E2.seven) le1];exact le2
   repeat' (first|refine qZa ?_|refine qZg ?_|(refine qZe ?_;try simp only[z00])|(refine qZb ?_;simp only[sB,Za,reduceCtorEq,zt8,t0,t3,t8,t9,t12,hd])|(refine qZj [([(0,0),(1,0),(6,0),(7,0),(8,0),(9,0),(10,0),(11,0),(12,0),(13,0),(14,0),(15,0),(16,0)],some 17),([(2,0),(3,0),(4,0),(5,0),(18,1)],some 19),([],none)] ?_ ?_;kernel_rfl;simp (disch:=first|omega|rfl) only[sV,sD,sB,Za,Zb,one,reduceCtorEq,ia48,ld87,st87,t0,t8,t12,hw4,l1,l2,hg2,le1,le3,isAlloc,isRead])|(refine qZd ?_ ?_;simp only[sB,Za];refine z01 ?_))
   refine(zhr (lo:=0) (hsw _ (by rw[get_put,if_pos rfl])) hn (by omega) (by omega) hdr (hk.two hbl2 _ _ _).wf).mono ?_;rintro v H2 ⟨D2,r2,m2,p2,kk2⟩;obtain⟨o2,b2⟩:=hps D2 m2 (by omega)
   repeat' (first|(refine qZb ?_;simp only[sB,Za,t12,hw3]))
   exact⟨j,Zf _,_,_,D2,rfl,by omega,(by simp only[sG,reduceCtorEq,t0]),(by simp only[sG,Za,t3]),(by simp only[sG,Za,t8]),(by simp only[sG,Za,t9]),(by simp only[sG,Za]),r2,hm.trans (ms.trans (m2.wide (Ze _) (by omega))),p2,o2,b2,(hk.two hbl2 _ _ _).trans kk2⟩
 ·exact⟨_,_,D1,rfl,Ze _,(by simp only[sG,reduceCtorEq,t0]),(by simp only[sG,Za,t3]),(by simp only[sG,Za,t8]),(by simp only[sG,Za,t9]),by first|(simp only[sB,Za];rfl)|simp only[sB,Za];rw[show ((m+1:Nat):Int) - 1=(m:Int) by omega],hr1,hm1,hp1,InZ.few (by omega),fun p q h1 h2 h3 h4=>by omega,hk1⟩
set_option maxHeartbeats 4000000 in
theorem zfk {b n c a e:Nat}{D:Nat->Bnd}{H:Heap}(hr:RowB H 87 b n D) (hn:n<=bmost) (h1:a < e) (h3:e<=n) (hw:H.wf) :
  EvF Tryz.prog okT 128 [.slice (some ⟨b,0,none⟩) n c,.int .i64 (a:Nat),.int .i64 (e:Nat),cvB] H fun _ H' =>
   ∃D',RowB H' 87 b n D'/\Pm a e D D'/\HK (·=b) H H':=by
 have hms:bmost<=1048576:=by simp [bmost]
 refine EvF.enter rfl Tryz.func128 (by decide) rfl ?_;have hw1:IntKind.i64.wrap ((e:Int) - 1)=((e - 1:Nat):Int):=by rw[z05 (by omega) (by omega)];omega
 (repeat refine qZa ?_);refine qZb ?_;simp only[sB,initTm,Za,Zb,reduceCtorEq];(repeat refine qZa ?_);refine qZb ?_;simp only[sB,Za,reduceCtorEq,hw1];refine qZg (qZk (fun k st=>∃tm H' i j D',st=⟨tm,[],H'⟩/\k=j - i/\a<=i/\j < e/\tm.get 0=some (.slice (some ⟨b,0,none⟩) n c)/\tm.get 8=some (.int .i64 (i:Nat))/\tm.get 9=some (.int .i64 (j:Nat)) /\
  RowB H' 87 b n D'/\Pm a e D D'/\HK (·=b) H H') ?_ (e - 1 - a) _ ?_)
 ·rintro k st ⟨tm,H',i,j,D',rfl,rfl,hi,hj,t0,t8,t9,hr',hm,hk⟩;by_cases hlt:i < j
  ·have hw2:IntKind.i64.wrap ((i:Int)+1)=((i+1:Nat):Int):=by rw[z05 (by omega) (by omega)];omega
   have hw3:IntKind.i64.wrap ((j:Int) - 1)=((j - 1:Nat):Int):=by rw[z05 (by omega) (by omega)];omega
   have k1:i < n:=by omega
   have k2:j < n:=by omega
   have l1:=hr'.load k1;have l2:=hr'.load k2;obtain⟨cells,hg2,hl,he⟩:=hr'.row;have hbl2:=hk.wf _ _ hg2;have le1:i*7+7<=cells.length:=by have:=mul7 k1;omega
   have le2:j*7+7<=cells.length:=by have:=mul7 k2;omega
   have hsw:=fun H2 h2=>RowB.swap (H:=H') (b:=b) (T:=87) hl he k1 k2 H2 h2
   have ms:=Pm.swap (a:=a) (b:=e) (i:=i) (j:=j) (D:=D') hi (by omega) (by omega) hj;generalize hE1:D' i=E1 at *;generalize hE2:D' j=E2 at *;have le3:j*7+7<=(Hb.splice cells (i*7) E2.seven).length:=by rw[z0k (vs:=E2.seven) le1];exact le2
   repeat' (first|refine qZa ?_|refine qZg ?_|(refine qZe ?_;try simp only[z00])|(refine qZb ?_;simp only[sB,Za,t8,t9,decl hlt,hw2,hw3])|(refine qZj [([(0,0),(1,0),(4,0),(5,0),(6,0),(7,0),(8,0),(9,0),(10,0),(11,0),(12,0)],some 13),([(2,0),(3,0),(14,1)],some 15),([],none)] ?_ ?_;kernel_rfl;simp (disch:=first|omega|rfl) only[sV,sD,sB,Za,Zb,one,reduceCtorEq,ia48,ld87,st87,t0,t8,t9,l1,l2,hg2,le1,le3,isAlloc,isRead])|(refine qZd ?_ ?_;simp only[sB,Za];refine z01 ?_))
   exact⟨j - 1 - (i+1),by omega,_,_,i+1,j - 1,_,rfl,rfl,by omega,by omega,(by simp only[sG,reduceCtorEq,t0]),(by simp only[sG,Za]),(by simp only[sG,Za]),hsw _ (by rw[get_put,if_pos rfl]),hm.trans ms,hk.two hbl2 _ _ _⟩
  ·repeat' (first|refine qZa ?_|(refine qZi ?_;try simp only[sB])|(refine qZb ?_;simp only[sB,Za,t8,t9,decn hlt])|(refine qZm ?_ ?_;simp only[sB,Za];refine z01 ?_))
   exact z0r rfl ⟨D',hr',hm,hk⟩
 ·exact⟨_,_,a,e - 1,D,rfl,rfl,Ze _,by omega,(by simp only[sG,reduceCtorEq]),(by simp only[sG,Za,reduceCtorEq]),(by simp only[sG,Za,reduceCtorEq]),hr,Pm.refl D,HK.refl hw⟩
set_option maxHeartbeats 4000000 in
theorem z6w {b n c x y s w:Nat}{D:Nat->Bnd}{H:Heap}(hr:RowB H 87 b n D) (hn:n<=bmost) (h1:x < n) (h2:y < n) (hs:H.get s=some (.row [.int .i64 (w:Nat)] 3)) (hsb:s≠b) (hww:w<=1000) (hw:H.wf) :
  EvF Tryz.prog okT 169 [.slice (some ⟨b,0,none⟩) n c,.int .i64 (x:Nat),.int .i64 (y:Nat),.pointer (some ⟨s,0,none⟩),cvB] H fun v H' =>
   ∃p q w':Nat,v=.tuple ⟨[.int .i64 (p:Nat),.int .i64 (q:Nat)]⟩/\(p=x/\q=y\/p=y/\q=x)/\H'.get s=some (.row [.int .i64 (w':Nat)] 3)/\w'<=w+1/\RowB H' 87 b n D/\HK (·=s) H H':=by
 have hms:bmost<=1048576:=by simp [bmost]
 have hg:=z36;refine EvF.enter rfl Tryz.func169 (by decide) rfl ?_;have l1:=hr.load h1;have l2:=hr.load h2;have hb:=(HX.refl hw).bump 11
 repeat' (first|refine qZa ?_|(refine qZb ?_;simp only[sA,initTm,Zb])|(refine qZj [([(0,0),(1,0),(2,0),(3,0),(4,0),(5,0),(6,0),(7,0),(8,0)],some 9),([(10,1)],none)] ?_ ?_;kernel_rfl;simp (disch:=first|omega|rfl) only[sD,sB,Za,Zb,reduceCtorEq,ia48,ld87,l1,l2,z10,z0m hg,isAlloc,isRead]))
 obtain⟨cells0,hg0,-,-⟩:=hr.row;have hbl:=hw _ _ hg0;have hsl:=hw _ _ hs;refine(z27 hb.wf).mono ?_;rintro v H2 ⟨rfl,hx2⟩;have hx:=hb.trans hx2;have r2:=hr.heap (H':=H2) (hx.keep b hbl);have s2:=hx.get hw hs;have ls:H2.load ⟨s,0,none⟩ 1=some [.int .i64 (w:Nat)]:=by simp only[Heap.load,Heap.cells,s2];rfl
 by_cases hc:(D y).v < (D x).v
 ·have hw1:IntKind.i64.wrap ((w:Int)+1)=((w+1:Nat):Int):=by rw[z05 (by omega) (by omega)];omega
  repeat' (first|refine qZa ?_|(refine qZf ?_;try simp only[z04,z02])|(refine qZb ?_;simp (disch:=first|omega|rfl) only[sB,Za,one,reduceCtorEq,ld3,st3,z26,z6d,ls,s2,hw1])|(refine z0p ?_;simp only[sD,sB,Za,reduceCtorEq,cz_t hc,isAlloc,isRead])|(refine qZd ?_ ?_;simp only[sB,Za,reduceCtorEq];refine z01 ?_))
  exact z0j rfl (by simp only[sG,Za,reduceCtorEq]) (by simp only[sG,Za,reduceCtorEq]) ⟨y,x,w+1,rfl,.inr ⟨rfl,rfl⟩,by rw[get_put,if_pos rfl],Ze _,r2.heap (by rw[get_put,if_neg (fun q=>hsb q.symm)]),(hx.hk (fun x=>x=s)).put (.inl rfl) (Zo hsl hx.next) _⟩
 ·repeat' (first|refine qZa ?_|(refine qZe ?_;try simp only[z00])|(refine qZf ?_)|(refine qZb ?_;simp only[sB,Za,reduceCtorEq])|(refine z0p ?_;simp only[sD,sB,Za,reduceCtorEq,cz_f hc,isAlloc,isRead])|(refine qZm ?_ ?_;simp only[sB,Za,reduceCtorEq];refine z01 ?_))
  exact z0j rfl (by simp only[sG,Za,reduceCtorEq]) (by simp only[sG,Za,reduceCtorEq]) ⟨x,y,w,rfl,.inl ⟨rfl,rfl⟩,s2,by omega,r2,hx.hk _⟩
set_option maxHeartbeats 4000000 in
theorem zaf {b n c x y z s w:Nat}{D:Nat->Bnd}{H:Heap}(hr:RowB H 87 b n D) (hn:n<=bmost) (h1:x < n) (h2:y < n) (h3:z < n) (hs:H.get s=some (.row [.int .i64 (w:Nat)] 3)) (hsb:s≠b) (hww:w<=900) (hw:H.wf) :
  EvF Tryz.prog okT 155 [.slice (some ⟨b,0,none⟩) n c,.int .i64 (x:Nat),.int .i64 (y:Nat),.int .i64 (z:Nat),.pointer (some ⟨s,0,none⟩),cvB] H fun v H' =>
   ∃p w':Nat,v=.int .i64 (p:Nat)/\(p=x\/p=y\/p=z)/\H'.get s=some (.row [.int .i64 (w':Nat)] 3)/\w'<=w+3/\RowB H' 87 b n D/\HK (·=s) H H':=by
 refine EvF.enter rfl Tryz.func155 (by decide) rfl ?_
 repeat' (first|refine qZa ?_|(refine qZb ?_;simp only[sB,initTm,Za,Zb,reduceCtorEq,zqu]))
 refine(z6w hr hn h1 h2 hs hsb (by omega) hw).mono ?_;rintro v H1 ⟨p1,q1,w1,rfl,o1,s1,u1,r1,k1⟩;have p1n:p1 < n:=by omega
 have q1n:q1 < n:=by omega
 repeat' (first|refine qZa ?_|(refine qZb ?_;simp only[sB,Za,reduceCtorEq,zqu])|(refine z0f ?_;simp only[sB,Za,reduceCtorEq]))
 refine(z6w r1 hn q1n h3 s1 hsb (by omega) k1.wf).mono ?_;rintro v H2 ⟨p2,q2,w2,rfl,o2,s2,u2,r2,k2⟩;have p2n:p2 < n:=by omega
 repeat' (first|refine qZa ?_|(refine qZb ?_;simp only[sB,Za,reduceCtorEq,zqu])|(refine z0f ?_;simp only[sB,Za,reduceCtorEq]))
 refine(z6w r2 hn p1n p2n s2 hsb (by omega) k2.wf).mono ?_;rintro v H3 ⟨p3,q3,w3,rfl,o3,s3,u3,r3,k3⟩
 repeat' (first|refine qZa ?_|(refine qZf ?_)|(refine qZb ?_;simp only[sB,Za,reduceCtorEq])|(refine z0f ?_;simp only[sB,Za,reduceCtorEq]))
 exact z03 rfl (by simp only[sG,Za,reduceCtorEq]) ⟨q3,w3,rfl,by omega,s3,by omega,r3,k1.trans (k2.trans k3)⟩
set_option maxHeartbeats 4000000 in
theorem z4c {b n c x s w:Nat}{D:Nat->Bnd}{H:Heap}(hr:RowB H 87 b n D) (hn:n<=bmost) (h0:0 < x) (h1:x+1 < n) (hs:H.get s=some (.row [.int .i64 (w:Nat)] 3)) (hsb:s≠b) (hww:w<=900) (hw:H.wf) :
  EvF Tryz.prog okT 154 [.slice (some ⟨b,0,none⟩) n c,.int .i64 (x:Nat),.pointer (some ⟨s,0,none⟩),cvB] H fun v H' =>
   ∃p w':Nat,v=.int .i64 (p:Nat)/\(x<=p+1/\p<=x+1)/\H'.get s=some (.row [.int .i64 (w':Nat)] 3)/\w'<=w+3/\RowB H' 87 b n D/\HK (·=s) H H':=by
 have hms:bmost<=1048576:=by simp [bmost]
 refine EvF.enter rfl Tryz.func154 (by decide) rfl ?_;have hw1:IntKind.i64.wrap ((x:Int) - 1)=((x - 1:Nat):Int):=by rw[z05 (by omega) (by omega)];omega
 have hw2:IntKind.i64.wrap ((x:Int)+1)=((x+1:Nat):Int):=by rw[z05 (by omega) (by omega)];omega
 repeat' (first|refine qZa ?_|(refine qZb ?_;simp only[sB,initTm,Za,Zb,reduceCtorEq,zt9,hw1,hw2]))
 refine(zaf hr hn (by omega) (by omega) h1 hs hsb hww hw).mono ?_;rintro v H1 ⟨p1,w1,rfl,o1,s1,u1,r1,k1⟩
 repeat' (first|(refine qZf ?_))
 exact z03 rfl (by simp only[sG,Za,reduceCtorEq]) ⟨p1,w1,rfl,by omega,s1,u1,r1,k1⟩
set_option maxHeartbeats 8000000 in
theorem zmr {b n c a e:Nat}{D:Nat->Bnd}{H:Heap}(hr:RowB H 87 b n D) (hn:n<=bmost) (h1:a+12 < e) (h3:e<=n) (hw:H.wf) :
  EvF Tryz.prog okT 127 [.slice (some ⟨b,0,none⟩) n c,.int .i64 (a:Nat),.int .i64 (e:Nat),cvB] H fun v H' =>
   ∃p:Nat,∃h:Int,v=.tuple ⟨[.int .i64 (p:Nat),.int .i64 h]⟩/\a<=p/\p < e/\HX H H':=by
 have hms:bmost<=1048576:=by simp [bmost]
 refine EvF.enter rfl Tryz.func127 (by decide) rfl ?_;obtain⟨cells0,hg0,-,-⟩:=hr.row;have hbl:=hw _ _ hg0;have hwl:IntKind.i64.wrap ((e:Int) - (a:Int))=((e - a:Nat):Int):=by rw[z05 (by omega) (by omega)];omega
 generalize hl:e - a=l at *;have hq:IntKind.i64.wrap (((l:Nat):Int).tdiv 4)=((l / 4:Nat):Int):=by rw[Int.tdiv_eq_ediv_of_nonneg (by omega),z05 (by omega) (by omega)];omega
 have m1:IntKind.i64.wrap (((l / 4:Nat):Int)*1)=((l / 4:Nat):Int):=by rw[z05 (by omega) (by omega)];omega
 have m2:IntKind.i64.wrap (((l / 4:Nat):Int)*2)=((l / 4*2:Nat):Int):=by rw[z05 (by omega) (by omega)];omega
 have m3:IntKind.i64.wrap (((l / 4:Nat):Int)*3)=((l / 4*3:Nat):Int):=by rw[z05 (by omega) (by omega)];omega
 have a1:IntKind.i64.wrap ((a:Int)+((l / 4:Nat):Int))=((a+l / 4:Nat):Int):=by rw[z05 (by omega) (by omega)];omega
 have a2:IntKind.i64.wrap ((a:Int)+((l / 4*2:Nat):Int))=((a+l / 4*2:Nat):Int):=by rw[z05 (by omega) (by omega)];omega
 have a3:IntKind.i64.wrap ((a:Int)+((l / 4*3:Nat):Int))=((a+l / 4*3:Nat):Int):=by rw[z05 (by omega) (by omega)];omega
 have d8:decide (((l:Nat):Int) >= 8)=true:=decide_eq_true (by omega);have b1:0 < a+l / 4/\a+l / 4+1 < n:=by omega
 have b2:0 < a+l / 4*2/\a+l / 4*2+1 < n:=by omega
 have b3:0 < a+l / 4*3/\a+l / 4*3+1 < n:=by omega
 have c1:a+1<=a+l / 4/\a+l / 4+1 < e:=by omega
 have c2:a+1<=a+l / 4*2/\a+l / 4*2+1 < e:=by omega
 have c3:a+1<=a+l / 4*3/\a+l / 4*3+1 < e:=by omega
 generalize a+l / 4=i1 at *;generalize a+l / 4*2=i2 at *;generalize a+l / 4*3=i3 at *;(repeat refine qZa ?_);refine qZb ?_;simp only[sA,initTm,Zb];(repeat refine qZa ?_);refine qZb ?_;simp only[sB,Za,reduceCtorEq,hwl];(repeat refine qZa ?_);refine qZb ?_;simp only[sA,dAlloc,zr3];obtain⟨H1,e1,hx1,g1,hn1,hw1⟩:=new1 hw (.row [.int .i64 0] 3);simp only[e1];clear e1;have r1:=hr.heap (hx1.keep b hbl);(repeat refine qZa ?_);refine qZb ?_;simp (disch:=first|omega|rfl) only[sB,Za,reduceCtorEq,hq,bQuo,m1,a1];(repeat refine qZa ?_);refine qZb ?_;simp (disch:=first|omega|rfl) only[sB,Za,reduceCtorEq,hq,bQuo,m2,a2];(repeat refine qZa ?_);refine qZb ?_;simp (disch:=first|omega|rfl) only[sB,Za,reduceCtorEq,hq,bQuo,m3,a3];(repeat refine qZa ?_);refine qZb ?_;simp only[sB,Za,reduceCtorEq,d8];have hsb:H.next≠b:=by omega
 refine EvC.meet (fun st=>∃(tm:Tr Value) (H':Heap) (p w:Nat),st=⟨tm,[],H'⟩/\a<=p/\p < e/\tm.get 13=some (.int .i64 (p:Nat))/\tm.get 11=some (.pointer (some ⟨H.next,0,none⟩))/\H'.get H.next=some (.row [.int .i64 (w:Nat)] 3)/\HX H H') ?_ ?_
 ·refine qZd (by simp only[sB,Za,reduceCtorEq]) ?_;(try refine qZe ?_);(try simp only[z00,z0b]);refine EvC.cut (fun st=>∃(tm:Tr Value) (H':Heap) (p q r w:Nat),st=⟨tm,[],H'⟩/\(a<=p/\p < e)/\(a<=q/\q < e)/\(a<=r/\r < e)/\w<=9/\tm.get 0=some (.slice (some ⟨b,0,none⟩) n c)/\tm.get 3=some cvB/\tm.get 12=some (.int .i64 (p:Nat))/\tm.get 13=some (.int .i64 (q:Nat))/\tm.get 14=some (.int .i64 (r:Nat)) /\
   tm.get 11=some (.pointer (some ⟨H.next,0,none⟩))/\H'.get H.next=some (.row [.int .i64 (w:Nat)] 3)/\RowB H' 87 b n D/\HK (·=H.next) H1 H') ?_ ?_
  ·by_cases h50:50<=l
   ·have d50:decide (((l:Nat):Int) >= 50)=true:=decide_eq_true (by omega)
    repeat' (first|refine qZa ?_|(refine qZb ?_;simp only[sB,Za,reduceCtorEq,zqt,d50])|(refine qZd ?_ ?_;simp only[sB,Za,reduceCtorEq];refine z01 ?_))
    refine(z4c r1 hn b1.1 b1.2 (w:=0) g1 hsb (by omega) hw1).mono ?_;rintro v H2 ⟨p2,w2,rfl,o2,g2,u2,r2,k2⟩
    repeat' (first|refine qZa ?_|(refine qZb ?_;simp only[sB,Za,reduceCtorEq,zqt]))
    refine(z4c r2 hn b2.1 b2.2 g2 hsb (by omega) k2.wf).mono ?_;rintro v H3 ⟨p3,w3,rfl,o3,g3,u3,r3,k3⟩
    repeat' (first|(refine qZb ?_;simp only[sB,Za,reduceCtorEq,zqt]))
    refine(z4c r3 hn b3.1 b3.2 g3 hsb (by omega) k3.wf).mono ?_;rintro v H4 ⟨p4,w4,rfl,o4,g4,u4,r4,k4⟩
    skip
    exact⟨_,_,p2,p3,p4,w4,rfl,by omega,by omega,by omega,by omega,(by simp only[sG,reduceCtorEq]),(by simp only[sG,Za,reduceCtorEq]),(by simp only[sG,Za,reduceCtorEq]),(by simp only[sG,Za,reduceCtorEq]),(by simp only[sG,Za,reduceCtorEq]),(by simp only[sG,Za,reduceCtorEq]),g4,r4,k2.trans (k3.trans k4)⟩
   ·have d50:decide (((l:Nat):Int) >= 50)=false:=decide_eq_false (by omega)
    repeat' (first|refine qZa ?_|(refine qZe ?_;try simp only[true_and])|(refine qZb ?_;simp only[sB,Za,reduceCtorEq,d50])|(refine qZm ?_ ?_;simp only[sB,Za,reduceCtorEq];refine z01 ?_))
    exact⟨_,_,i1,i2,i3,0,rfl,by omega,by omega,by omega,by omega,(by simp only[sG,reduceCtorEq]),(by simp only[sG,Za,reduceCtorEq]),(by simp only[sG,Za,reduceCtorEq]),(by simp only[sG,Za,reduceCtorEq]),(by simp only[sG,Za,reduceCtorEq]),(by simp only[sG,Za,reduceCtorEq]),g1,r1,HK.refl hw1⟩
  ·rintro st ⟨tm,H2,p,q,r,w,rfl,hp,hq2,hr3,hw9,t0,t3,t12,t13,t14,t11,g2,r2,k2⟩
   repeat' (first|(refine qZb ?_;simp only[sB,Za,zt9,t0,t3,t11,t12,t13,t14]))
   refine(zaf r2 hn (by omega) (by omega) (by omega) g2 hsb (by omega) k2.wf).mono ?_;rintro v H3 ⟨p3,w3,rfl,o3,g3,u3,r3,k3⟩
   skip
   exact⟨_,_,p3,w3,rfl,by omega,by omega,(by simp only[sG,Za]),(by simp only[sG,Za,t11]),g3,(hx1.then (k2.trans k3) fun m hm=>by omega)⟩
 ·rintro st ⟨tm,H2,p,w,rfl,hp1,hp2,t13,t11,g2,hx2⟩;have ls:H2.load ⟨H.next,0,none⟩ 1=some [.int .i64 (w:Nat)]:=by simp only[Heap.load,Heap.cells,g2];rfl
  (repeat refine qZa ?_);refine qZb ?_;simp only[sA,ld3,t11,ls];by_cases w0:w=0
  ·have:((w:Int) == 0)=true:=by rw[w0];rfl
   repeat' (first|refine qZa ?_|refine qZg ?_|(refine qZf ?_;try simp only[z04,z02])|(refine qZb ?_;simp only[sB,Za,t13,this])|(refine qZd ?_ ?_;simp only[sB,Za];refine z01 ?_))
   exact z0j rfl (by simp only[sG,Za]) (by simp only[sB,Za];rfl) ⟨p,_,rfl,hp1,hp2,hx2⟩
  ·have d0:((w:Int) == 0)=false:=z0h (by omega);by_cases w12:w=12
   ·have:((w:Int) == 12)=true:=by rw[w12];rfl
    repeat' (first|refine qZa ?_|refine qZg ?_|(refine qZf ?_;try simp only[z04,z02])|(refine qZb ?_;simp only[sB,Za,t13,d0,this])|(refine qZd ?_ ?_;simp only[sB,Za];refine z01 ?_)|(refine qZm ?_ ?_;simp only[sB,Za];refine z01 ?_))
    exact z0j rfl (by simp only[sG,Za]) (by simp only[sB,Za];rfl) ⟨p,_,rfl,hp1,hp2,hx2⟩
   ·have d1:((w:Int) == 12)=false:=z0h (by omega)
    repeat' (first|refine qZa ?_|refine qZg ?_|(refine qZf ?_;try simp only[z04,z02])|(refine qZb ?_;simp only[sB,Za,t13,d0,d1])|(refine qZm ?_ ?_;simp only[sB,Za];refine z01 ?_))
    exact z0j rfl (by simp only[sG,Za]) (by simp only[sB,Za];rfl) ⟨p,_,rfl,hp1,hp2,hx2⟩
end Go.Proofs.hq
end

section
namespace Go.Hb
theorem zag {α:Type}{i j:Nat}{D:Nat->α}:swF i j D i=D j:=by unfold swF;rw[if_pos rfl]
theorem zhs {α:Type}{i j:Nat}{D:Nat->α}:swF i j D j=D i:=by
 unfold swF;by_cases h:j=i
 ·rw[if_pos h,h]
 ·rw[if_neg h,if_pos rfl]
theorem ze2 {α:Type}{i j k:Nat}{D:Nat->α}(h1:k≠i) (h2:k≠j):swF i j D k=D k:=by unfold swF;rw[if_neg h1,if_neg h2]
end Go.Hb
namespace Go.Proofs.hq
open Go Go.RowKit Go.Hb
variable {ok:Ok}
set_option maxRecDepth 10000
attribute [local irreducible] LX LG EL STG SOP SGO SGD SAL SRD SEF SEG SLK SCK ES
set_option maxHeartbeats 16000000 in
theorem zje {b n c a e p:Nat}{D:Nat->Bnd}{H:Heap}(hr:RowB H 87 b n D) (hn:n<=bmost) (hap:a<=p) (hpe:p < e) (h3:e<=n) (hw:H.wf) :
  EvF Tryz.prog okT 130 [.slice (some ⟨b,0,none⟩) n c,.int .i64 (a:Nat),.int .i64 (e:Nat),.int .i64 (p:Nat),cvB] H fun v H' =>
   ∃(m:Nat) (D':Nat->Bnd),v=.int .i64 (m:Nat)/\a+1<=m/\m<=e/\RowB H' 87 b n D'/\Pm a e D D'/\(∀k,a<=k->k < m->(D' k).v<=(D p).v)/\(∀k,m<=k->k < e->(D p).v < (D' k).v)/\HK (·=b) H H':=by
 have hms:bmost<=1048576:=by simp [bmost]
 have hg:=z36;have hk:=HK.refl (S:=(·=b)) hw;refine EvF.enter rfl Tryz.func130 (by decide) rfl ?_;have hw1:IntKind.i64.wrap ((a:Int)+1)=((a+1:Nat):Int):=by rw[z05 (by omega) (by omega)];omega
 have hw2:IntKind.i64.wrap ((e:Int) - 1)=((e - 1:Nat):Int):=by rw[z05 (by omega) (by omega)];omega
 have k1:a < n:=by omega
 have k2:p < n:=by omega
 have l1:=hr.load k1;have l2:=hr.load k2;obtain⟨cells,hg2,hl,he⟩:=hr.row;have hbl2:=hk.wf _ _ hg2;have le1:a*7+7<=cells.length:=by have:=mul7 k1;omega
 have le2:p*7+7<=cells.length:=by have:=mul7 k2;omega
 have hsw:=fun H1 h2=>RowB.swap (H:=H) (b:=b) (T:=87) hl he k1 k2 H1 h2
 have ms:=Pm.swap (a:=a) (b:=e) (i:=a) (j:=p) (D:=D) (by omega) (by omega) (by omega) (by omega);have ha:swF a p D a=D p:=zag;generalize hE1:D a=E1 at hl he hsw l1 l2 ha;generalize hE2:D p=E2 at hl he hsw l1 l2 ha;have le3:p*7+7<=(Hb.splice cells (a*7) E2.seven).length:=by rw[z0k (vs:=E2.seven) le1];exact le2
 (repeat refine qZa ?_);refine qZb ?_;simp only[sA,initTm,Zb];refine EvC.cut (fun st=>∃tm H1,st=⟨tm,[],H1⟩/\tm.get 0=some (.slice (some ⟨b,0,none⟩) n c)/\tm.get 1=some (.int .i64 (a:Nat))/\tm.get 4=some cvB/\tm.get 2=some (.int .i64 (e:Nat))/\RowB H1 87 b n (swF a p D)/\HK (·=b) H H1) ?_ ?_
 ·repeat' (first|(refine qZj (id:=1) [([(0,0),(1,0),(4,0),(5,0),(6,0),(7,0),(8,0),(9,0),(10,0),(11,0),(12,0)],some 13),([(2,0),(3,0),(14,1)],some 15),([],none)] ?_ ?_;kernel_rfl;simp (disch:=first|omega|rfl) only[sV,sD,sB,Za,Zb,one,reduceCtorEq,ia48,ld87,st87,l1,l2,hg2,le1,le3,isAlloc,isRead]))
  exact⟨_,_,rfl,(by simp only[sG,reduceCtorEq]),(by simp only[sG,Za,reduceCtorEq]),(by simp only[sG,Za,reduceCtorEq]),(by simp only[sG,Za,reduceCtorEq]),hsw _ (by rw[get_put,if_pos rfl]),hk.two hbl2 _ _ _⟩
 rintro st ⟨tm,H1,rfl,t0,t1,t4,t2,r1,hk1⟩;(repeat refine qZa ?_);refine qZb ?_;simp only[sB,Za,t1,t2,hw1,hw2];clear hsw l1 l2 hl he hg2 le1 le2 le3 k1 k2 hE1 hE2;generalize hDD:swF a p D=D1 at *;(repeat refine qZa ?_);refine qZg (qZk (fun k st=>∃tm H' i j D',st=⟨tm,[],H'⟩/\k=j+1 - i/\a+1<=i/\i<=j+1/\j < e/\(∀k,a+1<=k->k < i->¬(D1 a).v < (D' k).v)/\(∀k,j < k->k < e->(D1 a).v < (D' k).v)/\D' a=D1 a/\tm.get 0=some (.slice (some ⟨b,0,none⟩) n c)/\tm.get 1=some (.int .i64 (a:Nat))/\tm.get 4=some cvB/\tm.get 11=some (.int .i64 (i:Nat))/\tm.get 12=some (.int .i64 (j:Nat))/\RowB H' 87 b n D'/\Pm a e D D'/\HK (·=b) H H') ?_ (e - 1+1 - (a+1)) _ ?_)
 ·rintro k st ⟨tm,H0,i0,j0,D2,rfl,rfl,hi1,hij0,hje,hlo,hhi,haa,t0,t1,t4,ti,tj,hr0,hm,hk0⟩;(repeat refine qZa ?_);refine qZg ?_;refine EvC.cut (fun st=>∃tm H' i,st=⟨tm,[],H'⟩/\i0<=i/\i<=j0+1/\(∀k,i0<=k->k < i->¬(D2 a).v < (D2 k).v)/\(i<=j0->¬(¬(D2 a).v < (D2 i).v))/\tm.get 0=some (.slice (some ⟨b,0,none⟩) n c)/\tm.get 1=some (.int .i64 (a:Nat))/\tm.get 4=some cvB/\tm.get 11=some (.int .i64 (i:Nat))/\tm.get 12=some (.int .i64 (j0:Nat))/\RowB H' 87 b n D2/\HK (·=b) H H') ?_ ?_
  ·refine qZg (qZk (fun k st=>∃tm H' i,st=⟨tm,[],H'⟩/\k=j0+1 - i/\i0<=i/\i<=j0+1/\(∀k,i0<=k->k < i->¬(D2 a).v < (D2 k).v)/\tm.get 0=some (.slice (some ⟨b,0,none⟩) n c)/\tm.get 1=some (.int .i64 (a:Nat))/\tm.get 4=some cvB/\tm.get 11=some (.int .i64 (i:Nat))/\tm.get 12=some (.int .i64 (j0:Nat))/\RowB H' 87 b n D2/\HK (·=b) H H') ?_ (j0+1 - i0) _ ?_)
   ·rintro k st ⟨tm,H',i,rfl,rfl,hi0,hij,hpa,t0,t1,t4,ti,tj,hr',hk'⟩;by_cases hle:i<=j0
    ·have hd:decide (((i:Nat):Int)<=((j0:Nat):Int))=true:=decide_eq_true (by omega);have hwv:IntKind.i64.wrap ((i:Int)+1)=((i+1:Nat):Int):=by rw[z05 (by omega) (by omega)];omega
     have k1:i < n:=by omega
     have k2:a < n:=by omega
     have l1:=hr'.load k1;have l2:=hr'.load k2;have hb:=hk'.bump 17
     repeat' (first|refine qZa ?_|(refine qZj (id:=3) [([(0,0),(1,0),(2,0),(3,0),(4,0),(5,0),(6,0),(7,0),(8,0),(9,0),(10,0),(11,0),(12,0)],some 13),([(14,1),(15,1),(16,1)],none)] ?_ ?_;kernel_rfl;simp (disch:=first|omega|rfl) only[sD,sB,Za,Zb,reduceCtorEq,ia48,ld87,t0,t1,t4,ti,tj,hd,l1,l2,z10,z0m hg,isAlloc,isRead]))
     obtain⟨cells0,hg0,-,-⟩:=hr'.row;have hbl:=hk'.wf _ _ hg0;refine(z27 hb.wf).mono ?_;rintro v H2 ⟨rfl,hx2⟩;have hk2:=hb.hxs hx2;have r2:=hr'.heap (H':=H2) (by rw[hx2.keep b (ZQ _ hbl)];rfl);by_cases hc:(D2 a).v < (D2 i).v
     ·repeat' (first|(refine qZi ?_;try simp only[sB,reduceCtorEq])|(refine z0p ?_;simp only[sD,sB,Za,cz_t hc,Zn,isAlloc,isRead])|(refine qZm ?_ ?_;simp only[sB,Za];refine z01 ?_))
      exact⟨_,_,i,rfl,hi0,hij,hpa,fun _=>by omega,(by simp only[sG,reduceCtorEq,t0]),(by simp only[sG,Za,t1]),(by simp only[sG,Za,t4]),(by simp only[sG,Za,ti]),(by simp only[sG,Za,tj]),r2,hk2⟩
     ·repeat' (first|refine qZg ?_|(refine qZe ?_;try simp only[z00])|(refine qZb ?_;simp only[sB,Za,ti,hwv])|(refine z0p ?_;simp only[sD,sB,Za,cz_f hc,Zw,isAlloc,isRead])|(refine qZd ?_ ?_;simp only[sB,Za];refine z01 ?_))
      exact⟨j0+1 - (i+1),by omega,_,_,i+1,rfl,rfl,by omega,by omega,fun k q1 q2=>by
       by_cases e:k=i
       ·subst e;omega
       ·exact hpa k q1 (by omega),(by simp only[sG,reduceCtorEq,t0]),(by simp only[sG,Za,t1]),(by simp only[sG,Za,t4]),(by simp only[sG,Za]),(by simp only[sG,Za,tj]),r2,hk2⟩
    ·have hd:decide (((i:Nat):Int)<=((j0:Nat):Int))=false:=decide_eq_false (by omega)
     repeat' (first|refine qZa ?_|(refine qZi ?_;try simp only[sB,reduceCtorEq])|(refine qZj (id:=3) [([(0,0),(1,0),(2,0),(3,0),(4,0),(5,0),(6,0),(7,0),(8,0),(9,0),(10,0),(11,0),(12,0)],some 13),([(14,1),(15,1),(16,1)],none)] ?_ ?_;kernel_rfl;simp only[sD,sB,Za,Zb,ti,tj,hd,Zd,isAlloc,isRead])|(refine qZm ?_ ?_;simp only[sB,Za];refine z01 ?_))
     exact⟨_,_,i,rfl,hi0,hij,hpa,fun h=>absurd h hle,(by simp only[sG,reduceCtorEq,t0]),(by simp only[sG,Za,t1]),(by simp only[sG,Za,t4]),(by simp only[sG,Za,ti]),(by simp only[sG,Za,tj]),hr'.heap rfl,hk'.bump _⟩
   ·exact⟨_,_,i0,rfl,rfl,Ze _,by omega,fun k q1 q2=>by omega,(by simp only[t0]),(by simp only[t1]),(by simp only[t4]),(by simp only[ti]),(by simp only[tj]),hr0,hk0⟩
  rintro st ⟨tm,H3,i,rfl,hi2,hi3,hi4,hi5,t0,t1,t4,ti,tj,hr3,hk3⟩;refine EvC.cut (fun st=>∃tm H' j,st=⟨tm,[],H'⟩/\j<=j0/\i<=j+1/\(∀k,j < k->k<=j0->(D2 a).v < (D2 k).v)/\(i<=j->¬((D2 a).v < (D2 j).v))/\tm.get 0=some (.slice (some ⟨b,0,none⟩) n c)/\tm.get 1=some (.int .i64 (a:Nat))/\tm.get 4=some cvB/\tm.get 11=some (.int .i64 (i:Nat))/\tm.get 12=some (.int .i64 (j:Nat))/\RowB H' 87 b n D2/\HK (·=b) H H') ?_ ?_
  ·refine qZg (qZk (fun k st=>∃tm H' j,st=⟨tm,[],H'⟩/\k=j+1 - i/\j<=j0/\i<=j+1/\(∀k,j < k->k<=j0->(D2 a).v < (D2 k).v)/\tm.get 0=some (.slice (some ⟨b,0,none⟩) n c)/\tm.get 1=some (.int .i64 (a:Nat))/\tm.get 4=some cvB/\tm.get 11=some (.int .i64 (i:Nat))/\tm.get 12=some (.int .i64 (j:Nat))/\RowB H' 87 b n D2/\HK (·=b) H H') ?_ (j0+1 - i) _ ?_)
   ·rintro k st ⟨tm,H',j,rfl,rfl,hj0,hij,hpa,t0,t1,t4,ti,tj,hr',hk'⟩;by_cases hle:i<=j
    ·have hd:decide (((i:Nat):Int)<=((j:Nat):Int))=true:=decide_eq_true (by omega);have hwv:IntKind.i64.wrap ((j:Int) - 1)=((j - 1:Nat):Int):=by rw[z05 (by omega) (by omega)];omega
     have k1:j < n:=by omega
     have k2:a < n:=by omega
     have l1:=hr'.load k1;have l2:=hr'.load k2;have hb:=hk'.bump 16
     repeat' (first|refine qZa ?_|(refine qZj (id:=5) [([(0,0),(1,0),(2,0),(3,0),(4,0),(5,0),(6,0),(7,0),(8,0),(9,0),(10,0),(11,0),(12,0)],some 13),([(14,1),(15,1)],none)] ?_ ?_;kernel_rfl;simp (disch:=first|omega|rfl) only[sD,sB,Za,Zb,reduceCtorEq,ia48,ld87,t0,t1,t4,ti,tj,hd,l1,l2,z10,z0m hg,isAlloc,isRead]))
     obtain⟨cells0,hg0,-,-⟩:=hr'.row;have hbl:=hk'.wf _ _ hg0;refine(z27 hb.wf).mono ?_;rintro v H2 ⟨rfl,hx2⟩;have hk2:=hb.hxs hx2;have r2:=hr'.heap (H':=H2) (by rw[hx2.keep b (ZQ _ hbl)];rfl);by_cases hc:(D2 a).v < (D2 j).v
     ·repeat' (first|refine qZg ?_|(refine qZe ?_;try simp only[z00])|(refine qZb ?_;simp only[sB,Za,tj,hwv])|(refine z0p ?_;simp only[sD,sB,Za,cz_t hc,isAlloc,isRead])|(refine qZd ?_ ?_;simp only[sB,Za];refine z01 ?_))
      exact⟨j - 1+1 - i,by omega,_,_,j - 1,rfl,rfl,by omega,by omega,fun k q1 q2=>by
       by_cases e:k=j
       ·subst e;omega
       ·exact hpa k (by omega) q2,(by simp only[sG,reduceCtorEq,t0]),(by simp only[sG,Za,t1]),(by simp only[sG,Za,t4]),(by simp only[sG,Za,ti]),(by simp only[sG,Za]),r2,hk2⟩
     ·repeat' (first|(refine qZi ?_;try simp only[sB,reduceCtorEq])|(refine z0p ?_;simp only[sD,sB,Za,cz_f hc,isAlloc,isRead])|(refine qZm ?_ ?_;simp only[sB,Za];refine z01 ?_))
      exact⟨_,_,j,rfl,hj0,hij,hpa,fun _=>by omega,(by simp only[sG,reduceCtorEq,t0]),(by simp only[sG,Za,t1]),(by simp only[sG,Za,t4]),(by simp only[sG,Za,ti]),(by simp only[sG,Za,tj]),r2,hk2⟩
    ·have hd:decide (((i:Nat):Int)<=((j:Nat):Int))=false:=decide_eq_false (by omega)
     repeat' (first|refine qZa ?_|(refine qZi ?_;try simp only[sB,reduceCtorEq])|(refine qZj (id:=5) [([(0,0),(1,0),(2,0),(3,0),(4,0),(5,0),(6,0),(7,0),(8,0),(9,0),(10,0),(11,0),(12,0)],some 13),([(14,1),(15,1)],none)] ?_ ?_;kernel_rfl;simp only[sD,sB,Za,Zb,ti,tj,hd,Zd,isAlloc,isRead])|(refine qZm ?_ ?_;simp only[sB,Za];refine z01 ?_))
     exact⟨_,_,j,rfl,hj0,hij,hpa,fun h=>absurd h hle,(by simp only[sG,reduceCtorEq,t0]),(by simp only[sG,Za,t1]),(by simp only[sG,Za,t4]),(by simp only[sG,Za,ti]),(by simp only[sG,Za,tj]),hr'.heap rfl,hk'.bump _⟩
   ·exact⟨_,_,j0,rfl,rfl,Ze _,by omega,fun k q1 q2=>by omega,(by simp only[t0]),(by simp only[t1]),(by simp only[t4]),(by simp only[ti]),(by simp only[tj]),hr3,hk3⟩
  rintro st ⟨tm,H4,j,rfl,hj2,hj3,hj4,hj5,t0,t1,t4,ti,tj,hr4,hk4⟩;have lo2:∀k,a+1<=k->k < i->¬(D2 a).v < (D2 k).v:=fun k q1 q2=>by
   by_cases q:k < i0
   ·rw[haa];exact hlo k q1 q
   ·exact hi4 k (by omega) q2
  have hi2':∀k,j < k->k < e->(D2 a).v < (D2 k).v:=fun k q1 q2=>by
   by_cases q:j0 < k
   ·rw[haa];exact hhi k q q2
   ·exact hj4 k q1 (by omega)
  by_cases hgt:j < i
  ·repeat' (first|refine qZa ?_|(refine qZi ?_;try simp only[sB,reduceCtorEq])|(refine qZf ?_)|(refine qZb ?_;simp only[sB,Za,ti,tj,gtl hgt])|(refine qZd ?_ ?_;simp only[sB,Za];refine z01 ?_))
   have hji:j+1=i:=by omega
   exact z03 rfl (by simp only[sG,Za]) ⟨i,D2,rfl,by omega,by omega,hr4,hm,fun k q1 q2=>by
    rw[<-ha,<-haa];by_cases q:k=a
    ·subst q;exact Int.le_refl _
    ·have:=lo2 k (by omega) q2;omega,fun k q1 q2=>by rw[<-ha,<-haa];exact hi2' k (by omega) q2,hk4⟩
  ·have hn1:=hi5 (by omega);have hn2:=hj5 (by omega);have hne:i < j:=by
    rcases Nat.lt_or_ge i j with q|q
    ·exact q
    ·exfalso;have:i=j:=by omega
     subst this;exact hn1 hn2
   have hw3:IntKind.i64.wrap ((i:Int)+1)=((i+1:Nat):Int):=by rw[z05 (by omega) (by omega)];omega
   have hw4:IntKind.i64.wrap ((j:Int) - 1)=((j - 1:Nat):Int):=by rw[z05 (by omega) (by omega)];omega
   have k1:i < n:=by omega
   have k2:j < n:=by omega
   have l1:=hr4.load k1;have l2:=hr4.load k2;obtain⟨cells,hg2,hl,he⟩:=hr4.row;have hbl2:=hk4.wf _ _ hg2;have le1:i*7+7<=cells.length:=by have:=mul7 k1;omega
   have le2:j*7+7<=cells.length:=by have:=mul7 k2;omega
   have hsw:=fun H1 h2=>RowB.swap (H:=H) (b:=b) (T:=87) hl he k1 k2 H1 h2
   have ms:=Pm.swap (a:=a) (b:=e) (i:=i) (j:=j) (D:=D2) (by omega) (by omega) (by omega) (by omega);have f1:swF i j D2 i=D2 j:=zag;have f2:swF i j D2 j=D2 i:=zhs;have f3:∀k,k≠i->k≠j->swF i j D2 k=D2 k:=fun k q1 q2=>ze2 q1 q2
   generalize hE1:D2 i=E1 at hl he hsw l1 l2;generalize hE2:D2 j=E2 at hl he hsw l1 l2;have le3:j*7+7<=(Hb.splice cells (i*7) E2.seven).length:=by rw[z0k (vs:=E2.seven) le1];exact le2
   repeat' (first|refine qZa ?_|(refine qZe ?_;try simp only[z00])|(refine qZb ?_;simp only[sB,Za,ti,tj,gtn hgt,hw3,hw4])|(refine qZj (id:=8) [([(0,0),(1,0),(4,0),(5,0),(6,0),(7,0),(8,0),(9,0),(10,0),(11,0),(12,0)],some 13),([(2,0),(3,0),(14,1)],some 15),([],none)] ?_ ?_;kernel_rfl;simp (disch:=first|omega|rfl) only[sV,sD,sB,Za,Zb,one,reduceCtorEq,ia48,ld87,st87,t0,ti,tj,l1,l2,hg2,le1,le3,isAlloc,isRead])|(refine qZm ?_ ?_;simp only[sB,Za];refine z01 ?_))
   exact⟨j - 1+1 - (i+1),by omega,_,_,i+1,j - 1,swF i j D2,rfl,rfl,by omega,by omega,by omega,fun k q1 q2=>by
    rw[<-haa];by_cases q:k=i
    ·subst q;rw[f1];omega
    ·rw[f3 k q (by omega)];exact lo2 k q1 (by omega),fun k q1 q2=>by
    rw[<-haa];by_cases q:k=j
    ·subst q;rw[f2];omega
    ·rw[f3 k (by omega) q];exact hi2' k (by omega) q2,by rw[f3 a (by omega) (by omega)];exact haa,(by simp only[sG,reduceCtorEq,t0]),(by simp only[sG,Za,t1]),(by simp only[sG,Za,t4]),(by simp only[sG,Za]),(by simp only[sG,Za]),hsw _ (by rw[get_put,if_pos rfl]),hm.trans ms,hk4.two hbl2 _ _ _⟩
 ·exact⟨_,_,a+1,e - 1,D1,rfl,rfl,Ze _,by omega,by omega,fun k q1 q2=>by omega,fun k q1 q2=>by omega,rfl,(by simp only[sG,reduceCtorEq,t0]),(by simp only[sG,Za,t1]),(by simp only[sG,Za,t4]),(by simp only[sG,Za]),(by simp only[sG,Za]),r1,ms,hk1⟩
set_option maxHeartbeats 16000000 in
theorem zou {b n c a e p:Nat}{D:Nat->Bnd}{H:Heap}(hr:RowB H 87 b n D) (hn:n<=bmost) (hap:a<=p) (hpe:p < e) (h3:e<=n) (hw:H.wf) :
  EvF Tryz.prog okT 131 [.slice (some ⟨b,0,none⟩) n c,.int .i64 (a:Nat),.int .i64 (e:Nat),.int .i64 (p:Nat),cvB] H fun v H' =>
   ∃(m:Nat) (f:Bool) (D':Nat->Bnd),v=.tuple ⟨[.int .i64 (m:Nat),.bool f]⟩/\a<=m/\m < e/\RowB H' 87 b n D'/\Pm a e D D'/\(∀k,a<=k->k < m->(D' k).v < (D' m).v)/\(∀k,m < k->k < e->(D' m).v<=(D' k).v)/\HK (·=b) H H':=by
 have hms:bmost<=1048576:=by simp [bmost]
 have hg:=z36;have hk:=HK.refl (S:=(·=b)) hw;refine EvF.enter rfl Tryz.func131 (by decide) rfl ?_;have hw1:IntKind.i64.wrap ((a:Int)+1)=((a+1:Nat):Int):=by rw[z05 (by omega) (by omega)];omega
 have hw2:IntKind.i64.wrap ((e:Int) - 1)=((e - 1:Nat):Int):=by rw[z05 (by omega) (by omega)];omega
 have k1:a < n:=by omega
 have k2:p < n:=by omega
 have l1:=hr.load k1;have l2:=hr.load k2;obtain⟨cells,hg2,hl,he⟩:=hr.row;have hbl2:=hk.wf _ _ hg2;have le1:a*7+7<=cells.length:=by have:=mul7 k1;omega
 have le2:p*7+7<=cells.length:=by have:=mul7 k2;omega
 have hsw:=fun H1 h2=>RowB.swap (H:=H) (b:=b) (T:=87) hl he k1 k2 H1 h2
 have ms:=Pm.swap (a:=a) (b:=e) (i:=a) (j:=p) (D:=D) (by omega) (by omega) (by omega) (by omega);have ha:swF a p D a=D p:=zag;generalize hE1:D a=E1 at hl he hsw l1 l2;generalize hE2:D p=E2 at hl he hsw l1 l2;have le3:p*7+7<=(Hb.splice cells (a*7) E2.seven).length:=by rw[z0k (vs:=E2.seven) le1];exact le2
 (repeat refine qZa ?_);refine qZb ?_;simp only[sA,initTm,Zb];refine EvC.cut (fun st=>∃tm H1,st=⟨tm,[],H1⟩/\tm.get 0=some (.slice (some ⟨b,0,none⟩) n c)/\tm.get 1=some (.int .i64 (a:Nat))/\tm.get 4=some cvB/\tm.get 2=some (.int .i64 (e:Nat))/\RowB H1 87 b n (swF a p D)/\HK (·=b) H H1) ?_ ?_
 ·repeat' (first|(refine qZj (id:=1) [([(0,0),(1,0),(4,0),(5,0),(6,0),(7,0),(8,0),(9,0),(10,0),(11,0),(12,0)],some 13),([(2,0),(3,0),(14,1)],some 15),([],none)] ?_ ?_;kernel_rfl;simp (disch:=first|omega|rfl) only[sV,sD,sB,Za,Zb,one,reduceCtorEq,ia48,ld87,st87,l1,l2,hg2,le1,le3,isAlloc,isRead]))
  exact⟨_,_,rfl,(by simp only[sG,reduceCtorEq]),(by simp only[sG,Za,reduceCtorEq]),(by simp only[sG,Za,reduceCtorEq]),(by simp only[sG,Za,reduceCtorEq]),hsw _ (by rw[get_put,if_pos rfl]),hk.two hbl2 _ _ _⟩
 rintro st ⟨tm,H1,rfl,t0,t1,t4,t2,r1,hk1⟩;(repeat refine qZa ?_);refine qZb ?_;simp only[sB,Za,t1,t2,hw1,hw2];have ms0:=ms;generalize hDD:swF a p D=D2 at *;clear hsw ms l1 l2 hl he hg2 le1 le2 le3 k1 k2 hDD hE1 hE2 ha;refine EvC.cut (fun st=>∃tm H' i,st=⟨tm,[],H'⟩/\(a+1)<=i/\i<=(e - 1)+1/\(∀k,(a+1)<=k->k < i->(D2 k).v < (D2 a).v)/\(i<=(e - 1)->¬((D2 i).v < (D2 a).v))/\tm.get 0=some (.slice (some ⟨b,0,none⟩) n c)/\tm.get 1=some (.int .i64 (a:Nat))/\tm.get 4=some cvB/\tm.get 12=some (.int .i64 (i:Nat))/\tm.get 13=some (.int .i64 ((e - 1):Nat))/\RowB H' 87 b n D2/\HK (·=b) H H') ?_ ?_
 ·refine qZg (qZk (fun k st=>∃tm H' i,st=⟨tm,[],H'⟩/\k=(e - 1)+1 - i/\(a+1)<=i/\i<=(e - 1)+1/\(∀k,(a+1)<=k->k < i->(D2 k).v < (D2 a).v)/\tm.get 0=some (.slice (some ⟨b,0,none⟩) n c)/\tm.get 1=some (.int .i64 (a:Nat))/\tm.get 4=some cvB/\tm.get 12=some (.int .i64 (i:Nat))/\tm.get 13=some (.int .i64 ((e - 1):Nat))/\RowB H' 87 b n D2/\HK (·=b) H H') ?_ ((e - 1)+1 - (a+1)) _ ?_)
  ·rintro k st ⟨tm,H',i,rfl,rfl,hi0,hij,hpa,t0,t1,t4,ti,tj,hr',hk'⟩;by_cases hle:i<=(e - 1)
   ·have hd:decide (((i:Nat):Int)<=(((e - 1):Nat):Int))=true:=decide_eq_true (by omega);have hwv:IntKind.i64.wrap ((i:Int)+1)=((i+1:Nat):Int):=by rw[z05 (by omega) (by omega)];omega
    have k1:i < n:=by omega
    have k2:a < n:=by omega
    have l1:=hr'.load k1;have l2:=hr'.load k2;have hb:=hk'.bump 16
    repeat' (first|refine qZa ?_|(refine qZj (id:=3) [([(0,0),(1,0),(2,0),(3,0),(4,0),(5,0),(6,0),(7,0),(8,0),(9,0),(10,0),(11,0),(12,0)],some 13),([(14,1),(15,1)],none)] ?_ ?_;kernel_rfl;simp (disch:=first|omega|rfl) only[sD,sB,Za,Zb,reduceCtorEq,ia48,ld87,t0,t1,t4,ti,tj,hd,l1,l2,z10,z0m hg,isAlloc,isRead]))
    obtain⟨cells0,hg0,-,-⟩:=hr'.row;have hbl:=hk'.wf _ _ hg0;refine(z27 hb.wf).mono ?_;rintro v H2 ⟨rfl,hx2⟩;have hk2:=hb.hxs hx2;have r2:=hr'.heap (H':=H2) (by rw[hx2.keep b (ZQ _ hbl)];rfl);by_cases hc:(D2 i).v < (D2 a).v
    ·repeat' (first|refine qZg ?_|(refine qZe ?_;try simp only[z00])|(refine qZb ?_;simp only[sB,Za,ti,hwv])|(refine z0p ?_;simp only[sD,sB,Za,cz_t hc,isAlloc,isRead])|(refine qZd ?_ ?_;simp only[sB,Za];refine z01 ?_))
     exact⟨(e - 1)+1 - (i+1),by omega,_,_,i+1,rfl,rfl,by omega,by omega,fun k q1 q2=>by
      by_cases e:k=i
      ·subst e;omega
      ·exact hpa k q1 (by omega),(by simp only[sG,reduceCtorEq,t0]),(by simp only[sG,Za,t1]),(by simp only[sG,Za,t4]),(by simp only[sG,Za]),(by simp only[sG,Za,tj]),r2,hk2⟩
    ·repeat' (first|(refine qZi ?_;try simp only[sB,reduceCtorEq])|(refine z0p ?_;simp only[sD,sB,Za,cz_f hc,isAlloc,isRead])|(refine qZm ?_ ?_;simp only[sB,Za];refine z01 ?_))
     exact⟨_,_,i,rfl,hi0,hij,hpa,fun _=>by omega,(by simp only[sG,reduceCtorEq,t0]),(by simp only[sG,Za,t1]),(by simp only[sG,Za,t4]),(by simp only[sG,Za,ti]),(by simp only[sG,Za,tj]),r2,hk2⟩
   ·have hd:decide (((i:Nat):Int)<=(((e - 1):Nat):Int))=false:=decide_eq_false (by omega)
    repeat' (first|refine qZa ?_|(refine qZi ?_;try simp only[sB,reduceCtorEq])|(refine qZj (id:=3) [([(0,0),(1,0),(2,0),(3,0),(4,0),(5,0),(6,0),(7,0),(8,0),(9,0),(10,0),(11,0),(12,0)],some 13),([(14,1),(15,1)],none)] ?_ ?_;kernel_rfl;simp only[sD,sB,Za,Zb,ti,tj,hd,Zd,isAlloc,isRead])|(refine qZm ?_ ?_;simp only[sB,Za];refine z01 ?_))
    exact⟨_,_,i,rfl,hi0,hij,hpa,fun h=>absurd h hle,(by simp only[sG,reduceCtorEq,t0]),(by simp only[sG,Za,t1]),(by simp only[sG,Za,t4]),(by simp only[sG,Za,ti]),(by simp only[sG,Za,tj]),hr'.heap rfl,hk'.bump _⟩
  ·exact⟨_,_,(a+1),rfl,rfl,Ze _,by omega,fun k q1 q2=>by omega,(by simp only[sG,reduceCtorEq,t0]),(by simp only[sG,Za,t1]),(by simp only[sG,Za,t4]),(by simp only[sG,Za]),(by simp only[sG,Za]),r1,hk1⟩
 clear t0 t1 t4 t2;rintro st ⟨tm,H3,i,rfl,hi2,hi3,hi4,hi5,t0,t1,t4,ti,tj,hr3,hk3⟩;refine EvC.cut (fun st=>∃tm H' j,st=⟨tm,[],H'⟩/\j<=(e - 1)/\i<=j+1/\(∀k,j < k->k<=(e - 1)->¬(D2 k).v < (D2 a).v)/\(i<=j->¬(¬(D2 j).v < (D2 a).v))/\tm.get 0=some (.slice (some ⟨b,0,none⟩) n c)/\tm.get 1=some (.int .i64 (a:Nat))/\tm.get 4=some cvB/\tm.get 12=some (.int .i64 (i:Nat))/\tm.get 13=some (.int .i64 (j:Nat))/\RowB H' 87 b n D2/\HK (·=b) H H') ?_ ?_
 ·refine qZg (qZk (fun k st=>∃tm H' j,st=⟨tm,[],H'⟩/\k=j+1 - i/\j<=(e - 1)/\i<=j+1/\(∀k,j < k->k<=(e - 1)->¬(D2 k).v < (D2 a).v)/\tm.get 0=some (.slice (some ⟨b,0,none⟩) n c)/\tm.get 1=some (.int .i64 (a:Nat))/\tm.get 4=some cvB/\tm.get 12=some (.int .i64 (i:Nat))/\tm.get 13=some (.int .i64 (j:Nat))/\RowB H' 87 b n D2/\HK (·=b) H H') ?_ ((e - 1)+1 - i) _ ?_)
  ·rintro k st ⟨tm,H',j,rfl,rfl,hj0,hij,hpa,t0,t1,t4,ti,tj,hr',hk'⟩;by_cases hle:i<=j
   ·have hd:decide (((i:Nat):Int)<=((j:Nat):Int))=true:=decide_eq_true (by omega);have hwv:IntKind.i64.wrap ((j:Int) - 1)=((j - 1:Nat):Int):=by rw[z05 (by omega) (by omega)];omega
    have k1:j < n:=by omega
    have k2:a < n:=by omega
    have l1:=hr'.load k1;have l2:=hr'.load k2;have hb:=hk'.bump 17
    repeat' (first|refine qZa ?_|(refine qZj (id:=5) [([(0,0),(1,0),(2,0),(3,0),(4,0),(5,0),(6,0),(7,0),(8,0),(9,0),(10,0),(11,0),(12,0)],some 13),([(14,1),(15,1),(16,1)],none)] ?_ ?_;kernel_rfl;simp (disch:=first|omega|rfl) only[sD,sB,Za,Zb,reduceCtorEq,ia48,ld87,t0,t1,t4,ti,tj,hd,l1,l2,z10,z0m hg,isAlloc,isRead]))
    obtain⟨cells0,hg0,-,-⟩:=hr'.row;have hbl:=hk'.wf _ _ hg0;refine(z27 hb.wf).mono ?_;rintro v H2 ⟨rfl,hx2⟩;have hk2:=hb.hxs hx2;have r2:=hr'.heap (H':=H2) (by rw[hx2.keep b (ZQ _ hbl)];rfl);by_cases hc:(D2 j).v < (D2 a).v
    ·repeat' (first|(refine qZi ?_;try simp only[sB,reduceCtorEq])|(refine z0p ?_;simp only[sD,sB,Za,cz_t hc,Zn,isAlloc,isRead])|(refine qZm ?_ ?_;simp only[sB,Za];refine z01 ?_))
     exact⟨_,_,j,rfl,hj0,hij,hpa,fun _=>by omega,(by simp only[sG,reduceCtorEq,t0]),(by simp only[sG,Za,t1]),(by simp only[sG,Za,t4]),(by simp only[sG,Za,ti]),(by simp only[sG,Za,tj]),r2,hk2⟩
    ·repeat' (first|refine qZg ?_|(refine qZe ?_;try simp only[z00])|(refine qZb ?_;simp only[sB,Za,tj,hwv])|(refine z0p ?_;simp only[sD,sB,Za,cz_f hc,Zw,isAlloc,isRead])|(refine qZd ?_ ?_;simp only[sB,Za];refine z01 ?_))
     exact⟨j - 1+1 - i,by omega,_,_,j - 1,rfl,rfl,by omega,by omega,fun k q1 q2=>by
      by_cases e:k=j
      ·subst e;omega
      ·exact hpa k (by omega) q2,(by simp only[sG,reduceCtorEq,t0]),(by simp only[sG,Za,t1]),(by simp only[sG,Za,t4]),(by simp only[sG,Za,ti]),(by simp only[sG,Za]),r2,hk2⟩
   ·have hd:decide (((i:Nat):Int)<=((j:Nat):Int))=false:=decide_eq_false (by omega)
    repeat' (first|refine qZa ?_|(refine qZi ?_;try simp only[sB,reduceCtorEq])|(refine qZj (id:=5) [([(0,0),(1,0),(2,0),(3,0),(4,0),(5,0),(6,0),(7,0),(8,0),(9,0),(10,0),(11,0),(12,0)],some 13),([(14,1),(15,1),(16,1)],none)] ?_ ?_;kernel_rfl;simp only[sD,sB,Za,Zb,ti,tj,hd,Zd,isAlloc,isRead])|(refine qZm ?_ ?_;simp only[sB,Za];refine z01 ?_))
    exact⟨_,_,j,rfl,hj0,hij,hpa,fun h=>absurd h hle,(by simp only[sG,reduceCtorEq,t0]),(by simp only[sG,Za,t1]),(by simp only[sG,Za,t4]),(by simp only[sG,Za,ti]),(by simp only[sG,Za,tj]),hr'.heap rfl,hk'.bump _⟩
  ·exact⟨_,_,(e - 1),rfl,rfl,Ze _,by omega,fun k q1 q2=>by omega,(by simp only[t0]),(by simp only[t1]),(by simp only[t4]),(by simp only[ti]),(by simp only[tj]),hr3,hk3⟩
 clear t0 t1 t4 ti tj;rintro st ⟨tm,H4,j,rfl,hj2,hj3,hj4,hj5,t0,t1,t4,ti,tj,hr4,hk4⟩;have fin:∀(D3:Nat->Bnd) (i j:Nat),a+1<=i->j+1=i->j < e->(∀k,a+1<=k->k < i->(D3 k).v < (D3 a).v)->(∀k,j < k->k < e->¬(D3 k).v < (D3 a).v) ->
   (∀k,a<=k->k < j->(swF j a D3 k).v < (swF j a D3 j).v)/\(∀k,j < k->k < e->(swF j a D3 j).v<=(swF j a D3 k).v):=fun D3 i j q1 q2 q3 q4 q5=>by
  have f1:swF j a D3 j=D3 a:=zag;have f2:swF j a D3 a=D3 j:=zhs;refine⟨fun k u1 u2=>?_,fun k u1 u2=>?_⟩
  ·rw[f1];by_cases q:k=a
   ·subst q;rw[f2];exact q4 j (by omega) (by omega)
   ·rw[ze2 (by omega) q];exact q4 k (by omega) (by omega)
  ·rw[f1,ze2 (by omega) (by omega)];have:=q5 k u1 u2;omega
 by_cases hgt:j < i
 ·have hji:j+1=i:=by omega
  obtain⟨fa,fb⟩:=fin D2 i j (by omega) hji (by omega) (fun k q1 q2=>hi4 k q1 q2) (fun k q1 q2=>hj4 k q1 (by omega));clear fin;have k1:j < n:=by omega
  have k2:a < n:=by omega
  have l1:=hr4.load k1;have l2:=hr4.load k2;obtain⟨cells,hg2,hl,he⟩:=hr4.row;have hbl2:=hk4.wf _ _ hg2;have le1:j*7+7<=cells.length:=by have:=mul7 k1;omega
  have le2:a*7+7<=cells.length:=by have:=mul7 k2;omega
  have hsw:=fun H1 h2=>RowB.swap (H:=H) (b:=b) (T:=87) hl he k1 k2 H1 h2
  have ms:=Pm.swap (a:=a) (b:=e) (i:=j) (j:=a) (D:=D2) (by omega) (by omega) (by omega) (by omega);generalize hDD:swF j a D2=D3 at *;generalize hE1:D2 j=E1 at hl he hsw l1 l2;generalize hE2:D2 a=E2 at hl he hsw l1 l2;have le3:a*7+7<=(Hb.splice cells (j*7) E2.seven).length:=by rw[z0k (vs:=E2.seven) le1];exact le2
  repeat' (first|refine qZa ?_|(refine qZf ?_;try simp only[z04,z02])|(refine qZb ?_;simp only[sB,Za,ti,tj,gtl hgt])|(refine qZj (id:=8) [([(0,0),(1,0),(4,0),(5,0),(6,0),(7,0),(8,0),(9,0),(10,0),(11,0),(12,0)],some 13),([(2,0),(3,0),(14,1)],some 15),([],none)] ?_ ?_;kernel_rfl;simp (disch:=first|omega|rfl) only[sV,sD,sB,Za,Zb,one,reduceCtorEq,ia48,ld87,st87,t0,t1,tj,l1,l2,hg2,le1,le3,isAlloc,isRead])|(refine qZd ?_ ?_;simp only[sB,Za];refine z01 ?_))
  exact z0j rfl (by simp only[sG,Za]) (by simp only[sB,Za];rfl) ⟨j,_,D3,rfl,by omega,by omega,hsw _ (by rw[get_put,if_pos rfl]),ms0.trans ms,fa,fb,hk4.two hbl2 _ _ _⟩
 have hn1:=hi5 (by omega);have hn2:=hj5 (by omega);have hne:i < j:=by
  rcases Nat.lt_or_ge i j with q|q
  ·exact q
  ·exfalso;have:i=j:=by omega
   subst this;exact hn2 hn1
 have hw3:IntKind.i64.wrap ((i:Int)+1)=((i+1:Nat):Int):=by rw[z05 (by omega) (by omega)];omega
 have hw4:IntKind.i64.wrap ((j:Int) - 1)=((j - 1:Nat):Int):=by rw[z05 (by omega) (by omega)];omega
 have k1:i < n:=by omega
 have k2:j < n:=by omega
 have l1:=hr4.load k1;have l2:=hr4.load k2;obtain⟨cells,hg2,hl,he⟩:=hr4.row;have hbl2:=hk4.wf _ _ hg2;have le1:i*7+7<=cells.length:=by have:=mul7 k1;omega
 have le2:j*7+7<=cells.length:=by have:=mul7 k2;omega
 have hsw:=fun H1 h2=>RowB.swap (H:=H) (b:=b) (T:=87) hl he k1 k2 H1 h2
 have ms:=Pm.swap (a:=a) (b:=e) (i:=i) (j:=j) (D:=D2) (by omega) (by omega) (by omega) (by omega);have f1:swF i j D2 i=D2 j:=zag;have f2:swF i j D2 j=D2 i:=zhs;have f3:∀k,k≠i->k≠j->swF i j D2 k=D2 k:=fun k q1 q2=>ze2 q1 q2
 generalize hE1:D2 i=E1 at hl he hsw l1 l2;generalize hE2:D2 j=E2 at hl he hsw l1 l2;have le3:j*7+7<=(Hb.splice cells (i*7) E2.seven).length:=by rw[z0k (vs:=E2.seven) le1];exact le2
 (repeat refine qZa ?_);refine qZb ?_;simp only[sB,Za,ti,tj,gtn hgt];refine qZm (by simp only[sB,Za]) ?_;(try refine qZe ?_);(try simp only[z00,z0b]);refine EvC.cut (fun st=>∃tm H1,st=⟨tm,[],H1⟩/\tm.get 0=some (.slice (some ⟨b,0,none⟩) n c)/\tm.get 1=some (.int .i64 (a:Nat))/\tm.get 4=some cvB/\tm.get 12=some (.int .i64 (i:Nat))/\tm.get 13=some (.int .i64 (j:Nat))/\RowB H1 87 b n (swF i j D2)/\HK (·=b) H H1) ?_ ?_
 ·repeat' (first|(refine qZj (id:=10) [([(0,0),(1,0),(4,0),(5,0),(6,0),(7,0),(8,0),(9,0),(10,0),(11,0),(12,0)],some 13),([(2,0),(3,0),(14,1)],some 15),([],none)] ?_ ?_;kernel_rfl;simp (disch:=first|omega|rfl) only[sV,sD,sB,Za,Zb,one,reduceCtorEq,ia48,ld87,st87,t0,ti,tj,l1,l2,hg2,le1,le3,isAlloc,isRead]))
  exact⟨_,_,rfl,(by simp only[sG,reduceCtorEq,t0]),(by simp only[sG,Za,t1]),(by simp only[sG,Za,t4]),(by simp only[sG,Za,ti]),(by simp only[sG,Za,tj]),hsw _ (by rw[get_put,if_pos rfl]),hk4.two hbl2 _ _ _⟩
 clear t0 t1 t4 ti tj;rintro st ⟨tm,H5,rfl,t0,t1,t4,ti,tj,r5,hk5⟩;(repeat refine qZa ?_);refine qZb ?_;simp only[sB,Za,ti,hw3];(repeat refine qZa ?_);refine qZb ?_;simp only[sB,Za,tj,hw4];have lo3:∀k,a+1<=k->k < i+1->(swF i j D2 k).v < (swF i j D2 a).v:=fun k q1 q2=>by
  rw[f3 a (by omega) (by omega)];by_cases q:k=i
  ·subst q;rw[f1];omega
  ·rw[f3 k q (by omega)];exact hi4 k q1 (by omega)
 have hi3':∀k,j - 1 < k->k < e->¬(swF i j D2 k).v < (swF i j D2 a).v:=fun k q1 q2=>by
  rw[f3 a (by omega) (by omega)];by_cases q:k=j
  ·subst q;rw[f2];omega
  ·rw[f3 k (by omega) q];exact hj4 k (by omega) (by omega)
 have mm:=ms0.trans ms;clear hsw l1 l2 hl he hg2 le1 le2 le3 k1 k2 f1 f2 f3 hE1 hE2 ms hr4 hk4 hi4 hi5 hj4 hj5 hn1 hn2 hw3 hw4;generalize swF i j D2=D1 at *;have hi6:a+1<=i+1:=by omega
 have hj6:i+1<=j - 1+1:=by omega
 have hj7:j - 1 < e:=by omega
 generalize i+1=i1 at *;generalize j - 1=j1 at *;refine EvC.cut (fun st=>∃tm H' i j D',st=⟨tm,[],H'⟩/\a+1<=i/\j+1=i/\j < e/\(∀k,a+1<=k->k < i->(D' k).v < (D' a).v)/\(∀k,j < k->k < e->¬(D' k).v < (D' a).v)/\tm.get 0=some (.slice (some ⟨b,0,none⟩) n c)/\tm.get 1=some (.int .i64 (a:Nat))/\tm.get 4=some cvB/\tm.get 12=some (.int .i64 (i:Nat))/\tm.get 13=some (.int .i64 (j:Nat))/\RowB H' 87 b n D'/\Pm a e D D'/\HK (·=b) H H') ?_ ?_
 ·refine qZg (qZk (fun k st=>∃tm H' i j D',st=⟨tm,[],H'⟩/\k=j+1 - i/\a+1<=i/\i<=j+1/\j < e/\(∀k,a+1<=k->k < i->(D' k).v < (D' a).v)/\(∀k,j < k->k < e->¬(D' k).v < (D' a).v)/\tm.get 0=some (.slice (some ⟨b,0,none⟩) n c)/\tm.get 1=some (.int .i64 (a:Nat))/\tm.get 4=some cvB/\tm.get 12=some (.int .i64 (i:Nat))/\tm.get 13=some (.int .i64 (j:Nat))/\RowB H' 87 b n D'/\Pm a e D D'/\HK (·=b) H H') ?_ (j1+1 - i1) _ ?_)
  ·rintro k st ⟨tm,H0,i0,j0,D2,rfl,rfl,hi1,hij0,hje,hlo,hhi,t0,t1,t4,ti,tj,hr0,hm,hk0⟩;(repeat refine qZa ?_);refine qZg ?_;refine EvC.cut (fun st=>∃tm H' i,st=⟨tm,[],H'⟩/\i0<=i/\i<=j0+1/\(∀k,i0<=k->k < i->(D2 k).v < (D2 a).v)/\(i<=j0->¬((D2 i).v < (D2 a).v))/\tm.get 0=some (.slice (some ⟨b,0,none⟩) n c)/\tm.get 1=some (.int .i64 (a:Nat))/\tm.get 4=some cvB/\tm.get 12=some (.int .i64 (i:Nat))/\tm.get 13=some (.int .i64 (j0:Nat))/\RowB H' 87 b n D2/\HK (·=b) H H') ?_ ?_
   ·refine qZg (qZk (fun k st=>∃tm H' i,st=⟨tm,[],H'⟩/\k=j0+1 - i/\i0<=i/\i<=j0+1/\(∀k,i0<=k->k < i->(D2 k).v < (D2 a).v)/\tm.get 0=some (.slice (some ⟨b,0,none⟩) n c)/\tm.get 1=some (.int .i64 (a:Nat))/\tm.get 4=some cvB/\tm.get 12=some (.int .i64 (i:Nat))/\tm.get 13=some (.int .i64 (j0:Nat))/\RowB H' 87 b n D2/\HK (·=b) H H') ?_ (j0+1 - i0) _ ?_)
    ·rintro k st ⟨tm,H',i,rfl,rfl,hi0,hij,hpa,t0,t1,t4,ti,tj,hr',hk'⟩;by_cases hle:i<=j0
     ·have hd:decide (((i:Nat):Int)<=((j0:Nat):Int))=true:=decide_eq_true (by omega);have hwv:IntKind.i64.wrap ((i:Int)+1)=((i+1:Nat):Int):=by rw[z05 (by omega) (by omega)];omega
      have k1:i < n:=by omega
      have k2:a < n:=by omega
      have l1:=hr'.load k1;have l2:=hr'.load k2;have hb:=hk'.bump 16
      repeat' (first|refine qZa ?_|(refine qZj (id:=13) [([(0,0),(1,0),(2,0),(3,0),(4,0),(5,0),(6,0),(7,0),(8,0),(9,0),(10,0),(11,0),(12,0)],some 13),([(14,1),(15,1)],none)] ?_ ?_;kernel_rfl;simp (disch:=first|omega|rfl) only[sD,sB,Za,Zb,reduceCtorEq,ia48,ld87,t0,t1,t4,ti,tj,hd,l1,l2,z10,z0m hg,isAlloc,isRead]))
      obtain⟨cells0,hg0,-,-⟩:=hr'.row;have hbl:=hk'.wf _ _ hg0;refine(z27 hb.wf).mono ?_;rintro v H2 ⟨rfl,hx2⟩;have hk2:=hb.hxs hx2;have r2:=hr'.heap (H':=H2) (by rw[hx2.keep b (ZQ _ hbl)];rfl);by_cases hc:(D2 i).v < (D2 a).v
      ·repeat' (first|refine qZg ?_|(refine qZe ?_;try simp only[z00])|(refine qZb ?_;simp only[sB,Za,ti,hwv])|(refine z0p ?_;simp only[sD,sB,Za,cz_t hc,isAlloc,isRead])|(refine qZd ?_ ?_;simp only[sB,Za];refine z01 ?_))
       exact⟨j0+1 - (i+1),by omega,_,_,i+1,rfl,rfl,by omega,by omega,fun k q1 q2=>by
        by_cases e:k=i
        ·subst e;omega
        ·exact hpa k q1 (by omega),(by simp only[sG,reduceCtorEq,t0]),(by simp only[sG,Za,t1]),(by simp only[sG,Za,t4]),(by simp only[sG,Za]),(by simp only[sG,Za,tj]),r2,hk2⟩
      ·repeat' (first|(refine qZi ?_;try simp only[sB,reduceCtorEq])|(refine z0p ?_;simp only[sD,sB,Za,cz_f hc,isAlloc,isRead])|(refine qZm ?_ ?_;simp only[sB,Za];refine z01 ?_))
       exact⟨_,_,i,rfl,hi0,hij,hpa,fun _=>by omega,(by simp only[sG,reduceCtorEq,t0]),(by simp only[sG,Za,t1]),(by simp only[sG,Za,t4]),(by simp only[sG,Za,ti]),(by simp only[sG,Za,tj]),r2,hk2⟩
     ·have hd:decide (((i:Nat):Int)<=((j0:Nat):Int))=false:=decide_eq_false (by omega)
      repeat' (first|refine qZa ?_|(refine qZi ?_;try simp only[sB,reduceCtorEq])|(refine qZj (id:=13) [([(0,0),(1,0),(2,0),(3,0),(4,0),(5,0),(6,0),(7,0),(8,0),(9,0),(10,0),(11,0),(12,0)],some 13),([(14,1),(15,1)],none)] ?_ ?_;kernel_rfl;simp only[sD,sB,Za,Zb,ti,tj,hd,Zd,isAlloc,isRead])|(refine qZm ?_ ?_;simp only[sB,Za];refine z01 ?_))
      exact⟨_,_,i,rfl,hi0,hij,hpa,fun h=>absurd h hle,(by simp only[sG,reduceCtorEq,t0]),(by simp only[sG,Za,t1]),(by simp only[sG,Za,t4]),(by simp only[sG,Za,ti]),(by simp only[sG,Za,tj]),hr'.heap rfl,hk'.bump _⟩
    ·exact⟨_,_,i0,rfl,rfl,Ze _,by omega,fun k q1 q2=>by omega,(by simp only[t0]),(by simp only[t1]),(by simp only[t4]),(by simp only[ti]),(by simp only[tj]),hr0,hk0⟩
   clear t0 t1 t4 ti tj;rintro st ⟨tm,H3,i,rfl,hi2,hi3,hi4,hi5,t0,t1,t4,ti,tj,hr3,hk3⟩;refine EvC.cut (fun st=>∃tm H' j,st=⟨tm,[],H'⟩/\j<=j0/\i<=j+1/\(∀k,j < k->k<=j0->¬(D2 k).v < (D2 a).v)/\(i<=j->¬(¬(D2 j).v < (D2 a).v))/\tm.get 0=some (.slice (some ⟨b,0,none⟩) n c)/\tm.get 1=some (.int .i64 (a:Nat))/\tm.get 4=some cvB/\tm.get 12=some (.int .i64 (i:Nat))/\tm.get 13=some (.int .i64 (j:Nat))/\RowB H' 87 b n D2/\HK (·=b) H H') ?_ ?_
   ·refine qZg (qZk (fun k st=>∃tm H' j,st=⟨tm,[],H'⟩/\k=j+1 - i/\j<=j0/\i<=j+1/\(∀k,j < k->k<=j0->¬(D2 k).v < (D2 a).v)/\tm.get 0=some (.slice (some ⟨b,0,none⟩) n c)/\tm.get 1=some (.int .i64 (a:Nat))/\tm.get 4=some cvB/\tm.get 12=some (.int .i64 (i:Nat))/\tm.get 13=some (.int .i64 (j:Nat))/\RowB H' 87 b n D2/\HK (·=b) H H') ?_ (j0+1 - i) _ ?_)
    ·rintro k st ⟨tm,H',j,rfl,rfl,hj0,hij,hpa,t0,t1,t4,ti,tj,hr',hk'⟩;by_cases hle:i<=j
     ·have hd:decide (((i:Nat):Int)<=((j:Nat):Int))=true:=decide_eq_true (by omega);have hwv:IntKind.i64.wrap ((j:Int) - 1)=((j - 1:Nat):Int):=by rw[z05 (by omega) (by omega)];omega
      have k1:j < n:=by omega
      have k2:a < n:=by omega
      have l1:=hr'.load k1;have l2:=hr'.load k2;have hb:=hk'.bump 17
      repeat' (first|refine qZa ?_|(refine qZj (id:=15) [([(0,0),(1,0),(2,0),(3,0),(4,0),(5,0),(6,0),(7,0),(8,0),(9,0),(10,0),(11,0),(12,0)],some 13),([(14,1),(15,1),(16,1)],none)] ?_ ?_;kernel_rfl;simp (disch:=first|omega|rfl) only[sD,sB,Za,Zb,reduceCtorEq,ia48,ld87,t0,t1,t4,ti,tj,hd,l1,l2,z10,z0m hg,isAlloc,isRead]))
      obtain⟨cells0,hg0,-,-⟩:=hr'.row;have hbl:=hk'.wf _ _ hg0;refine(z27 hb.wf).mono ?_;rintro v H2 ⟨rfl,hx2⟩;have hk2:=hb.hxs hx2;have r2:=hr'.heap (H':=H2) (by rw[hx2.keep b (ZQ _ hbl)];rfl);by_cases hc:(D2 j).v < (D2 a).v
      ·repeat' (first|(refine qZi ?_;try simp only[sB,reduceCtorEq])|(refine z0p ?_;simp only[sD,sB,Za,cz_t hc,Zn,isAlloc,isRead])|(refine qZm ?_ ?_;simp only[sB,Za];refine z01 ?_))
       exact⟨_,_,j,rfl,hj0,hij,hpa,fun _=>by omega,(by simp only[sG,reduceCtorEq,t0]),(by simp only[sG,Za,t1]),(by simp only[sG,Za,t4]),(by simp only[sG,Za,ti]),(by simp only[sG,Za,tj]),r2,hk2⟩
      ·repeat' (first|refine qZg ?_|(refine qZe ?_;try simp only[z00])|(refine qZb ?_;simp only[sB,Za,tj,hwv])|(refine z0p ?_;simp only[sD,sB,Za,cz_f hc,Zw,isAlloc,isRead])|(refine qZd ?_ ?_;simp only[sB,Za];refine z01 ?_))
       exact⟨j - 1+1 - i,by omega,_,_,j - 1,rfl,rfl,by omega,by omega,fun k q1 q2=>by
        by_cases e:k=j
        ·subst e;omega
        ·exact hpa k (by omega) q2,(by simp only[sG,reduceCtorEq,t0]),(by simp only[sG,Za,t1]),(by simp only[sG,Za,t4]),(by simp only[sG,Za,ti]),(by simp only[sG,Za]),r2,hk2⟩
     ·have hd:decide (((i:Nat):Int)<=((j:Nat):Int))=false:=decide_eq_false (by omega)
      repeat' (first|refine qZa ?_|(refine qZi ?_;try simp only[sB,reduceCtorEq])|(refine qZj (id:=15) [([(0,0),(1,0),(2,0),(3,0),(4,0),(5,0),(6,0),(7,0),(8,0),(9,0),(10,0),(11,0),(12,0)],some 13),([(14,1),(15,1),(16,1)],none)] ?_ ?_;kernel_rfl;simp only[sD,sB,Za,Zb,ti,tj,hd,Zd,isAlloc,isRead])|(refine qZm ?_ ?_;simp only[sB,Za];refine z01 ?_))
      exact⟨_,_,j,rfl,hj0,hij,hpa,fun h=>absurd h hle,(by simp only[sG,reduceCtorEq,t0]),(by simp only[sG,Za,t1]),(by simp only[sG,Za,t4]),(by simp only[sG,Za,ti]),(by simp only[sG,Za,tj]),hr'.heap rfl,hk'.bump _⟩
    ·exact⟨_,_,j0,rfl,rfl,Ze _,by omega,fun k q1 q2=>by omega,(by simp only[t0]),(by simp only[t1]),(by simp only[t4]),(by simp only[ti]),(by simp only[tj]),hr3,hk3⟩
   clear t0 t1 t4 ti tj;rintro st ⟨tm,H4,j,rfl,hj2,hj3,hj4,hj5,t0,t1,t4,ti,tj,hr4,hk4⟩;have lo2:∀k,a+1<=k->k < i->(D2 k).v < (D2 a).v:=fun k q1 q2=>by
    by_cases q:k < i0
    ·exact hlo k q1 q
    ·exact hi4 k (by omega) q2
   have hi2':∀k,j < k->k < e->¬(D2 k).v < (D2 a).v:=fun k q1 q2=>by
    by_cases q:j0 < k
    ·exact hhi k q q2
    ·exact hj4 k q1 (by omega)
   by_cases hgt:j < i
   ·repeat' (first|refine qZa ?_|(refine qZi ?_;try simp only[sB,Za,reduceCtorEq])|(refine qZb ?_;simp only[sB,Za,ti,tj,gtl hgt])|(refine qZd ?_ ?_;simp only[sB,Za];refine z01 ?_))
    exact⟨_,_,i,j,D2,rfl,by omega,by omega,by omega,lo2,hi2',(by simp only[sG,reduceCtorEq,t0]),(by simp only[sG,Za,t1]),(by simp only[sG,Za,t4]),(by simp only[sG,Za,ti]),(by simp only[sG,Za,tj]),hr4,hm,hk4⟩
   ·have hn1:=hi5 (by omega);have hn2:=hj5 (by omega);have hne:i < j:=by
     rcases Nat.lt_or_ge i j with q|q
     ·exact q
     ·exfalso;have:i=j:=by omega
      subst this;exact hn2 hn1
    have hw3:IntKind.i64.wrap ((i:Int)+1)=((i+1:Nat):Int):=by rw[z05 (by omega) (by omega)];omega
    have hw4:IntKind.i64.wrap ((j:Int) - 1)=((j - 1:Nat):Int):=by rw[z05 (by omega) (by omega)];omega
    have k1:i < n:=by omega
    have k2:j < n:=by omega
    have l1:=hr4.load k1;have l2:=hr4.load k2;obtain⟨cells,hg2,hl,he⟩:=hr4.row;have hbl2:=hk4.wf _ _ hg2;have le1:i*7+7<=cells.length:=by have:=mul7 k1;omega
    have le2:j*7+7<=cells.length:=by have:=mul7 k2;omega
    have hsw:=fun H1 h2=>RowB.swap (H:=H) (b:=b) (T:=87) hl he k1 k2 H1 h2
    have ms:=Pm.swap (a:=a) (b:=e) (i:=i) (j:=j) (D:=D2) (by omega) (by omega) (by omega) (by omega);have f1:swF i j D2 i=D2 j:=zag;have f2:swF i j D2 j=D2 i:=zhs;have f3:∀k,k≠i->k≠j->swF i j D2 k=D2 k:=fun k q1 q2=>ze2 q1 q2
    generalize hE1:D2 i=E1 at hl he hsw l1 l2;generalize hE2:D2 j=E2 at hl he hsw l1 l2;have le3:j*7+7<=(Hb.splice cells (i*7) E2.seven).length:=by rw[z0k (vs:=E2.seven) le1];exact le2
    repeat' (first|refine qZa ?_|(refine qZe ?_;try simp only[z00])|(refine qZb ?_;simp only[sB,Za,ti,tj,gtn hgt,hw3,hw4])|(refine qZj (id:=18) [([(0,0),(1,0),(4,0),(5,0),(6,0),(7,0),(8,0),(9,0),(10,0),(11,0),(12,0)],some 13),([(2,0),(3,0),(14,1)],some 15),([],none)] ?_ ?_;kernel_rfl;simp (disch:=first|omega|rfl) only[sV,sD,sB,Za,Zb,one,reduceCtorEq,ia48,ld87,st87,t0,ti,tj,l1,l2,hg2,le1,le3,isAlloc,isRead])|(refine qZm ?_ ?_;simp only[sB,Za];refine z01 ?_))
    exact⟨j - 1+1 - (i+1),by omega,_,_,i+1,j - 1,swF i j D2,rfl,rfl,by omega,by omega,by omega,fun k q1 q2=>by
     rw[f3 a (by omega) (by omega)];by_cases q:k=i
     ·subst q;rw[f1];omega
     ·rw[f3 k q (by omega)];exact lo2 k q1 (by omega),fun k q1 q2=>by
     rw[f3 a (by omega) (by omega)];by_cases q:k=j
     ·subst q;rw[f2];omega
     ·rw[f3 k (by omega) q];exact hi2' k (by omega) q2,(by simp only[sG,reduceCtorEq,t0]),(by simp only[sG,Za,t1]),(by simp only[sG,Za,t4]),(by simp only[sG,Za]),(by simp only[sG,Za]),hsw _ (by rw[get_put,if_pos rfl]),hm.trans ms,hk4.two hbl2 _ _ _⟩
  ·exact⟨_,_,i1,j1,D1,rfl,rfl,hi6,hj6,hj7,lo3,hi3',(by simp only[sG,reduceCtorEq,t0]),(by simp only[sG,Za,t1]),(by simp only[sG,Za,t4]),(by simp only[sG,Za]),(by simp only[sG,Za]),r5,mm,hk5⟩
 clear t0 t1 t4 ti tj;rintro st ⟨tm,H6,i,j,D2,rfl,hi,hji,hje,lo4,hi4,t0,t1,t4,ti,tj,hr6,m6,hk6⟩;obtain⟨fa,fb⟩:=fin D2 i j hi hji hje lo4 hi4;clear fin;have k1:j < n:=by omega
 have k2:a < n:=by omega
 have l1:=hr6.load k1;have l2:=hr6.load k2;obtain⟨cells,hg2,hl,he⟩:=hr6.row;have hbl2:=hk6.wf _ _ hg2;have le1:j*7+7<=cells.length:=by have:=mul7 k1;omega
 have le2:a*7+7<=cells.length:=by have:=mul7 k2;omega
 have hsw:=fun H1 h2=>RowB.swap (H:=H) (b:=b) (T:=87) hl he k1 k2 H1 h2
 have ms:=Pm.swap (a:=a) (b:=e) (i:=j) (j:=a) (D:=D2) (by omega) (by omega) (by omega) (by omega);generalize hDD:swF j a D2=D3 at *;generalize hE1:D2 j=E1 at hl he hsw l1 l2;generalize hE2:D2 a=E2 at hl he hsw l1 l2;have le3:a*7+7<=(Hb.splice cells (j*7) E2.seven).length:=by rw[z0k (vs:=E2.seven) le1];exact le2
 repeat' (first|refine qZa ?_|(refine qZf ?_)|(refine qZb ?_;simp only[sB,Za,tj])|(refine qZj (id:=21) [([(0,0),(1,0),(4,0),(5,0),(6,0),(7,0),(8,0),(9,0),(10,0),(11,0),(12,0)],some 13),([(2,0),(3,0),(14,1)],some 15),([],none)] ?_ ?_;kernel_rfl;simp (disch:=first|omega|rfl) only[sV,sD,sB,Za,Zb,one,reduceCtorEq,ia48,ld87,st87,t0,t1,tj,l1,l2,hg2,le1,le3,isAlloc,isRead]))
 exact z0j rfl (by simp only[sG,Za]) (by simp only[sB,Za];rfl) ⟨j,_,D3,rfl,by omega,by omega,hsw _ (by rw[get_put,if_pos rfl]),m6.trans ms,fa,fb,hk6.two hbl2 _ _ _⟩
 end Go.Proofs.hq
end

section
namespace Go.Hb
open Go Go.RowKit
theorem HK.side {S S':Nat->Prop}{A B C:Heap}(h:HK S A B) (k:HK S' B C) (hs:∀n,n < A.next->¬S' n):HK S A C :=
 ⟨ZC h.next k.next,fun i hi hn=>by rw[k.keep i (Zo hi h.next) (hs i hi),h.keep i hi hn],k.wf⟩
def kXor (k:IntKind) (a b:Int):Int:=k.wrap (BitVec.ofInt k.bits a ^^^ BitVec.ofInt k.bits b).toNat
theorem bXor {P:Program}{H:Heap}{t:TypeId}{x y:Operand}{k:IntKind}{a b:Int}:dBin P .xor t x y (.int k a) (.int k b) H=some (.val (.int k (kXor k a b)) H):=by
 simp [dBin,dnil,flat,eqGuard,binOp,Op.intBits,Sem.bind,-BitVec.toNat_xor,-BitVec.toNat_ofInt];rfl
theorem zsf {z:Int}{m:Nat}(hm:m < 18446744073709551616):∃q:Nat,kAnd .u64 z (m:Int)=(q:Int)/\q<=m:=by
 unfold kAnd;refine⟨(BitVec.ofInt 64 z &&& BitVec.ofInt 64 (m:Int)).toNat,?_,?_⟩
 ·show IntKind.u64.wrap ((BitVec.ofInt 64 z &&& BitVec.ofInt 64 (m:Int)).toNat:Int)=_;have:=(BitVec.ofInt 64 z &&& BitVec.ofInt 64 (m:Int)).isLt;rw[wrap_u64 (by omega) (by omega)]
 ·rw[BitVec.ofInt_natCast,BitVec.toNat_and,BitVec.toNat_ofNat,Nat.mod_eq_of_lt (by omega)];exact Nat.and_le_right
end Go.Hb
namespace Go.Proofs.hq
open Go Go.RowKit Go.Hb
variable {ok:Ok}
set_option maxRecDepth 10000
attribute [local irreducible] LX LG EL STG SOP SGO SGD SAL SRD SEF SEG SLK SCK ES
set_option maxHeartbeats 16000000 in
theorem zfl {b n c a e:Nat}{D:Nat->Bnd}{H:Heap}(hr:RowB H 87 b n D) (hn:n<=bmost) (h1:a < e) (h3:e<=n) (low:0 < a->∀k,a<=k->k < e->(D (a - 1)).v<=(D k).v) (hw:H.wf) :
  EvF Tryz.prog okT 129 [.slice (some ⟨b,0,none⟩) n c,.int .i64 (a:Nat),.int .i64 (e:Nat),cvB] H fun v H' =>
   ∃(t:Bool) (D':Nat->Bnd),v=.bool t/\RowB H' 87 b n D'/\Pm a e D D'/\(t=true->InZ Bnd.v a e D')/\HK (·=b) H H':=by
 have hms:bmost<=1048576:=by simp [bmost]
 have hg:=z36;have low':∀D',Pm a e D D'->0 < a->∀k,a<=k->k < e->(D' (a - 1)).v<=(D' k).v:=fun D' h h0=>by
  rw[h.out (k:=a - 1) (.inl (by omega))];exact h.all (P:=fun x=>(D (a - 1)).v<=x.v) (low h0)
 refine EvF.enter rfl Tryz.func129 (by decide) rfl ?_;have hwa:IntKind.i64.wrap ((a:Int)+1)=((a+1:Nat):Int):=by rw[z05 (by omega) (by omega)];omega
 have hwl:IntKind.i64.wrap ((e:Int) - (a:Int))=((e - a:Nat):Int):=by rw[z05 (by omega) (by omega)];omega
 (repeat refine qZa ?_);refine qZb ?_;simp only[sA,initTm,Zb];(repeat refine qZa ?_);refine qZb ?_;simp only[sB,Za,reduceCtorEq,hwa];(repeat refine qZa ?_);refine qZb ?_;simp only[sA];(repeat refine qZa ?_);refine qZg (qZk (fun k st=>∃tm H' s i D',st=⟨tm,[],H'⟩/\k=5 - s/\s<=5/\a+1<=i/\i<=e/\tm.get 0=some (.slice (some ⟨b,0,none⟩) n c)/\tm.get 1=some (.int .i64 (a:Nat))/\tm.get 2=some (.int .i64 (e:Nat))/\tm.get 3=some cvB /\
  tm.get 9=some (.int .i64 (i:Nat))/\tm.get 10=some (.int .i64 (s:Nat))/\RowB H' 87 b n D'/\Pm a e D D'/\InZ Bnd.v a i D'/\HK (·=b) H H') ?_ 5 _ ?_)
 rotate_left
 ·exact⟨_,_,0,a+1,D,rfl,rfl,by omega,Ze _,by omega,(by simp only[sG,reduceCtorEq]),(by simp only[sG,Za,reduceCtorEq]),(by simp only[sG,Za,reduceCtorEq]),(by simp only[sG,Za,reduceCtorEq]),(by simp only[sG,Za,reduceCtorEq]),(by simp only[sB,Za,reduceCtorEq];rfl),hr,Pm.refl D,InZ.few (by omega),HK.refl hw⟩
 rintro k st ⟨tm,H',s,i0,D0,rfl,rfl,hs,hi1,hi2,t0,t1,t2,t3,t9,t10,hr0,hm0,ho0,hk0⟩;by_cases hs5:s < 5;rotate_left
 ·have hd:decide ((s:Int) < 5)=false:=decide_eq_false (by omega)
  repeat' (first|refine qZa ?_|(refine qZi ?_;try simp only[sB])|(refine qZf ?_)|(refine qZb ?_;simp only[sB,t10,hd])|(refine qZm ?_ ?_;simp only[sB,Za];refine z01 ?_))
  exact z03 rfl (by simp only[sG,Za]) ⟨false,D0,rfl,hr0,hm0,(fun h=>by cases h),hk0⟩
 have hd5:decide ((s:Int) < 5)=true:=decide_eq_true (by omega);(repeat refine qZa ?_);refine qZb ?_;simp only[sB,t10,hd5];refine qZd (by simp only[sB,Za]) ?_;(try refine qZe ?_);(try simp only[z00,z0b]);refine qZa ?_;refine qZg ?_;refine EvC.cut (fun st=>∃tm H' i,st=⟨tm,[],H'⟩/\a<=i/\i+1<=e/\InZ Bnd.v a (i+1) D0/\(i+1 < e->(D0 (i+1)).v < (D0 i).v)/\tm.get 0=some (.slice (some ⟨b,0,none⟩) n c)/\tm.get 1=some (.int .i64 (a:Nat))/\tm.get 2=some (.int .i64 (e:Nat))/\tm.get 3=some cvB /\
  tm.get 9=some (.int .i64 ((i+1:Nat):Int))/\tm.get 10=some (.int .i64 (s:Nat))/\RowB H' 87 b n D0/\HK (·=b) H H') ?_ ?_
 ·refine qZg (qZk (fun k st=>∃tm H' i,st=⟨tm,[],H'⟩/\k=e - i/\a+1<=i/\i<=e/\InZ Bnd.v a i D0/\tm.get 0=some (.slice (some ⟨b,0,none⟩) n c)/\tm.get 1=some (.int .i64 (a:Nat))/\tm.get 2=some (.int .i64 (e:Nat))/\tm.get 3=some cvB /\
   tm.get 9=some (.int .i64 (i:Nat))/\tm.get 10=some (.int .i64 (s:Nat))/\RowB H' 87 b n D0/\HK (·=b) H H') ?_ (e - i0) _ ?_)
  ·rintro k st ⟨tm,H',i,rfl,rfl,hi3,hi4,ho,t0,t1,t2,t3,t9,t10,hr',hk⟩;obtain⟨i,rfl⟩:∃j,i=j+1:=⟨i - 1,by omega⟩
   by_cases hlt:i+1 < e
   ·have hwm:IntKind.i64.wrap (((i+1:Nat):Int) - 1)=((i:Nat):Int):=by rw[z05 (by omega) (by omega)];omega
    have hwp:IntKind.i64.wrap (((i+1:Nat):Int)+1)=((i+1+1:Nat):Int):=by rw[z05 (by omega) (by omega)];omega
    have k1:i+1 < n:=by omega
    have k2:i < n:=by omega
    have l1:=hr'.load k1;have l2:=hr'.load k2;have hb:=hk.bump 18
    repeat' (first|refine qZa ?_|(refine qZj (id:=5) [([(0,0),(1,0),(2,0),(3,0),(4,0),(5,0),(6,0),(7,0),(8,0),(9,0),(10,0),(11,0),(12,0),(13,0)],some 14),([(15,1),(16,1),(17,1)],none)] ?_ ?_;kernel_rfl;simp (disch:=first|omega|rfl) only[sD,sB,Za,Zb,reduceCtorEq,ia48,ld87,t0,t2,t3,t9,decl hlt,hwm,l1,l2,z10,z0m hg,isAlloc,isRead]))
    obtain⟨cells0,hg0,-,-⟩:=hr'.row;have hbl:=hk.wf _ _ hg0;refine(z27 hb.wf).mono ?_;rintro v H2 ⟨rfl,hx2⟩;have hk2:=hb.hxs hx2;have r2:=hr'.heap (H':=H2) (by rw[hx2.keep b (ZQ _ hbl)];rfl);by_cases hc:(D0 (i+1)).v < (D0 i).v
    ·repeat' (first|(refine qZi ?_;try simp only[sB,reduceCtorEq])|(refine z0p ?_;simp only[sD,sB,Za,cz_t hc,Zn,isAlloc,isRead])|(refine qZm ?_ ?_;simp only[sB,Za];refine z01 ?_))
     exact⟨_,_,i,rfl,by omega,by omega,ho,fun _=>hc,(by simp only[sG,reduceCtorEq,t0]),(by simp only[sG,Za,t1]),(by simp only[sG,Za,t2]),(by simp only[sG,Za,t3]),(by simp only[sG,Za,t9]),(by simp only[sG,Za,t10]),r2,hk2⟩
    ·repeat' (first|refine qZg ?_|(refine qZe ?_;try simp only[z00])|(refine qZb ?_;simp only[sB,Za,t9,hwp])|(refine z0p ?_;simp only[sD,sB,Za,cz_f hc,Zw,isAlloc,isRead])|(refine qZd ?_ ?_;simp only[sB,Za];refine z01 ?_))
     exact⟨e - (i+1+1),by omega,_,_,i+1+1,rfl,rfl,by omega,by omega,fun p q p1 p2 p3=>by
      by_cases e1:q=i+1
      ·subst e1;by_cases e2:p=i
       ·subst e2;omega
       ·exact Int.le_trans (ho p i p1 (by omega) (by omega)) (by omega)
      ·exact ho p q p1 p2 (by omega),(by simp only[sG,reduceCtorEq,t0]),(by simp only[sG,Za,t1]),(by simp only[sG,Za,t2]),(by simp only[sG,Za,t3]),(by simp only[sG,Za]),(by simp only[sG,Za,t10]),r2,hk2⟩
   ·repeat' (first|refine qZa ?_|(refine qZi ?_;try simp only[sB,reduceCtorEq])|(refine qZj (id:=5) [([(0,0),(1,0),(2,0),(3,0),(4,0),(5,0),(6,0),(7,0),(8,0),(9,0),(10,0),(11,0),(12,0),(13,0)],some 14),([(15,1),(16,1),(17,1)],none)] ?_ ?_;kernel_rfl;simp only[sD,sB,Za,Zb,t2,t9,decn hlt,Zd,isAlloc,isRead])|(refine qZm ?_ ?_;simp only[sB,Za];refine z01 ?_))
    exact⟨_,_,i,rfl,by omega,by omega,ho,fun h=>absurd h hlt,(by simp only[sG,reduceCtorEq,t0]),(by simp only[sG,Za,t1]),(by simp only[sG,Za,t2]),(by simp only[sG,Za,t3]),(by simp only[sG,Za,t9]),(by simp only[sG,Za,t10]),hr'.heap rfl,hk.bump _⟩
  ·exact⟨_,_,i0,rfl,rfl,hi1,hi2,ho0,(by simp only[sG,reduceCtorEq,t0]),(by simp only[sG,Za,t1]),(by simp only[sG,Za,t2]),(by simp only[sG,Za,t3]),(by simp only[sG,Za,t9]),(by simp only[sG,Za,t10]),hr0,hk0⟩
 clear t0 t1 t2 t3 t9 t10;rintro st ⟨tm,H1,u,rfl,hau,hue,ho1,hstop,t0,t1,t2,t3,t9,t10,hr1,hk1⟩;by_cases hie:u+1=e
 ·have:(((u+1:Nat):Int) == (e:Int))=true:=z0v (by omega)
  repeat' (first|refine qZa ?_|(refine qZf ?_;try simp only[z04,z02])|(refine qZb ?_;simp only[sB,Za,t2,t9,this])|(refine qZd ?_ ?_;simp only[sB,Za];refine z01 ?_))
  exact z03 rfl (by simp only[sG,Za]) ⟨true,D0,rfl,hr1,hm0,fun _=>by rw[<-hie];exact ho1,hk1⟩
 have hne:(((u+1:Nat):Int) == (e:Int))=false:=z0h (by omega);have hcx:=hstop (by omega);by_cases h50:e - a < 50
 ·have d50:decide (((e - a:Nat):Int) < 50)=true:=decide_eq_true (by omega)
  repeat' (first|refine qZa ?_|(refine qZe ?_;try simp only[z00])|(refine qZf ?_;try simp only[z04,z02])|(refine qZb ?_;simp only[sB,Za,t1,t2,t9,hne,hwl,d50])|(refine qZd ?_ ?_;simp only[sB,Za];refine z01 ?_)|(refine qZm ?_ ?_;simp only[sB,Za];refine z01 ?_))
  exact z03 rfl (by simp only[sG,Za]) ⟨false,D0,rfl,hr1,hm0,(fun h=>by cases h),hk1⟩
 have d50:decide (((e - a:Nat):Int) < 50)=false:=decide_eq_false (by omega);(repeat refine qZa ?_);refine qZb ?_;simp only[sB,Za,t2,t9,hne];refine qZm (by simp only[sB,Za]) ?_;(try refine qZe ?_);(try simp only[z00,z0b]);(repeat refine qZa ?_);refine qZb ?_;simp only[sB,Za,t1,t2,hwl,d50];refine qZm (by simp only[sB,Za]) ?_;(try refine qZe ?_);(try simp only[z00,z0b]);have hwm:IntKind.i64.wrap (((u+1:Nat):Int) - 1)=((u:Nat):Int):=by rw[z05 (by omega) (by omega)];omega
 have hwp:IntKind.i64.wrap (((u+1:Nat):Int)+1)=((u+2:Nat):Int):=by rw[z05 (by omega) (by omega)];omega
 have e1:∀k,k < u->swF (u+1) u D0 k=D0 k:=fun k hk=>ze2 (by omega) (by omega)
 have m1:Pm a e D (swF (u+1) u D0):=hm0.trans (Pm.swap (by omega) (by omega) (by omega) (by omega));refine EvC.cut (fun st=>∃tm H',st=⟨tm,[],H'⟩/\tm.get 0=some (.slice (some ⟨b,0,none⟩) n c)/\tm.get 1=some (.int .i64 (a:Nat))/\tm.get 2=some (.int .i64 (e:Nat))/\tm.get 3=some cvB /\
  tm.get 9=some (.int .i64 ((u+1:Nat):Int))/\tm.get 10=some (.int .i64 (s:Nat))/\RowB H' 87 b n (swF (u+1) u D0)/\HK (·=b) H H') ?_ ?_
 ·have k1:u+1 < n:=by omega
  have k2:u < n:=by omega
  have l1:=hr1.load k1;have l2:=hr1.load k2;obtain⟨cells,hg2,hl,he⟩:=hr1.row;have hbl2:=hk1.wf _ _ hg2;have le1:(u+1)*7+7<=cells.length:=by have:=mul7 k1;omega
  have le2:u*7+7<=cells.length:=by have:=mul7 k2;omega
  have hsw:=fun H2 h2=>RowB.swap (H:=H') (b:=b) (T:=87) hl he k1 k2 H2 h2
  generalize swF (u+1) u D0=D1 at *;generalize hE1:D0 (u+1)=E1 at *;generalize hE2:D0 u=E2 at *;have le3:u*7+7<=(Hb.splice cells ((u+1)*7) E2.seven).length:=by rw[z0k (vs:=E2.seven) le1];exact le2
  repeat' (first|(refine qZj (id:=11) [([(0,0),(1,0),(5,0),(6,0),(7,0),(8,0),(9,0),(10,0),(11,0),(12,0),(13,0),(14,0)],some 15),([(2,0),(3,0),(4,0),(16,1)],some 17),([],none)] ?_ ?_;kernel_rfl;simp (disch:=first|omega|rfl) only[sV,sD,sB,Za,Zb,one,reduceCtorEq,ia48,ld87,st87,t0,t9,hwm,l1,l2,hg2,le1,le3,isAlloc,isRead]))
  exact⟨_,_,rfl,(by simp only[sG,reduceCtorEq,t0]),(by simp only[sG,Za,t1]),(by simp only[sG,Za,t2]),(by simp only[sG,Za,t3]),(by simp only[sG,Za,t9]),(by simp only[sG,Za,t10]),hsw _ (by rw[get_put,if_pos rfl]),hk1.two hbl2 _ _ _⟩
 clear t0 t1 t2 t3 t9 t10;rintro st ⟨tm,H2,rfl,t0,t1,t2,t3,t9,t10,hr2,hk2⟩;have ho2:∀p q,a<=p->p < q->q<=u->p≠u->q≠u->(swF (u+1) u D0 p).v<=(swF (u+1) u D0 q).v:=fun p q p1 p2 p3 p4 p5=>by
  rw[e1 p (by omega),e1 q (by omega)];exact ho1 p q p1 p2 (by omega)
 generalize swF (u+1) u D0=D1 at *;clear hr1 hr0 hk1 hk0 ho1 hstop hcx e1 ho0 hm0;refine EvC.cut (fun st=>∃tm H' D',st=⟨tm,[],H'⟩/\tm.get 0=some (.slice (some ⟨b,0,none⟩) n c)/\tm.get 1=some (.int .i64 (a:Nat))/\tm.get 2=some (.int .i64 (e:Nat))/\tm.get 3=some cvB /\
  tm.get 9=some (.int .i64 ((u+1:Nat):Int))/\tm.get 10=some (.int .i64 (s:Nat))/\RowB H' 87 b n D'/\Pm a e D D'/\InZ Bnd.v a (u+1) D'/\HK (·=b) H H') ?_ ?_
 ·have hwd:IntKind.i64.wrap (((u+1:Nat):Int) - (a:Int))=((u+1 - a:Nat):Int):=by rw[z05 (by omega) (by omega)];omega
  by_cases h2:a < u;rotate_left
  ·have d2:decide (((u+1 - a:Nat):Int) >= 2)=false:=decide_eq_false (by omega)
   repeat' (first|refine qZa ?_|(refine qZe ?_;try simp only[true_and])|(refine qZb ?_;simp only[sB,Za,t1,t9,hwd,d2])|(refine qZm ?_ ?_;simp only[sB,Za];refine z01 ?_))
   exact⟨_,_,D1,rfl,(by simp only[sG,reduceCtorEq,t0]),(by simp only[sG,Za,t1]),(by simp only[sG,Za,t2]),(by simp only[sG,Za,t3]),(by simp only[sG,Za,t9]),(by simp only[sG,Za,t10]),hr2,m1,InZ.few (by omega),hk2⟩
  have d2:decide (((u+1 - a:Nat):Int) >= 2)=true:=decide_eq_true (by omega);(repeat refine qZa ?_);refine qZb ?_;simp only[sB,Za,t1,t9,hwd,d2];refine qZd (by simp only[sB,Za]) ?_;(try refine qZe ?_);(try simp only[z00,z0b]);(repeat refine qZa ?_);refine qZb ?_;simp only[sB,Za,t9,hwm];refine qZg (qZk (fun k st=>∃tm H' D',st=⟨tm,[],H'⟩/\a<=k/\k<=u/\tm.get 0=some (.slice (some ⟨b,0,none⟩) n c)/\tm.get 1=some (.int .i64 (a:Nat))/\tm.get 2=some (.int .i64 (e:Nat))/\tm.get 3=some cvB /\
   tm.get 9=some (.int .i64 ((u+1:Nat):Int))/\tm.get 10=some (.int .i64 (s:Nat))/\tm.get 11=some (.int .i64 (k:Nat))/\RowB H' 87 b n D'/\Pm a e D D'/\(∀p q,a<=p->p < q->q<=u->p≠k->q≠k->(D' p).v<=(D' q).v)/\(∀q,k < q->q<=u->(D' k).v<=(D' q).v)/\HK (·=b) H H') ?_ u _ ?_)
  ·rintro k st ⟨tm,H',D',rfl,hj,hju,t0,t1,t2,t3,t9,t10,t11,hr',hm,ho1,ho2,hk⟩;by_cases hk0:k=0
   ·subst hk0;have dd:decide (((0:Nat):Int) >= 1)=false:=rfl
    repeat' (first|refine qZa ?_|(refine qZi ?_;try simp only[sB,reduceCtorEq])|(refine qZb ?_;simp only[sB,t11,dd])|(refine qZm ?_ ?_;simp only[sB,Za];refine z01 ?_))
    exact⟨_,_,D',rfl,(by simp only[sG,reduceCtorEq,t0]),(by simp only[sG,Za,t1]),(by simp only[sG,Za,t2]),(by simp only[sG,Za,t3]),(by simp only[sG,Za,t9]),(by simp only[sG,Za,t10]),hr',hm,fun p q p1 p2 p3=>by
     by_cases e1:p=0
     ·subst e1;exact ho2 q p2 (by omega)
     ·exact ho1 p q p1 p2 (by omega) e1 (by omega),hk⟩
   ·obtain⟨j,rfl⟩:∃j,k=j+1:=⟨k - 1,by omega⟩
    have dd:decide (((j+1:Nat):Int) >= 1)=true:=decide_eq_true (by omega);have hw2:IntKind.i64.wrap (((j+1:Nat):Int) - 1)=((j:Nat):Int):=by rw[z05 (by omega) (by omega)];omega
    have k1:j+1 < n:=by omega
    have k2:j < n:=by omega
    have l1:=hr'.load k1;have l2:=hr'.load k2;have hb:=hk.bump 13
    repeat' (first|refine qZa ?_|refine qZg ?_|(refine qZe ?_;try simp only[z00])|(refine qZb ?_;simp only[sB,t11,dd])|(refine qZj (id:=16) [([(0,0),(1,0),(2,0),(3,0),(4,0),(5,0),(6,0),(7,0),(8,0),(9,0)],some 10),([(11,1),(12,1)],none)] ?_ ?_;kernel_rfl;simp (disch:=first|omega|rfl) only[sD,sB,Za,Zb,reduceCtorEq,ia48,ld87,t0,t3,t11,hw2,l1,l2,z10,z0m hg,isAlloc,isRead])|(refine qZd ?_ ?_;simp only[sB,Za];refine z01 ?_))
    obtain⟨cells0,hg0,-,-⟩:=hr'.row;have hbl:=hk.wf _ _ hg0;refine(z27 hb.wf).mono ?_;rintro v H2 ⟨rfl,hx2⟩;have hk2:=hb.hxs hx2;have r2:=hr'.heap (H':=H2) (by rw[hx2.keep b (ZQ _ hbl)];rfl);by_cases hc:(D' (j+1)).v < (D' j).v
    ·have hja:a<=j:=by
      rcases Nat.lt_or_ge j a with q|q
      ·have q':a=j+1:=by omega
       have:=low' D' hm (by omega) (j+1) (by omega) (by omega);rw[show a - 1=j by omega] at this;omega
      ·exact q
     have l1:=r2.load k1;have l2:=r2.load k2;obtain⟨cells,hg2,hl,he⟩:=r2.row;have hbl2:=hk2.wf _ _ hg2;have le1:(j+1)*7+7<=cells.length:=by have:=mul7 k1;omega
     have le2:j*7+7<=cells.length:=by have:=mul7 k2;omega
     have hsw:=fun H2 h2=>RowB.swap (H:=H') (b:=b) (T:=87) hl he k1 k2 H2 h2
     have ms:=Pm.swap (a:=a) (b:=e) (i:=j) (j:=j+1) (D:=D') (by omega) (by omega) (by omega) (by omega);rw[zhq] at hsw;have o1:∀p q,a<=p->p < q->q<=u->p≠j->q≠j->(swF j (j+1) D' p).v<=(swF j (j+1) D' q).v:=fun p q p1 p2 p3 p4 p5=>by
      unfold swF;rw[if_neg p4,if_neg p5];by_cases e1:p=j+1
      ·rw[if_pos e1,if_neg (by omega)];exact ho1 j q (by omega) (by omega) p3 (by omega) (by omega)
      ·rw[if_neg e1];by_cases e2:q=j+1
       ·rw[if_pos e2];exact ho1 p j p1 (by omega) (by omega) e1 (by omega)
       ·rw[if_neg e2];exact ho1 p q p1 p2 p3 e1 e2
     have o2:∀q,j < q->q<=u->(swF j (j+1) D' j).v<=(swF j (j+1) D' q).v:=fun q q1 q2=>by
      unfold swF;rw[if_pos rfl,if_neg (by omega)];by_cases e2:q=j+1
      ·rw[if_pos e2];omega
      ·rw[if_neg e2];exact ho2 q (by omega) q2
     clear ho1 ho2;generalize swF j (j+1) D'=D2 at *;generalize hE1:D' (j+1)=E1 at *;generalize hE2:D' j=E2 at *;have le3:j*7+7<=(Hb.splice cells ((j+1)*7) E2.seven).length:=by rw[z0k (vs:=E2.seven) le1];exact le2
     repeat' (first|(refine qZe ?_;try simp only[z00])|(refine qZb ?_;simp only[sB,Za,t11,hw2])|(refine qZj (id:=17) [([(0,0),(1,0),(5,0),(6,0),(7,0),(8,0),(9,0),(10,0),(11,0),(12,0),(13,0),(14,0)],some 15),([(2,0),(3,0),(4,0),(16,1)],some 17),([],none)] ?_ ?_;kernel_rfl;simp (disch:=first|omega|rfl) only[sV,sD,sB,Za,Zb,one,reduceCtorEq,ia48,ld87,st87,t0,t11,hw2,l1,l2,hg2,le1,le3,isAlloc,isRead])|(refine z0p ?_;simp only[sD,sB,Za,cz_t hc,Zn,isAlloc,isRead])|(refine qZm ?_ ?_;simp only[sB,Za];refine z01 ?_))
     exact⟨j,by omega,_,_,D2,rfl,hja,by omega,(by simp only[sG,reduceCtorEq,t0]),(by simp only[sG,Za,t1]),(by simp only[sG,Za,t2]),(by simp only[sG,Za,t3]),(by simp only[sG,Za,t9]),(by simp only[sG,Za,t10]),(by simp only[sG,Za]),hsw _ (by rw[get_put,if_pos rfl]),hm.trans ms,o1,o2,hk2.two hbl2 _ _ _⟩
    ·repeat' (first|(refine qZi ?_;try simp only[sB,Za,reduceCtorEq])|(refine z0p ?_;simp only[sD,sB,Za,cz_f hc,Zw,isAlloc,isRead])|(refine qZd ?_ ?_;simp only[sB,Za];refine z01 ?_))
     exact⟨_,_,D',rfl,(by simp only[sG,reduceCtorEq,t0]),(by simp only[sG,Za,t1]),(by simp only[sG,Za,t2]),(by simp only[sG,Za,t3]),(by simp only[sG,Za,t9]),(by simp only[sG,Za,t10]),r2,hm,fun p q p1 p2 p3=>by
      by_cases e1:p=j+1
      ·subst e1;exact ho2 q p2 (by omega)
      ·by_cases e2:q=j+1
       ·subst e2;by_cases e3:p=j
        ·subst e3;omega
        ·exact Int.le_trans (ho1 p j p1 (by omega) (by omega) e1 (by omega)) (by omega)
       ·exact ho1 p q p1 p2 (by omega) e1 e2,hk2⟩
  ·exact⟨_,_,D1,rfl,by omega,Ze _,(by simp only[sG,reduceCtorEq,t0]),(by simp only[sG,Za,t1]),(by simp only[sG,Za,t2]),(by simp only[sG,Za,t3]),(by simp only[sG,Za,t9]),(by simp only[sG,Za,t10]),(by simp only[sG,Za]),hr2,m1,ho2,fun q q1 q2=>by omega,hk2⟩
 clear t0 t1 t2 t3 t9 t10 hr2 hk2 m1 ho2;rintro st ⟨tm,H3,D3,rfl,t0,t1,t2,t3,t9,t10,hr3,m3,ho3,hk3⟩;refine EvC.meet (fun st=>∃tm H' D',st=⟨tm,[],H'⟩/\tm.get 0=some (.slice (some ⟨b,0,none⟩) n c)/\tm.get 1=some (.int .i64 (a:Nat))/\tm.get 2=some (.int .i64 (e:Nat))/\tm.get 3=some cvB /\
  tm.get 9=some (.int .i64 ((u+1:Nat):Int))/\tm.get 10=some (.int .i64 (s:Nat))/\RowB H' 87 b n D'/\Pm a e D D'/\InZ Bnd.v a (u+1) D'/\HK (·=b) H H') ?_ ?_
 ·have hwd:IntKind.i64.wrap ((e:Int) - ((u+1:Nat):Int))=((e - (u+1):Nat):Int):=by rw[z05 (by omega) (by omega)];omega
  by_cases h2:u+2 < e;rotate_left
  ·have d2:decide (((e - (u+1):Nat):Int) >= 2)=false:=decide_eq_false (by omega)
   repeat' (first|refine qZa ?_|(refine qZe ?_;try simp only[true_and])|(refine qZb ?_;simp only[sB,Za,t2,t9,hwd,d2])|(refine qZm ?_ ?_;simp only[sB,Za];refine z01 ?_))
   exact⟨_,_,D3,rfl,(by simp only[sG,reduceCtorEq,t0]),(by simp only[sG,Za,t1]),(by simp only[sG,Za,t2]),(by simp only[sG,Za,t3]),(by simp only[sG,Za,t9]),(by simp only[sG,Za,t10]),hr3,m3,ho3,hk3⟩
  have d2:decide (((e - (u+1):Nat):Int) >= 2)=true:=decide_eq_true (by omega);(repeat refine qZa ?_);refine qZb ?_;simp only[sB,Za,t2,t9,hwd,d2];refine qZd (by simp only[sB,Za]) ?_;(try refine qZe ?_);(try simp only[z00,z0b]);(repeat refine qZa ?_);refine qZb ?_;simp only[sB,Za,t9,hwp];refine qZg (qZk (fun k st=>∃tm H' j D',st=⟨tm,[],H'⟩/\k=e - j/\u+1 < j/\j<=e/\tm.get 0=some (.slice (some ⟨b,0,none⟩) n c)/\tm.get 1=some (.int .i64 (a:Nat))/\tm.get 2=some (.int .i64 (e:Nat))/\tm.get 3=some cvB /\
   tm.get 9=some (.int .i64 ((u+1:Nat):Int))/\tm.get 10=some (.int .i64 (s:Nat))/\tm.get 12=some (.int .i64 (j:Nat))/\RowB H' 87 b n D'/\Pm a e D D'/\InZ Bnd.v a (u+1) D'/\HK (·=b) H H') ?_ (e - (u+2)) _ ?_)
  ·rintro k st ⟨tm,H',j,D',rfl,rfl,hj,hje,t0,t1,t2,t3,t9,t10,t12,hr',hm,ho1,hk⟩;by_cases hlt:j < e;rotate_left
   ·repeat' (first|refine qZa ?_|(refine qZi ?_;try simp only[sB,reduceCtorEq])|(refine qZb ?_;simp only[sB,Za,t2,t12,decn hlt])|(refine qZm ?_ ?_;simp only[sB,Za];refine z01 ?_))
    exact⟨_,_,D',rfl,(by simp only[sG,reduceCtorEq,t0]),(by simp only[sG,Za,t1]),(by simp only[sG,Za,t2]),(by simp only[sG,Za,t3]),(by simp only[sG,Za,t9]),(by simp only[sG,Za,t10]),hr',hm,ho1,hk⟩
   obtain⟨j,rfl⟩:∃w,j=w+1:=⟨j - 1,by omega⟩
   have hw2:IntKind.i64.wrap (((j+1:Nat):Int) - 1)=((j:Nat):Int):=by rw[z05 (by omega) (by omega)];omega
   have hw3:IntKind.i64.wrap (((j+1:Nat):Int)+1)=((j+1+1:Nat):Int):=by rw[z05 (by omega) (by omega)];omega
   have k1:j+1 < n:=by omega
   have k2:j < n:=by omega
   have l1:=hr'.load k1;have l2:=hr'.load k2;have hb:=hk.bump 13
   repeat' (first|refine qZa ?_|refine qZg ?_|(refine qZe ?_;try simp only[z00])|(refine qZb ?_;simp only[sB,Za,t2,t12,decl hlt])|(refine qZj (id:=22) [([(0,0),(1,0),(2,0),(3,0),(4,0),(5,0),(6,0),(7,0),(8,0),(9,0)],some 10),([(11,1),(12,1)],none)] ?_ ?_;kernel_rfl;simp (disch:=first|omega|rfl) only[sD,sB,Za,Zb,reduceCtorEq,ia48,ld87,t0,t3,t12,hw2,l1,l2,z10,z0m hg,isAlloc,isRead])|(refine qZd ?_ ?_;simp only[sB,Za];refine z01 ?_))
   obtain⟨cells0,hg0,-,-⟩:=hr'.row;have hbl:=hk.wf _ _ hg0;refine(z27 hb.wf).mono ?_;rintro v H2 ⟨rfl,hx2⟩;have hk2:=hb.hxs hx2;have r2:=hr'.heap (H':=H2) (by rw[hx2.keep b (ZQ _ hbl)];rfl);by_cases hc:(D' (j+1)).v < (D' j).v
   ·have l1:=r2.load k1;have l2:=r2.load k2;obtain⟨cells,hg2,hl,he⟩:=r2.row;have hbl2:=hk2.wf _ _ hg2;have le1:(j+1)*7+7<=cells.length:=by have:=mul7 k1;omega
    have le2:j*7+7<=cells.length:=by have:=mul7 k2;omega
    have hsw:=fun H2 h2=>RowB.swap (H:=H') (b:=b) (T:=87) hl he k1 k2 H2 h2
    have ms:=Pm.swap (a:=a) (b:=e) (i:=j+1) (j:=j) (D:=D') (by omega) (by omega) (by omega) (by omega);have o1:InZ Bnd.v a (u+1) (swF (j+1) j D'):=fun p q p1 p2 p3=>by
     rw[ze2 (by omega) (by omega),ze2 (by omega) (by omega)];exact ho1 p q p1 p2 p3
    generalize swF (j+1) j D'=D2 at *;generalize hE1:D' (j+1)=E1 at *;generalize hE2:D' j=E2 at *;have le3:j*7+7<=(Hb.splice cells ((j+1)*7) E2.seven).length:=by rw[z0k (vs:=E2.seven) le1];exact le2
    repeat' (first|(refine qZe ?_;try simp only[z00])|(refine qZb ?_;simp only[sB,Za,t12,hw3])|(refine qZj (id:=23) [([(0,0),(1,0),(5,0),(6,0),(7,0),(8,0),(9,0),(10,0),(11,0),(12,0),(13,0),(14,0)],some 15),([(2,0),(3,0),(4,0),(16,1)],some 17),([],none)] ?_ ?_;kernel_rfl;simp (disch:=first|omega|rfl) only[sV,sD,sB,Za,Zb,one,reduceCtorEq,ia48,ld87,st87,t0,t12,hw2,l1,l2,hg2,le1,le3,isAlloc,isRead])|(refine z0p ?_;simp only[sD,sB,Za,cz_t hc,Zn,isAlloc,isRead])|(refine qZm ?_ ?_;simp only[sB,Za];refine z01 ?_))
    exact⟨e - (j+1+1),by omega,_,_,j+1+1,D2,rfl,rfl,by omega,by omega,(by simp only[sG,reduceCtorEq,t0]),(by simp only[sG,Za,t1]),(by simp only[sG,Za,t2]),(by simp only[sG,Za,t3]),(by simp only[sG,Za,t9]),(by simp only[sG,Za,t10]),(by simp only[sG,Za]),hsw _ (by rw[get_put,if_pos rfl]),hm.trans ms,o1,hk2.two hbl2 _ _ _⟩
   ·repeat' (first|(refine qZi ?_;try simp only[sB,Za,reduceCtorEq])|(refine z0p ?_;simp only[sD,sB,Za,cz_f hc,Zw,isAlloc,isRead])|(refine qZd ?_ ?_;simp only[sB,Za];refine z01 ?_))
    exact⟨_,_,D',rfl,(by simp only[sG,reduceCtorEq,t0]),(by simp only[sG,Za,t1]),(by simp only[sG,Za,t2]),(by simp only[sG,Za,t3]),(by simp only[sG,Za,t9]),(by simp only[sG,Za,t10]),r2,hm,ho1,hk2⟩
  ·exact⟨_,_,u+2,D3,rfl,rfl,by omega,by omega,(by simp only[sG,reduceCtorEq,t0]),(by simp only[sG,Za,t1]),(by simp only[sG,Za,t2]),(by simp only[sG,Za,t3]),(by simp only[sG,Za,t9]),(by simp only[sG,Za,t10]),(by simp only[sG,Za]),hr3,m3,ho3,hk3⟩
 clear t0 t1 t2 t3 t9 t10;rintro st ⟨tm,H4,D4,rfl,t0,t1,t2,t3,t9,t10,hr4,m4,ho4,hk4⟩;have hws:IntKind.i64.wrap ((s:Int)+1)=((s+1:Nat):Int):=by rw[z05 (by omega) (by omega)];omega
 try simp only[sA]
 repeat' (first|(refine qZb ?_;simp only[sB,Za,t10,hws]))
 exact⟨5 - (s+1),by omega,_,_,s+1,u+1,D4,rfl,rfl,by omega,by omega,by omega,(by simp only[sG,reduceCtorEq,t0]),(by simp only[sG,Za,t1]),(by simp only[sG,Za,t2]),(by simp only[sG,Za,t3]),(by simp only[sG,Za,t9]),(by simp only[sG,Za]),hr4,m4,ho4,hk4⟩
end Go.Proofs.hq
end

section
namespace Go.Hb
open Go Go.RowKit
theorem zfm {P:Program}{H:Heap}{t:TypeId}{x y:Operand}{k':IntKind}{a:Nat}:dBin P .shr t x y (.int .u64 (a:Int)) (.int k' 16) H=some (.val (.int .u64 ((a / 65536:Nat):Int)) H):=by
 rw[bShr (by omega)];show some (Dr.val (.int .u64 ((a:Int).fdiv ((65536:Nat):Int))) H)=_;rw[<-Int.ofNat_fdiv]
theorem zjf {P:Program}{H:Heap}{t:TypeId}{x y:Operand}{k':IntKind}{a:Nat}:dBin P .shr t x y (.int .u64 (a:Int)) (.int k' 8) H=some (.val (.int .u64 ((a / 256:Nat):Int)) H):=by
 rw[bShr (by omega)];show some (Dr.val (.int .u64 ((a:Int).fdiv ((256:Nat):Int))) H)=_;rw[<-Int.ofNat_fdiv]
end Go.Hb
namespace Go.Proofs.hq
open Go Go.RowKit Go.Hb
variable {ok:Ok}
set_option maxRecDepth 10000
attribute [local irreducible] LX LG EL STG SOP SGO SGD SAL SRD SEF SEG SLK SCK ES
theorem zov {x:Nat}(hx:x < 16777216) {H:Heap}:EvF Tryz.prog okT 133 [.int .u64 (x:Int)] H fun v H'=>v=.int .i64 (nbits x:Int)/\H'=H:=by
 refine EvF.enter rfl Tryz.func133 (by decide) rfl ?_;have d1:decide ((x:Int) >= 4294967296)=false:=decide_eq_false (by omega);by_cases h1:65536<=x
 ·have e1:nbits x=nbits (x / 65536)+16:=z66 (e:=16) h1;have d2:decide ((x:Int) >= 65536)=true:=decide_eq_true (by omega);have d3:decide (((x / 65536:Nat):Int) >= 256)=false:=decide_eq_false (by omega)
  repeat' (first|refine qZa ?_|(refine qZe ?_;try simp only[z00])|(refine qZb ?_;simp (disch:=first|omega|rfl) only[sB,initTm,Za,reduceCtorEq,zkv,d1,d2,d3,zfm,z05,z4i])|(refine qZd ?_ ?_;simp only[sB,Za,reduceCtorEq];refine z01 ?_)|(refine qZm ?_ ?_;simp only[sB,Za,reduceCtorEq];refine z01 ?_))
  rw[z20 Tryz.underlying9 (show x / 65536 < _ from by show _ < 256;omega)];generalize hB:byteAt _ (x / 65536)=B;have hB':B=nbits (x / 65536):=by rw[<-hB];exact z8m (by decide +kernel) (by omega)
  have hl:=z39 (n:=x / 65536) (by omega)
  repeat' (first|(refine qZf ?_)|(refine z0f ?_;simp (disch:=first|omega|rfl) only[sB,Za,reduceCtorEq,zcw,z05]))
  exact z03 rfl (by simp only[sB,Za,reduceCtorEq];rfl) ⟨by simp only[Value.int.injEq,true_and];omega,rfl⟩
 ·have d2:decide ((x:Int) >= 65536)=false:=decide_eq_false (by omega);by_cases h2:256<=x
  ·have e2:nbits x=nbits (x / 256)+8:=z66 (e:=8) h2;have d3:decide ((x:Int) >= 256)=true:=decide_eq_true (by omega)
   repeat' (first|refine qZa ?_|(refine qZe ?_;try simp only[z00])|(refine qZb ?_;simp (disch:=first|omega|rfl) only[sB,initTm,Za,reduceCtorEq,zkv,d1,d2,d3,zjf,z05,z4i])|(refine qZd ?_ ?_;simp only[sB,Za,reduceCtorEq];refine z01 ?_)|(refine qZm ?_ ?_;simp only[sB,Za,reduceCtorEq];refine z01 ?_))
   rw[z20 Tryz.underlying9 (show x / 256 < _ from by show _ < 256;omega)];generalize hB:byteAt _ (x / 256)=B;have hB':B=nbits (x / 256):=by rw[<-hB];exact z8m (by decide +kernel) (by omega)
   have hl:=z39 (n:=x / 256) (by omega)
   repeat' (first|(refine qZf ?_)|(refine z0f ?_;simp (disch:=first|omega|rfl) only[sB,Za,reduceCtorEq,zcw,z05]))
   exact z03 rfl (by simp only[sB,Za,reduceCtorEq];rfl) ⟨by simp only[Value.int.injEq,true_and];omega,rfl⟩
  ·have d3:decide ((x:Int) >= 256)=false:=decide_eq_false (by omega)
   repeat' (first|refine qZa ?_|(refine qZe ?_;try simp only[z00])|(refine qZb ?_;simp (disch:=first|omega|rfl) only[sB,initTm,Za,reduceCtorEq,zkv,d1,d2,d3,z4i])|(refine qZm ?_ ?_;simp only[sB,Za,reduceCtorEq];refine z01 ?_))
   rw[z20 Tryz.underlying9 (show x < _ from by show _ < 256;omega)];generalize hB:byteAt _ x=B;have hB':B=nbits x:=by rw[<-hB];exact z8m (by decide +kernel) (by omega)
   have hl:=z39 (n:=x) (by omega)
   repeat' (first|(refine qZf ?_)|(refine z0f ?_;simp (disch:=first|omega|rfl) only[sB,Za,reduceCtorEq,zcw,z05]))
   exact z03 rfl (by simp only[sB,Za,reduceCtorEq];rfl) ⟨by simp only[Value.int.injEq,true_and];omega,rfl⟩
theorem zms {x:Nat}(hx:x < 16777216) {H:Heap}:EvF Tryz.prog okT 100 [.int .u64 (x:Int)] H fun v H'=>v=.int .i64 (nbits x:Int)/\H'=H:=by
 refine EvF.enter rfl Tryz.func100 (by decide) rfl ?_
 repeat' (first|refine qZa ?_|(refine qZe ?_;try simp only[z00])|(refine qZb ?_;simp only[sB,initTm,Za,reduceCtorEq,zur])|(refine qZm ?_ ?_;simp only[zax];refine z01 ?_))
 refine(zov hx).mono ?_;rintro v H2 ⟨rfl,rfl⟩
 repeat' (first|(refine qZf ?_))
 exact z03 rfl (by simp only[sG,Za,reduceCtorEq]) ⟨rfl,rfl⟩
theorem zmt {x:Nat}(h0:0 < x):x < 2 ^ nbits x/\2 ^ nbits x<=2*x:=by
 rw[nbits,if_neg (by omega)];refine⟨Nat.lt_log2_self,?_⟩;have:=Nat.log2_self_le (n:=x) (by omega);rw[Nat.pow_succ];omega
theorem zjg {x:Nat}(h0:0 < x) (hx:x < 16777216) {H:Heap}:EvF Tryz.prog okT 152 [.int .i64 (x:Int)] H fun v H'=>∃m:Nat,v=.int .u64 (m:Int)/\x < m/\m<=2*x/\H'=H:=by
 refine EvF.enter rfl Tryz.func152 (by decide) rfl ?_;have hw1:IntKind.u64.wrap (x:Int)=(x:Int):=wrap_u64 (by omega) (by omega)
 repeat' (first|refine qZa ?_|(refine qZb ?_;simp only[sB,initTm,Za,reduceCtorEq,zew,zqn,hw1]))
 refine(zms hx).mono ?_;rintro v H2 ⟨rfl,rfl⟩;have hp:=zmt h0;have hn:nbits x<=24:=by
  rcases Nat.lt_or_ge 24 (nbits x) with q|q
  ·have:=(zb9 24).1 q;omega
  ·exact q
 have hs:IntKind.u64.wrap (1*2 ^ (min ((nbits x:Nat):Int).toNat IntKind.u64.bits))=((2 ^ nbits x:Nat):Int):=by
  rw[Zv,Nat.min_eq_left (by show nbits x<=64;omega),Int.one_mul];have:((2:Int) ^ nbits x)=((2 ^ nbits x:Nat):Int):=by rw[Int.natCast_pow];rfl
  rw[this,wrap_u64 (by omega) (by omega)]
 rw[Zv] at hs
 repeat' (first|(refine qZf ?_)|(refine z0f ?_;simp (disch:=first|omega|rfl) only[sB,Za,reduceCtorEq,bShl,hs]))
 exact z03 rfl (by simp only[sG,Za,reduceCtorEq]) ⟨_,rfl,hp.1,hp.2,rfl⟩
set_option maxHeartbeats 4000000 in
theorem zsg {s:Nat}{z:Int}{H:Heap}(hs:H.get s=some (.row [.int .u64 z] 189)) (hw:H.wf):EvF Tryz.prog okT 153 [.pointer (some ⟨s,0,none⟩)] H fun v H' =>
  ∃y:Int,v=.int .u64 y/\H'.get s=some (.row [.int .u64 y] 189)/\HK (·=s) H H':=by
 refine EvF.enter rfl Tryz.func153 (by decide) rfl ?_;have step:∀{H0:Heap}{z:Int}(k:Nat) (y:Int),HK (·=s) H H0->H0.get s=some (.row [.int .u64 z] 189)->∃H1,Heap.put ⟨H0.next+k,H0.t⟩ s (some (.row [.int .u64 y] 189))=H1/\HK (·=s) H H1/\H1.get s=some (.row [.int .u64 y] 189):=fun {H0 z} k y hk hg =>
  ⟨_,rfl,(hk.bump k).put (.inl rfl) (ZQ _ (hk.wf _ _ hg)) _,by rw[get_put,if_pos rfl]⟩
 have ld:∀{H0:Heap}{z:Int},H0.get s=some (.row [.int .u64 z] 189)->H0.load ⟨s,0,none⟩ 1=some [.int .u64 z]:=fun h=>by simp only[Heap.load,Heap.cells,h];rfl
 have l0:=ld hs;(repeat refine qZa ?_);refine qZb ?_;simp only[sA,initTm];refine EvC.cut (fun st=>∃tm H' y,st=⟨tm,[],H'⟩/\tm.get 0=some (.pointer (some ⟨s,0,none⟩))/\HK (·=s) H H'/\H'.get s=some (.row [.int .u64 y] 189)) ?_ ?_
 ·repeat' (first|(refine qZj [([(0,0),(1,0),(2,0),(3,0),(4,0),(5,0),(6,0),(7,0),(8,0)],some 9),([],none)] ?_ ?_;kernel_rfl;simp (disch:=first|omega|rfl) only[sD,sB,Za,Zb,one,reduceCtorEq,Int.reduceToNat,zno,znn,z26,z6d,l0,hs,bShl,bXor,isAlloc,isRead]))
  exact⟨_,_,_,rfl,(by simp only[sG,reduceCtorEq]),((HK.refl (S:=fun x=>x=s) hw).bump _).put (.inl rfl) (ZQ _ (hw _ _ hs)) _,by rw[get_put,if_pos rfl]⟩
 clear l0;rintro st ⟨tm,H1,z1,rfl,t0,k1,g1⟩;have l1:=ld g1;refine EvC.cut (fun st=>∃tm H' y,st=⟨tm,[],H'⟩/\tm.get 0=some (.pointer (some ⟨s,0,none⟩))/\HK (·=s) H H'/\H'.get s=some (.row [.int .u64 y] 189)) ?_ ?_
 ·repeat' (first|(refine qZj [([(0,0),(1,0),(2,0),(3,0),(4,0),(5,0),(6,0),(7,0),(8,0)],some 9),([],none)] ?_ ?_;kernel_rfl;simp (disch:=first|omega|rfl) only[sD,sB,Za,Zb,one,reduceCtorEq,Int.reduceToNat,zno,znn,t0,z26,z6d,l1,g1,bShr,bXor,isAlloc,isRead]))
  exact⟨_,_,_,rfl,(by simp only[sG,reduceCtorEq,t0]),(k1.bump _).put (.inl rfl) (ZQ _ (k1.wf _ _ g1)) _,by rw[get_put,if_pos rfl]⟩
 clear l1 t0;rintro st ⟨tm,H2,z2,rfl,t0,k2,g2⟩;have l2:=ld g2;refine EvC.cut (fun st=>∃tm H' y,st=⟨tm,[],H'⟩/\tm.get 0=some (.pointer (some ⟨s,0,none⟩))/\HK (·=s) H H'/\H'.get s=some (.row [.int .u64 y] 189)) ?_ ?_
 ·repeat' (first|(refine qZj [([(0,0),(1,0),(2,0),(3,0),(4,0),(5,0),(6,0),(7,0),(8,0)],some 9),([],none)] ?_ ?_;kernel_rfl;simp (disch:=first|omega|rfl) only[sD,sB,Za,Zb,one,reduceCtorEq,Int.reduceToNat,zno,znn,t0,z26,z6d,l2,g2,bShl,bXor,isAlloc,isRead]))
  exact⟨_,_,_,rfl,(by simp only[sG,reduceCtorEq,t0]),(k2.bump _).put (.inl rfl) (ZQ _ (k2.wf _ _ g2)) _,by rw[get_put,if_pos rfl]⟩
 clear l2 t0;rintro st ⟨tm,H3,z3,rfl,t0,k3,g3⟩;have l3:=ld g3
 repeat' (first|refine qZa ?_|(refine qZf ?_)|(refine qZb ?_;simp only[sB,Za,zno,t0,z26,z6d,l3]))
 exact z03 rfl (by simp only[sG,Za]) ⟨_,rfl,g3,k3⟩
set_option maxHeartbeats 8000000 in
theorem zmu {b n c a e:Nat}{D:Nat->Bnd}{H:Heap}(hr:RowB H 87 b n D) (hn:n<=bmost) (h1:a+12 < e) (h3:e<=n) (hw:H.wf) :
  EvF Tryz.prog okT 126 [.slice (some ⟨b,0,none⟩) n c,.int .i64 (a:Nat),.int .i64 (e:Nat),cvB] H fun _ H' =>
   ∃D',RowB H' 87 b n D'/\Pm a e D D'/\HK (·=b) H H':=by
 have hms:bmost<=1048576:=by simp [bmost]
 refine EvF.enter rfl Tryz.func126 (by decide) rfl ?_;obtain⟨cells0,hg0,-,-⟩:=hr.row;have hbl:=hw _ _ hg0;have hwl:IntKind.i64.wrap ((e:Int) - (a:Int))=((e - a:Nat):Int):=by rw[z05 (by omega) (by omega)];omega
 generalize hl:e - a=l at *;have d8:decide (((l:Nat):Int) >= 8)=true:=decide_eq_true (by omega);have hu:IntKind.u64.wrap (l:Int)=(l:Int):=wrap_u64 (by omega) (by omega);have hq:IntKind.i64.wrap (((l:Nat):Int).tdiv 4)=((l / 4:Nat):Int):=by rw[Int.tdiv_eq_ediv_of_nonneg (by omega),z05 (by omega) (by omega)];omega
 have m2:IntKind.i64.wrap (((l / 4:Nat):Int)*2)=((l / 4*2:Nat):Int):=by rw[z05 (by omega) (by omega)];omega
 have a2:IntKind.i64.wrap ((a:Int)+((l / 4*2:Nat):Int))=((a+l / 4*2:Nat):Int):=by rw[z05 (by omega) (by omega)];omega
 have b1:a+1<=a+l / 4*2/\a+l / 4*2+1 < e:=by omega
 generalize a+l / 4*2=md at *;have a3:IntKind.i64.wrap ((md:Int) - 1)=((md - 1:Nat):Int):=by rw[z05 (by omega) (by omega)];omega
 have a4:IntKind.i64.wrap ((md:Int)+1)=((md+1:Nat):Int):=by rw[z05 (by omega) (by omega)];omega
 (repeat refine qZa ?_);refine qZb ?_;simp only[sB,initTm,Za,Zb,reduceCtorEq,hwl];(repeat refine qZa ?_);refine qZb ?_;simp only[sB,Za,reduceCtorEq,d8];refine qZd (by simp only[sB,Za,reduceCtorEq]) ?_;(try refine qZe ?_);(try simp only[z00,z0b]);(repeat refine qZa ?_);refine qZb ?_;simp only[sB,dAlloc,Za,one,reduceCtorEq,zqr,zuy,znn,hu];obtain⟨H1,e1,hx1,g1,hn1,hw1⟩:=z0o hw (.row [.int .u64 0] 189) (.row [.int .u64 (l:Int)] 189);simp only[e1];clear e1;have r1:=hr.heap (hx1.keep b hbl);(repeat refine qZa ?_);refine qZb ?_;simp only[sB,Za,reduceCtorEq,zuz];refine(zjg (x:=l) (by omega) (by omega)).mono ?_;rintro v H2 ⟨m,rfl,hm1,hm2,rfl⟩
 repeat' (first|refine qZa ?_|refine qZg ?_|(refine qZb ?_;simp (disch:=first|omega|rfl) only[sB,Za,reduceCtorEq,hq,bQuo,m2,a2,a3]))
 have hwm:IntKind.u64.wrap ((m:Int) - 1)=((m - 1:Nat):Int):=by rw[wrap_u64 (by omega) (by omega)];omega
 refine qZk (fun k st=>∃tm H' ix z D',st=⟨tm,[],H'⟩/\k=md+2 - ix/\md - 1<=ix/\ix<=md+2/\tm.get 0=some (.slice (some ⟨b,0,none⟩) n c)/\tm.get 1=some (.int .i64 (a:Nat))/\tm.get 8=some (.int .i64 (l:Nat))/\tm.get 9=some (.pointer (some ⟨H.next,0,none⟩)) /\
  tm.get 10=some (.int .u64 (m:Nat))/\tm.get 11=some (.int .i64 (ix:Nat))/\H'.get H.next=some (.row [.int .u64 z] 189)/\RowB H' 87 b n D'/\Pm a e D D'/\HK (·=b) H H') ?_ 3 _ ?_
 ·rintro k st ⟨tm,H',ix,z,D',rfl,rfl,hi1,hi2,t0,t1,t8,t9,t10,t11,gz,hr',hm,hk⟩;by_cases hle:ix<=md+1;rotate_left
  ·have hd:decide (((ix:Nat):Int)<=((md+1:Nat):Int))=false:=decide_eq_false (by omega)
   repeat' (first|refine qZa ?_|(refine qZi ?_;try simp only[sB])|(refine qZb ?_;simp (disch:=first|omega|rfl) only[sB,Za,t1,t8,t11,hq,bQuo,m2,a2,a4,hd])|(refine qZm ?_ ?_;simp only[sB,Za];refine z01 ?_))
   exact z0r rfl ⟨D',hr',hm,hk⟩
  have hd:decide (((ix:Nat):Int)<=((md+1:Nat):Int))=true:=decide_eq_true (by omega);(repeat refine qZa ?_);refine qZb ?_;simp (disch:=first|omega|rfl) only[sB,Za,t1,t8,t11,hq,bQuo,m2,a2,a4,hd];refine qZd (by simp only[sB,Za]) ?_;(try refine qZe ?_);(try simp only[z00,z0b]);refine qZa ?_;refine qZg ?_;(repeat refine qZa ?_);refine qZb ?_;simp only[sB,Za,zv0,t9];refine(zsg gz hk.wf).mono ?_;rintro v H2 ⟨y,rfl,gy,hk2⟩;obtain⟨cells1,hg1,-,-⟩:=hr'.row;have hbl1:=hk.wf _ _ hg1;have r2:=hr'.heap (hk2.keep b hbl1 (by intro q;have q':b=H.next:=q;omega));have hkk:HK (·=b) H H2:=hk.side hk2 (by intro j hj q;have q':j=H.next:=q;omega);obtain⟨q,hq1,hq2⟩:=zsf (z:=y) (m:=m - 1) (by omega);have hcv:IntKind.i64.wrap (q:Int)=(q:Int):=z05 (by omega) (by omega);(try simp only[sB,Za,zqs,t10,hwm,bAnd,hq1,hcv]);refine EvC.cut (fun st=>∃tm q,st=⟨tm,[],H2⟩/\q < l/\tm.get 0=some (.slice (some ⟨b,0,none⟩) n c)/\tm.get 1=some (.int .i64 (a:Nat))/\tm.get 8=some (.int .i64 (l:Nat))/\tm.get 9=some (.pointer (some ⟨H.next,0,none⟩)) /\
   tm.get 10=some (.int .u64 (m:Nat))/\tm.get 11=some (.int .i64 (ix:Nat))/\tm.get 12=some (.int .i64 (q:Nat))) ?_ ?_
  ·by_cases hql:l<=q
   ·have hd2:decide ((q:Int) >= (l:Int))=true:=decide_eq_true (by omega);have hw3:IntKind.i64.wrap ((q:Int) - (l:Int))=((q - l:Nat):Int):=by rw[z05 (by omega) (by omega)];omega
    repeat' (first|refine qZa ?_|(refine qZb ?_;simp only[sB,Za,t8,hd2,hw3])|(refine qZd ?_ ?_;simp only[sB,Za];refine z01 ?_))
    exact⟨_,q - l,rfl,by omega,(by simp only[sG,reduceCtorEq,t0]),(by simp only[sG,Za,t1]),(by simp only[sG,Za,t8]),(by simp only[sG,Za,t9]),(by simp only[sG,Za,t10]),(by simp only[sG,Za,t11]),(by simp only[sG,Za])⟩
   ·have hd2:decide ((q:Int) >= (l:Int))=false:=decide_eq_false (by omega)
    repeat' (first|refine qZa ?_|(refine qZe ?_;try simp only[true_and])|(refine qZb ?_;simp only[sB,Za,t8,hd2])|(refine qZm ?_ ?_;simp only[sB,Za];refine z01 ?_))
    exact⟨_,q,rfl,by omega,(by simp only[sG,reduceCtorEq,t0]),(by simp only[sG,Za,t1]),(by simp only[sG,Za,t8]),(by simp only[sG,Za,t9]),(by simp only[sG,Za,t10]),(by simp only[sG,Za,t11]),(by simp only[sG,Za])⟩
  clear t0 t1 t8 t9 t10 t11 hq1 hq2 hcv q;rintro st ⟨tm,q,rfl,hql,t0,t1,t8,t9,t10,t11,t12⟩;have hw4:IntKind.i64.wrap ((a:Int)+(q:Int))=((a+q:Nat):Int):=by rw[z05 (by omega) (by omega)];omega
  have hw5:IntKind.i64.wrap ((ix:Int)+1)=((ix+1:Nat):Int):=by rw[z05 (by omega) (by omega)];omega
  have k1:ix < n:=by omega
  have k2:a+q < n:=by omega
  have l1:=r2.load k1;have l2:=r2.load k2;obtain⟨cells,hg2,hl,he⟩:=r2.row;have hbl2:=hkk.wf _ _ hg2;have le1:ix*7+7<=cells.length:=by have:=mul7 k1;omega
  have le2:(a+q)*7+7<=cells.length:=by have:=mul7 k2;omega
  have hsw:=fun H2 h2=>RowB.swap (H:=H') (b:=b) (T:=87) hl he k1 k2 H2 h2
  have ms:=Pm.swap (a:=a) (b:=e) (i:=ix) (j:=a+q) (D:=D') (by omega) (by omega) (by omega) (by omega);generalize swF ix (a+q) D'=D2 at *;generalize hE1:D' ix=E1 at *;generalize hE2:D' (a+q)=E2 at *;have le3:(a+q)*7+7<=(Hb.splice cells (ix*7) E2.seven).length:=by rw[z0k (vs:=E2.seven) le1];exact le2
  repeat' (first|(refine qZb ?_;simp only[sB,Za,t11,hw5])|(refine qZj [([(0,0),(1,0),(6,0),(7,0),(8,0),(9,0),(10,0),(11,0),(12,0),(13,0),(14,0),(15,0),(16,0)],some 17),([(2,0),(3,0),(4,0),(5,0),(18,1)],some 19),([],none)] ?_ ?_;kernel_rfl;simp (disch:=first|omega|rfl) only[sV,sD,sB,Za,Zb,one,reduceCtorEq,ia48,ld87,st87,t0,t1,t11,t12,hw4,l1,l2,hg2,le1,le3,isAlloc,isRead]))
  exact⟨md+2 - (ix+1),by omega,_,_,ix+1,y,D2,rfl,rfl,by omega,by omega,(by simp only[sG,reduceCtorEq,t0]),(by simp only[sG,Za,t1]),(by simp only[sG,Za,t8]),(by simp only[sG,Za,t9]),(by simp only[sG,Za,t10]),(by simp only[sG,Za]),by rw[get_put,if_neg (by omega),get_put,if_neg (by omega)];exact gy,hsw _ (by rw[get_put,if_pos rfl]),hm.trans ms,hkk.two hbl2 _ _ _⟩
 ·exact⟨_,_,md - 1,_,D,rfl,by omega,Ze _,by omega,(by simp only[sG,reduceCtorEq]),(by simp only[sG,Za,reduceCtorEq]),(by simp only[sG,Za,reduceCtorEq]),(by simp only[sG,Za,reduceCtorEq]),(by simp only[sG,Za,reduceCtorEq]),(by simp only[sG,Za,reduceCtorEq]),g1,r1,Pm.refl D,hx1.hk _⟩
end Go.Proofs.hq
end

section
namespace Go.Hb
section
variable {α:Type}
def OutZ (z:α->Int) (a a' e' e:Nat) (D:Nat->α):Prop:=∀p q,a<=p->p < q->q < e->(p < a'\/e'<=q)->z (D p)<=z (D q)
theorem OutZ.start {z:α->Int}{a e:Nat}{D:Nat->α}:OutZ z a a e e D:=fun p q h1 h2 h3 h4=>by omega
theorem OutZ.move {z:α->Int}{a a' e' e:Nat}{D E:Nat->α}(h:OutZ z a a' e' e D) (ha:a<=a') (he:e'<=e) (m:Pm a' e' D E):OutZ z a a' e' e E:=fun p q h1 h2 h3 h4=>by
 by_cases hp:a'<=p/\p < e'
 ·obtain⟨j,j1,j2,ej⟩:=m.inn hp.1 hp.2;rw[ej,m.out (k:=q) (by omega)];exact h j q (by omega) (by omega) h3 (by omega)
 ·rw[m.out (k:=p) (by omega)];by_cases hq:a'<=q/\q < e'
  ·obtain⟨j,j1,j2,ej⟩:=m.inn hq.1 hq.2;rw[ej];exact h p j h1 (by omega) (by omega) (by omega)
  ·rw[m.out (k:=q) (by omega)];exact h p q h1 h2 h3 h4
theorem OutZ.fin {z:α->Int}{a a' e' e:Nat}{D:Nat->α}(h:OutZ z a a' e' e D) (i:InZ z a' e' D):InZ z a e D:=fun p q h1 h2 h3=>by
 by_cases hp:p < a'\/e'<=q
 ·exact h p q h1 h2 h3 hp
 ·exact i p q (by omega) h2 (by omega)
end
end Go.Hb
namespace Go.Proofs.hq
open Go Go.RowKit Go.Hb
variable {ok:Ok}
set_option maxRecDepth 10000
attribute [local irreducible] LX LG EL STG SOP SGO SGD SAL SRD SEF SEG SLK SCK ES
set_option maxHeartbeats 16000000 in
theorem zsh {b n c:Nat}(hn:n<=bmost):∀(M:Nat) {a e lim:Nat}{D:Nat->Bnd}{H:Heap},e - a<=M->a<=e->e<=n->lim<=64->RowB H 87 b n D->(0 < a->∀k,a<=k->k < e->(D (a - 1)).v<=(D k).v)->H.wf ->
  EvF Tryz.prog okT 99 [.slice (some ⟨b,0,none⟩) n c,.int .i64 (a:Nat),.int .i64 (e:Nat),.int .i64 (lim:Nat),cvB] H fun _ H' =>
   ∃D',RowB H' 87 b n D'/\Pm a e D D'/\InZ Bnd.v a e D'/\HK (·=b) H H':=by
 have hms:bmost<=1048576:=by simp [bmost]
 have hg:=z36;intro M
 induction M with
 |zero =>
  intro a e lim D H hM hae hen hlim hr low hw;obtain rfl:e=a:=by omega
  refine EvF.enter rfl Tryz.func99 (by decide) rfl ?_;have hwl:IntKind.i64.wrap ((e:Int) - (e:Int))=0:=by rw[z05 (by omega) (by omega)];omega
  (repeat refine qZa ?_);refine qZb ?_;simp only[sA,initTm,Zb];(repeat refine qZa ?_);refine qZb ?_;simp only[sA];(repeat refine qZa ?_);refine qZg (EvC.loop1 rfl ?_);(repeat refine qZa ?_);refine qZg ?_;have hd:decide ((0:Int)<=12)=true:=rfl
  repeat' (first|refine qZa ?_|(refine qZb ?_;simp only[sB,Za,reduceCtorEq,zqp,hwl,hd])|(refine qZd ?_ ?_;simp only[sB,Za,reduceCtorEq];refine z01 ?_))
  refine(zae hr hn (Ze _) hen hw).mono ?_;rintro v H2 ⟨D2,r2,m2,i2,k2⟩
  repeat' (first|(refine qZf ?_;try simp only[z04,z02]))
  exact z2x rfl ⟨D2,r2,m2,i2,k2⟩
 |succ M ih =>
 intro a e lim D H hM hae hen hlim hr low hw;refine EvF.enter rfl Tryz.func99 (by decide) rfl ?_;(repeat refine qZa ?_);refine qZb ?_;simp only[sA,initTm,Zb];(repeat refine qZa ?_);refine qZb ?_;simp only[sA];(repeat refine qZa ?_);refine qZg (qZk (fun k st=>∃tm H' a' e' lim wb wp D',st=⟨tm,[],H'⟩/\k=e' - a'/\a<=a'/\a'<=e'/\e'<=e/\lim<=64/\tm.get 0=some (.slice (some ⟨b,0,none⟩) n c)/\tm.get 1=some (.int .i64 (a':Nat))/\tm.get 2=some (.int .i64 (e':Nat))/\tm.get 3=some (.int .i64 (lim:Nat))/\tm.get 4=some cvB /\
  tm.get 10=some (.bool wb)/\tm.get 11=some (.bool wp)/\RowB H' 87 b n D'/\Pm a e D D'/\OutZ Bnd.v a a' e' e D'/\HK (·=b) H H') ?_ (e - a) _ ?_)
 rotate_left
 ·exact⟨_,_,a,e,lim,true,true,D,rfl,rfl,Ze _,hae,Ze _,hlim,(by simp only[sG,reduceCtorEq]),(by simp only[sG,Za,reduceCtorEq]),(by simp only[sG,Za,reduceCtorEq]),(by simp only[sG,Za,reduceCtorEq]),(by simp only[sG,Za,reduceCtorEq]),(by simp only[sG,Za,reduceCtorEq]),(by simp only[sG,Za,reduceCtorEq]),hr,Pm.refl D,OutZ.start,HK.refl hw⟩
 rintro k st ⟨tm,H0,a',e',lim,wb,wp,D0,rfl,rfl,ha',hae',he',hlim,t0,t1,t2,t3,t4,t10,t11,hr0,hm0,ho0,hk0⟩;have lowD:∀D',Pm a e D D'->OutZ Bnd.v a a' e' e D'->0 < a'->∀k,a'<=k->k < e'->(D' (a' - 1)).v<=(D' k).v:=fun D' hm ho h0 k k1 k2=>by
  by_cases hq:a < a'
  ·exact ho (a' - 1) k (by omega) (by omega) (by omega) (.inl (by omega))
  ·obtain rfl:a'=a:=by omega
   rw[hm.out (k:=a' - 1) (.inl (by omega))];exact hm.all (P:=fun x=>(D (a' - 1)).v<=x.v) (low h0) k k1 (by omega)
 (repeat refine qZa ?_);refine qZg ?_;have hwl:IntKind.i64.wrap ((e':Int) - (a':Int))=((e' - a':Nat):Int):=by rw[z05 (by omega) (by omega)];omega
 by_cases h12:e' - a'<=12
 ·have hd:decide (((e' - a':Nat):Int)<=12)=true:=decide_eq_true (by omega)
  repeat' (first|refine qZa ?_|(refine qZb ?_;simp only[sB,Za,reduceCtorEq,zqp,t0,t1,t2,t4,hwl,hd])|(refine qZd ?_ ?_;simp only[sB,Za];refine z01 ?_))
  refine(zae hr0 hn hae' (by omega) hk0.wf).mono ?_;rintro v H2 ⟨D2,r2,m2,i2,k2⟩
  repeat' (first|(refine qZf ?_;try simp only[z04,z02]))
  exact z2x rfl ⟨D2,r2,hm0.trans (m2.wide ha' he'),(ho0.move ha' he' m2).fin i2,hk0.trans k2⟩
 have hd12:decide (((e' - a':Nat):Int)<=12)=false:=decide_eq_false (by omega);by_cases hl0:lim=0
 ·have hd:((lim:Int) == 0)=true:=z0v (by omega)
  repeat' (first|refine qZa ?_|(refine qZe ?_;try simp only[z00])|(refine qZb ?_;simp only[sB,Za,reduceCtorEq,zuj,t0,t1,t2,t3,t4,hwl,hd12,hd])|(refine qZd ?_ ?_;simp only[sB,Za];refine z01 ?_)|(refine qZm ?_ ?_;simp only[sB,Za];refine z01 ?_))
  refine(zot hr0 hn (by omega) (by omega) hk0.wf).mono ?_;rintro v H2 ⟨D2,r2,m2,i2,k2⟩
  repeat' (first|(refine qZf ?_;try simp only[z04,z02]))
  exact z2x rfl ⟨D2,r2,hm0.trans (m2.wide ha' he'),(ho0.move ha' he' m2).fin i2,hk0.trans k2⟩
 have hdl:((lim:Int) == 0)=false:=z0h (by omega);(repeat refine qZa ?_);refine qZb ?_;simp only[sB,Za,t1,t2,hwl];(repeat refine qZa ?_);refine qZb ?_;simp only[sB,Za,hd12];refine qZm (by simp only[sB,Za]) ?_;(try refine qZe ?_);(try simp only[z00,z0b]);(repeat refine qZa ?_);refine qZb ?_;simp only[sB,Za,t3,hdl];refine qZm (by simp only[sB,Za]) ?_;(try refine qZe ?_);(try simp only[z00,z0b]);refine EvC.cut (fun st=>∃tm H' lim D',st=⟨tm,[],H'⟩/\lim<=64/\tm.get 0=some (.slice (some ⟨b,0,none⟩) n c)/\tm.get 1=some (.int .i64 (a':Nat))/\tm.get 2=some (.int .i64 (e':Nat))/\tm.get 3=some (.int .i64 (lim:Nat))/\tm.get 4=some cvB /\
  tm.get 10=some (.bool wb)/\tm.get 11=some (.bool wp)/\tm.get 12=some (.int .i64 ((e' - a':Nat):Int))/\RowB H' 87 b n D'/\Pm a e D D'/\OutZ Bnd.v a a' e' e D'/\HK (·=b) H H') ?_ ?_
 ·cases wb with
  |true =>
   repeat' (first|refine qZa ?_|(refine qZe ?_;try simp only[true_and])|(refine qZb ?_;simp only[sB,Za,t10,Zn])|(refine qZm ?_ ?_;simp only[sB,Za];refine z01 ?_))
   exact⟨_,_,lim,D0,rfl,hlim,(by simp only[sG,reduceCtorEq,t0]),(by simp only[sG,Za,t1]),(by simp only[sG,Za,t2]),(by simp only[sG,Za,t3]),(by simp only[sG,Za,t4]),(by simp only[sG,Za,t10]),(by simp only[sG,Za,t11]),(by simp only[sG,Za]),hr0,hm0,ho0,hk0⟩
  |false =>
   have hwm:IntKind.i64.wrap ((lim:Int) - 1)=((lim - 1:Nat):Int):=by rw[z05 (by omega) (by omega)];omega
   repeat' (first|refine qZa ?_|(refine qZb ?_;simp only[sB,Za,reduceCtorEq,zuk,t0,t1,t2,t4,t10,Zw])|(refine qZd ?_ ?_;simp only[sB,Za];refine z01 ?_))
   refine(zmu hr0 hn (by omega) (by omega) hk0.wf).mono ?_;rintro v H2 ⟨D2,r2,m2,k2⟩
   repeat' (first|(refine qZb ?_;simp only[sB,Za,t3,hwm]))
   exact⟨_,_,lim - 1,D2,rfl,by omega,(by simp only[sG,reduceCtorEq,t0]),(by simp only[sG,Za,t1]),(by simp only[sG,Za,t2]),(by simp only[sG,Za]),(by simp only[sG,Za,t4]),(by simp only[sG,Za,t10]),(by simp only[sG,Za,t11]),(by simp only[sG,Za]),r2,hm0.trans (m2.wide ha' he'),ho0.move ha' he' m2,hk0.trans k2⟩
 clear t0 t1 t2 t3 t4 t10 t11 hr0 hm0 ho0 hk0 hdl hl0 hlim D0 lim;rintro st ⟨tm,H1,lim,D1,rfl,hlim,t0,t1,t2,t3,t4,t10,t11,t12,hr1,hm1,ho1,hk1⟩;(repeat refine qZa ?_);refine qZb ?_;simp only[sB,Za,zul,t0,t1,t2,t4];refine(zmr hr1 hn (by omega) (by omega) hk1.wf).mono ?_;rintro v H2 ⟨p,hint,rfl,hp1,hp2,hx2⟩;obtain⟨cells1,hg1,-,-⟩:=hr1.row;have hbl1:=hk1.wf _ _ hg1;have hr2:=hr1.heap (hx2.keep b hbl1);have hk2:=hk1.hxs hx2;clear hx2 hr1 hk1 hg1 hbl1;(try simp only[sB,Za]);refine EvC.cut (fun st=>∃tm H' p hint D',st=⟨tm,[],H'⟩/\a'<=p/\p < e'/\tm.get 0=some (.slice (some ⟨b,0,none⟩) n c)/\tm.get 1=some (.int .i64 (a':Nat))/\tm.get 2=some (.int .i64 (e':Nat))/\tm.get 3=some (.int .i64 (lim:Nat))/\tm.get 4=some cvB /\
  tm.get 10=some (.bool wb)/\tm.get 11=some (.bool wp)/\tm.get 12=some (.int .i64 ((e' - a':Nat):Int))/\tm.get 13=some (.int .i64 (p:Nat))/\tm.get 14=some (.int .i64 hint)/\RowB H' 87 b n D'/\Pm a e D D'/\OutZ Bnd.v a a' e' e D'/\HK (·=b) H H') ?_ ?_
 ·by_cases h2:hint=2
  ·have hd:(hint == 2)=true:=z0v h2;have hw1:IntKind.i64.wrap ((e':Int) - 1)=((e' - 1:Nat):Int):=by rw[z05 (by omega) (by omega)];omega
   have hw2:IntKind.i64.wrap ((p:Int) - (a':Int))=((p - a':Nat):Int):=by rw[z05 (by omega) (by omega)];omega
   have hw3:IntKind.i64.wrap (((e' - 1:Nat):Int) - ((p - a':Nat):Int))=((e' - 1 - (p - a'):Nat):Int):=by rw[z05 (by omega) (by omega)];omega
   repeat' (first|refine qZa ?_|(refine qZb ?_;simp only[sB,Za,reduceCtorEq,zum,t0,t1,t2,t4,hd])|(refine qZd ?_ ?_;simp only[sB,Za];refine z01 ?_))
   refine(zfk hr2 hn (by omega) (by omega) hk2.wf).mono ?_;rintro v H3 ⟨D3,r3,m3,k3⟩
   repeat' (first|refine qZa ?_|(refine qZb ?_;simp only[sB,Za,t1,t2,hw1,hw2,hw3]))
   exact⟨_,_,e' - 1 - (p - a'),1,D3,rfl,by omega,by omega,(by simp only[sG,reduceCtorEq,t0]),(by simp only[sG,Za,t1]),(by simp only[sG,Za,t2]),(by simp only[sG,Za,t3]),(by simp only[sG,Za,t4]),(by simp only[sG,Za,t10]),(by simp only[sG,Za,t11]),(by simp only[sG,Za,t12]),(by simp only[sG,Za]),(by simp only[sG,Za]),r3,hm1.trans (m3.wide ha' he'),ho1.move ha' he' m3,hk2.trans k3⟩
  ·have hd:(hint == 2)=false:=z0h h2
   repeat' (first|refine qZa ?_|(refine qZe ?_;try simp only[true_and])|(refine qZb ?_;simp only[sB,Za,hd])|(refine qZm ?_ ?_;simp only[sB,Za];refine z01 ?_))
   exact⟨_,_,p,hint,D1,rfl,hp1,hp2,(by simp only[sG,reduceCtorEq,t0]),(by simp only[sG,Za,t1]),(by simp only[sG,Za,t2]),(by simp only[sG,Za,t3]),(by simp only[sG,Za,t4]),(by simp only[sG,Za,t10]),(by simp only[sG,Za,t11]),(by simp only[sG,Za,t12]),(by simp only[sG,Za]),(by simp only[sG,Za]),hr2,hm1,ho1,hk2⟩
 clear t0 t1 t2 t3 t4 t10 t11 t12 hr2 hk2 hm1 ho1 hp1 hp2 p hint;rintro st ⟨tm,H3,p,hint,D3,rfl,hp1,hp2,t0,t1,t2,t3,t4,t10,t11,t12,t13,t14,hr3,hm3,ho3,hk3⟩;refine qZa (EvC.join (fun st=>∃tm H' D',st=⟨tm,[],H'⟩/\tm.get 0=some (.slice (some ⟨b,0,none⟩) n c)/\tm.get 1=some (.int .i64 (a':Nat))/\tm.get 2=some (.int .i64 (e':Nat))/\tm.get 3=some (.int .i64 (lim:Nat))/\tm.get 4=some cvB /\
  tm.get 10=some (.bool wb)/\tm.get 11=some (.bool wp)/\tm.get 12=some (.int .i64 ((e' - a':Nat):Int))/\tm.get 13=some (.int .i64 (p:Nat))/\RowB H' 87 b n D'/\Pm a e D D'/\OutZ Bnd.v a a' e' e D'/\HK (·=b) H H') ?_ ?_)
 ·cases wb with
  |false =>
   repeat' (first|refine qZa ?_|(refine qZe ?_;try simp only[z00])|(refine qZb ?_;simp only[sB,Za,t10,Zd])|(refine qZm ?_ ?_;simp only[sB,Za];refine z01 ?_))
   exact⟨_,_,D3,rfl,(by simp only[sG,reduceCtorEq,t0]),(by simp only[sG,Za,t1]),(by simp only[sG,Za,t2]),(by simp only[sG,Za,t3]),(by simp only[sG,Za,t4]),(by simp only[sG,Za,t10]),(by simp only[sG,Za,t11]),(by simp only[sG,Za,t12]),(by simp only[sG,Za,t13]),hr3,hm3,ho3,hk3⟩
  |true =>
  cases wp with
  |false =>
   repeat' (first|refine qZa ?_|(refine qZe ?_;try simp only[z00])|(refine qZb ?_;simp only[sB,Za,t10,t11,Zd])|(refine qZm ?_ ?_;simp only[sB,Za];refine z01 ?_))
   exact⟨_,_,D3,rfl,(by simp only[sG,reduceCtorEq,t0]),(by simp only[sG,Za,t1]),(by simp only[sG,Za,t2]),(by simp only[sG,Za,t3]),(by simp only[sG,Za,t4]),(by simp only[sG,Za,t10]),(by simp only[sG,Za,t11]),(by simp only[sG,Za,t12]),(by simp only[sG,Za,t13]),hr3,hm3,ho3,hk3⟩
  |true =>
  by_cases h1:hint=1;rotate_left
  ·have hd:(hint == 1)=false:=z0h h1
   repeat' (first|refine qZa ?_|(refine qZe ?_;try simp only[z00])|(refine qZb ?_;simp only[sB,Za,t10,t11,t14,hd])|(refine qZm ?_ ?_;simp only[sB,Za];refine z01 ?_))
   exact⟨_,_,D3,rfl,(by simp only[sG,reduceCtorEq,t0]),(by simp only[sG,Za,t1]),(by simp only[sG,Za,t2]),(by simp only[sG,Za,t3]),(by simp only[sG,Za,t4]),(by simp only[sG,Za,t10]),(by simp only[sG,Za,t11]),(by simp only[sG,Za,t12]),(by simp only[sG,Za,t13]),hr3,hm3,ho3,hk3⟩
  have hd:(hint == 1)=true:=z0v h1
  repeat' (first|refine qZa ?_|(refine qZb ?_;simp only[sB,Za,reduceCtorEq,zun,t0,t1,t2,t4,t10,t11,t14,hd])|(refine qZd ?_ ?_;simp only[sB,Za];refine z01 ?_))
  refine(zfl hr3 hn (by omega) (by omega) (lowD D3 hm3 ho3) hk3.wf).mono ?_;rintro v H4 ⟨t,D4,rfl,r4,m4,i4,k4⟩;cases t with
  |true =>
   repeat' (first|(refine qZf ?_;try simp only[z04,z02])|(refine qZd ?_ ?_;simp only[sB,Za];refine z01 ?_))
   exact z2x rfl ⟨D4,r4,hm3.trans (m4.wide ha' he'),(ho3.move ha' he' m4).fin (i4 rfl),hk3.trans k4⟩
  |false =>
   repeat' (first|(refine qZe ?_;try simp only[z00])|(refine qZm ?_ ?_;simp only[sB,Za];refine z01 ?_))
   exact⟨_,_,D4,rfl,(by simp only[sG,reduceCtorEq,t0]),(by simp only[sG,Za,t1]),(by simp only[sG,Za,t2]),(by simp only[sG,Za,t3]),(by simp only[sG,Za,t4]),(by simp only[sG,Za,t10]),(by simp only[sG,Za,t11]),(by simp only[sG,Za,t12]),(by simp only[sG,Za,t13]),r4,hm3.trans (m4.wide ha' he'),ho3.move ha' he' m4,hk3.trans k4⟩
 clear t0 t1 t2 t3 t4 t10 t11 t12 t13 t14 hr3 hm3 ho3 hk3 hint;rintro st ⟨tm,H4,D4,rfl,t0,t1,t2,t3,t4,t10,t11,t12,t13,hr4,hm4,ho4,hk4⟩;(try simp only[z00]);refine qZa (EvC.join (fun st=>∃tm H',st=⟨tm,[],H'⟩/\tm.get 0=some (.slice (some ⟨b,0,none⟩) n c)/\tm.get 1=some (.int .i64 (a':Nat))/\tm.get 2=some (.int .i64 (e':Nat))/\tm.get 3=some (.int .i64 (lim:Nat))/\tm.get 4=some cvB /\
  tm.get 10=some (.bool wb)/\tm.get 11=some (.bool wp)/\tm.get 12=some (.int .i64 ((e' - a':Nat):Int))/\tm.get 13=some (.int .i64 (p:Nat))/\RowB H' 87 b n D4/\HK (·=b) H H') ?_ ?_)
 ·by_cases h0:a'=0
  ·have hd:decide ((a':Int) > 0)=false:=decide_eq_false (by omega)
   repeat' (first|refine qZa ?_|(refine qZe ?_;try simp only[z00])|(refine qZj [([(0,0),(1,0),(2,0),(3,0),(4,0),(5,0),(6,0),(7,0),(8,0),(9,0),(10,0),(11,0),(12,0)],some 13),([(14,1),(15,1),(16,1)],none)] ?_ ?_;kernel_rfl;simp only[sD,sB,Za,Zb,t1,hd,Zd,isAlloc,isRead])|(refine qZm ?_ ?_;simp only[sB,Za];refine z01 ?_))
   exact⟨_,_,rfl,(by simp only[sG,reduceCtorEq,t0]),(by simp only[sG,Za,t1]),(by simp only[sG,Za,t2]),(by simp only[sG,Za,t3]),(by simp only[sG,Za,t4]),(by simp only[sG,Za,t10]),(by simp only[sG,Za,t11]),(by simp only[sG,Za,t12]),(by simp only[sG,Za,t13]),hr4.heap rfl,hk4.bump _⟩
  have hd:decide ((a':Int) > 0)=true:=decide_eq_true (by omega);have hw1:IntKind.i64.wrap ((a':Int) - 1)=((a' - 1:Nat):Int):=by rw[z05 (by omega) (by omega)];omega
  have k1:a' - 1 < n:=by omega
  have k2:p < n:=by omega
  have l1:=hr4.load k1;have l2:=hr4.load k2;have hb:=hk4.bump 17
  repeat' (first|refine qZa ?_|(refine qZj [([(0,0),(1,0),(2,0),(3,0),(4,0),(5,0),(6,0),(7,0),(8,0),(9,0),(10,0),(11,0),(12,0)],some 13),([(14,1),(15,1),(16,1)],none)] ?_ ?_;kernel_rfl;simp (disch:=first|omega|rfl) only[sD,sB,Za,Zb,reduceCtorEq,ia48,ld87,t0,t1,t4,t13,hd,hw1,l1,l2,z10,z0m hg,isAlloc,isRead]))
  obtain⟨cells0,hg0,-,-⟩:=hr4.row;have hbl:=hk4.wf _ _ hg0;refine(z27 hb.wf).mono ?_;rintro v H5 ⟨rfl,hx5⟩;have hk5:=hb.hxs hx5;have r5:=hr4.heap (H':=H5) (by rw[hx5.keep b (ZQ _ hbl)];rfl);by_cases hc:(D4 (a' - 1)).v < (D4 p).v
  ·repeat' (first|(refine qZe ?_;try simp only[z00])|(refine z0p ?_;simp only[sD,sB,Za,cz_t hc,Zn,isAlloc,isRead])|(refine qZm ?_ ?_;simp only[sB,Za];refine z01 ?_))
   exact⟨_,_,rfl,(by simp only[sG,reduceCtorEq,t0]),(by simp only[sG,Za,t1]),(by simp only[sG,Za,t2]),(by simp only[sG,Za,t3]),(by simp only[sG,Za,t4]),(by simp only[sG,Za,t10]),(by simp only[sG,Za,t11]),(by simp only[sG,Za,t12]),(by simp only[sG,Za,t13]),r5,hk5⟩
  ·repeat' (first|refine qZa ?_|(refine qZb ?_;simp only[sB,Za,reduceCtorEq,zuo,t0,t1,t2,t4,t13])|(refine z0p ?_;simp only[sD,sB,Za,cz_f hc,Zw,isAlloc,isRead])|(refine qZd ?_ ?_;simp only[sB,Za];refine z01 ?_))
   refine(zje r5 hn hp1 hp2 (by omega) hk5.wf).mono ?_;rintro v H6 ⟨m,D6,rfl,q1,q2,r6,m6,lo6,hi6,k6⟩
   repeat' (first|refine qZa ?_|(refine qZi ?_;try simp only[sB,reduceCtorEq])|(refine qZb ?_;simp only[sB,Za]))
   have ho6:=ho4.move ha' he' m6;have hm6:=hm4.trans (m6.wide ha' he');have lw:=lowD D6 hm6 ho6 (by omega);have lx:(D6 (a' - 1)).v=(D4 (a' - 1)).v:=by rw[m6.out (.inl (by omega))]
   exact⟨e' - m,by omega,_,_,m,e',lim,wb,wp,D6,rfl,rfl,by omega,by omega,he',hlim,(by simp only[sG,reduceCtorEq,t0]),(by simp only[sG,Za]),(by simp only[sG,Za,t2]),(by simp only[sG,Za,t3]),(by simp only[sG,Za,t4]),(by simp only[sG,Za,t10]),(by simp only[sG,Za,t11]),r6,hm6,fun p' q' p1 p2 p3 p4=>by
    by_cases c1:p' < a'\/e'<=q'
    ·exact ho6 p' q' p1 p2 p3 c1
    ·have x1:=lo6 p' (by omega) (by omega);have x2:=lw q' (by omega) (by omega);omega,hk5.trans k6⟩
 clear t0 t1 t2 t3 t4 t10 t11 t12 t13 hr4 hk4;rintro st ⟨tm,H5,rfl,t0,t1,t2,t3,t4,t10,t11,t12,t13,hr5,hk5⟩;(try simp only[z00]);(repeat refine qZa ?_);refine qZb ?_;simp only[sB,Za,zup,t0,t1,t2,t4,t13];refine(zou hr5 hn hp1 hp2 (by omega) hk5.wf).mono ?_;rintro v H6 ⟨m,f,D6,rfl,q1,q2,r6,m6,lo6,hi6,k6⟩;have ho6:=ho4.move ha' he' m6;have hm6:=hm4.trans (m6.wide ha' he');have hk6:=hk5.trans k6;have hw1:IntKind.i64.wrap ((m:Int) - (a':Int))=((m - a':Nat):Int):=by rw[z05 (by omega) (by omega)];omega
 have hw2:IntKind.i64.wrap ((e':Int) - (m:Int))=((e' - m:Nat):Int):=by rw[z05 (by omega) (by omega)];omega
 have hw3:IntKind.i64.wrap ((m:Int)+1)=((m+1:Nat):Int):=by rw[z05 (by omega) (by omega)];omega
 have hq8:IntKind.i64.wrap (((e' - a':Nat):Int).tdiv 8)=(((e' - a') / 8:Nat):Int):=by rw[Int.tdiv_eq_ediv_of_nonneg (by omega),z05 (by omega) (by omega)];omega
 by_cases hll:m - a' < e' - m
 ·repeat' (first|refine qZa ?_|(refine qZb ?_;simp (disch:=first|omega|rfl) only[sB,Za,reduceCtorEq,cl99,t0,t1,t2,t3,t4,t12,hw1,hw2,bQuo,hq8,decl hll])|(refine z0f ?_;simp only[sB,Za])|(refine qZd ?_ ?_;simp only[sB,Za];refine z01 ?_))
  refine(ih (a:=a') (e:=m) (lim:=lim) (by omega) q1 (by omega) hlim r6 (fun h0 k k1 k2=>lowD D6 hm6 ho6 h0 k k1 (by omega)) hk6.wf).mono ?_;rintro v H7 ⟨D7,r7,m7,i7,k7⟩
  repeat' (first|(refine qZb ?_;simp only[sB,Za,hw3]))
  have ho7:=ho6.move ha' he' (m7.wide (Ze _) (by omega));exact⟨e' - (m+1),by omega,_,_,m+1,e',lim,_,f,D7,rfl,rfl,by omega,by omega,he',hlim,(by simp only[sG,reduceCtorEq,t0]),(by simp only[sG,Za]),(by simp only[sG,Za,t2]),(by simp only[sG,Za,t3]),(by simp only[sG,Za,t4]),(by simp only[sB,Za];rfl),(by simp only[sG,Za]),r7,hm6.trans (m7.wide ha' (by omega)),fun p' q' p1 p2 p3 p4=>by
   by_cases c1:p' < a'\/e'<=q'
   ·exact ho7 p' q' p1 p2 p3 c1
   ·by_cases c2:q' < m
    ·exact i7 p' q' (by omega) p2 c2
    ·by_cases c3:p'=m
     ·subst c3;rw[m7.out (.inr (Ze _)),m7.out (k:=q') (.inr (by omega))];exact hi6 q' (by omega) (by omega)
     ·obtain⟨j,j1,j2,ej⟩:=m7.inn (k:=p') (by omega) (by omega);rw[ej,m7.out (k:=q') (.inr (by omega))];have x1:=lo6 j j1 j2;by_cases c4:q'=m
      ·subst c4;omega
      ·have x2:=hi6 q' (by omega) (by omega);omega,hk6.trans k7⟩
 ·repeat' (first|refine qZa ?_|(refine qZb ?_;simp (disch:=first|omega|rfl) only[sB,Za,reduceCtorEq,cl99,t0,t1,t2,t3,t4,t12,hw1,hw2,hw3,bQuo,hq8,decn hll])|(refine z0f ?_;simp only[sB,Za])|(refine qZm ?_ ?_;simp only[sB,Za];refine z01 ?_))
  refine(ih (a:=m+1) (e:=e') (lim:=lim) (by omega) (by omega) (by omega) hlim r6 (fun h0 k k1 k2=>hi6 k (by omega) k2) hk6.wf).mono ?_;rintro v H7 ⟨D7,r7,m7,i7,k7⟩
  repeat' (first|(refine qZb ?_;simp only[sB,Za]))
  have ho7:=ho6.move ha' he' (m7.wide (by omega) (Ze _));exact⟨m - a',by omega,_,_,a',m,lim,_,f,D7,rfl,rfl,ha',q1,by omega,hlim,(by simp only[sG,reduceCtorEq,t0]),(by simp only[sG,Za,t1]),(by simp only[sG,Za]),(by simp only[sG,Za,t3]),(by simp only[sG,Za,t4]),(by simp only[sB,Za];rfl),(by simp only[sG,Za]),r7,hm6.trans (m7.wide (by omega) he'),fun p' q' p1 p2 p3 p4=>by
   by_cases c1:p' < a'\/e'<=q'
   ·exact ho7 p' q' p1 p2 p3 c1
   ·by_cases c2:m < p'
    ·exact i7 p' q' (by omega) p2 (by omega)
    ·rw[m7.out (k:=p') (.inl (by omega))];by_cases c3:q'=m
     ·subst c3;rw[m7.out (.inl (by omega))];have x1:=lo6 p' (by omega) (by omega);omega
     ·obtain⟨j,j1,j2,ej⟩:=m7.inn (k:=q') (by omega) (by omega);rw[ej];have x2:=hi6 j (by omega) j2;by_cases c4:p'=m
      ·subst c4;exact x2
      ·have x1:=lo6 p' (by omega) (by omega);omega,hk6.trans k7⟩
set_option maxHeartbeats 4000000 in
theorem zow {b n c:Nat}{D:Nat->Bnd}{H:Heap}(hr:RowB H 87 b n D) (hn:n<=bmost) (hw:H.wf) :
  EvF Tryz.prog okT 57 [.slice (some ⟨b,0,none⟩) n c,cvB] H fun _ H'=>∃D',RowB H' 87 b n D'/\Pm 0 n D D'/\InZ Bnd.v 0 n D'/\HK (·=b) H H':=by
 have hms:bmost<=1048576:=by simp [bmost]
 refine EvF.enter rfl Tryz.func57 (by decide) rfl ?_;have hu:IntKind.u64.wrap (n:Int)=(n:Int):=wrap_u64 (by omega) (by omega);have hlim:nbits n<=64:=by
  rcases Nat.lt_or_ge 64 (nbits n) with q|q
  ·have:=(zb9 64).1 q;omega
  ·exact q
 repeat' (first|refine qZa ?_|(refine qZb ?_;simp only[sB,initTm,Za,reduceCtorEq,ln48,zew,zqn,cl99,hu]))
 refine(zms (x:=n) (by omega)).mono ?_;rintro v H2 ⟨rfl,rfl⟩
 skip
 refine(zsh hn n (a:=0) (e:=n) (by omega) (ZA _) (Ze _) hlim hr (fun h=>by omega) hw).mono ?_;rintro v H3 ⟨D3,r3,m3,i3,k3⟩
 skip
 exact z0r rfl ⟨D3,r3,m3,i3,k3⟩
end Go.Proofs.hq
end

section
namespace Go.Hb
open Go Go.RowKit
def BdV (H:Heap) (T:TypeId) (base:Nat) (v:Value) (L:List Bnd):Prop :=
 (L=[]/\v=.slice none 0 0)\/∃b c,v=.slice (some ⟨b,0,none⟩) L.length c/\L.length<=c/\c<=maxLen/\H.get b=some (.row (L.map Bnd.seven).flatten T)/\base<=b/\∀d∈L,∀n,d.e.S n->n < b
theorem zah (L:List Bnd):((L.map Bnd.seven).flatten).length=L.length*7:=by
 rw[z2r (s:=7) _ (fun x hx=>by obtain⟨d,-,rfl⟩:=List.mem_map.1 hx;rfl),Zp]
theorem zmv (L:List Bnd):((L.map Bnd.seven).flatten).all one=true:=by
 rw[List.all_eq_true];intro z hz;obtain⟨l,hl1,hl2⟩:=List.mem_flatten.1 hz;obtain⟨d,-,rfl⟩:=List.mem_map.1 hl1;exact List.all_eq_true.1 (Bnd.seven_ones d) z hl2
theorem BdV.push {P:Program}{T t:TypeId}(hp:apOk P t T 7) {H:Heap}{base:Nat}{v:Value}{L:List Bnd}{x:Bnd}(h:BdV H T base v L) (hw:H.wf) (hm:L.length+1<=most) (hb:base<=H.next) (hS:∀d∈L++[x],∀n,d.e.S n->n < H.next) {lo:Nat}(hlo:∀b c,v=.slice (some ⟨b,0,none⟩) L.length c->b < lo) (hxl:∀n,x.e.S n->lo<=n) :
  ∃H2 v2,dAp P #[t,t] v (.slice (some ⟨H.next,0,none⟩) 1 1) (H.new (some (.row x.seven T)))=some (.val v2 H2)/\BdV H2 T base v2 (L++[x])/\HK (fun n=>base<=n) H H2/\∀d∈L++[x],∀n,d.e.S n->H2.get n=H.get n:=by
 have hmax:L.length+1<=maxLen:=ZC hm (by simp [most,maxLen]);have hl:(H.new (some (.row x.seven T))).load ⟨H.next,0,none⟩ (1*7)=some x.seven:=by rw[z3p,Nat.one_mul];rfl
 have hx1:=(HX.refl hw).new (some (.row x.seven T));rcases h with ⟨rfl,rfl⟩|⟨b,c,rfl,hlc,hcm,hg,hbb,hSb⟩
 ·refine⟨_,_,z6m hp (by omega) (by simp [most]) hl (Bnd.seven_ones x),.inr ⟨H.next+1,1,rfl,by simp,by simp [maxLen],?_,by omega,fun d hd n hn=>?_⟩,((hx1.new _).hk _),fun d hd n hn=>by have:=hS d hd n hn;rw[z1f (Nat.lt_succ_of_lt this),z1f this]⟩
  ·have:((H.new (some (.row x.seven T))).new (some (.row x.seven T))).get (H.next+1)=some (.row x.seven T):=z0z;simpa using this
  ·have:=hS d hd n hn;omega
 ·have hbn:=hw _ _ hg;have hg1:(H.new (some (.row x.seven T))).get b=some (.row (L.map Bnd.seven).flatten T):=by rw[z1f hbn];exact hg
  have hfl:=zah L;refine⟨_,_,z5g hp (by omega) hm hl (Bnd.seven_ones x) hg1 (by omega) (by rw[Zq (by omega)];exact zmv L),.inr ⟨H.next+1,L.length+1,by simp;rfl,by simp,hmax,?_,by omega,fun d hd n hn=>?_⟩,?_,fun d hd n hn=>?_⟩
  ·have:((Heap.put (H.new (some (.row x.seven T))) b none).new (some (.row ((L.map Bnd.seven).flatten.take (L.length*7)++x.seven) T))).get (H.next+1)=some (.row ((L.map Bnd.seven).flatten.take (L.length*7)++x.seven) T):=z0z;rw[Zq (by omega)] at this ⊢;simpa using this
  ·have:=hS d hd n hn;omega
  ·exact((hx1.hk (fun n=>base<=n)).put (.inl hbb) (Nat.lt_succ_of_lt hbn) none).new _
  ·have h2:=hS d hd n hn;have h1:n≠b:=by
    rcases List.mem_append.1 hd with h|h
    ·have:=hSb d h n hn;omega
    ·rw[Zx] at h;subst h;have:=hxl n hn;have:=hlo b c rfl;omega
   rw[z1f (by rw[z14];exact Nat.lt_succ_of_lt (by omega)),z3q h1,z1f (by omega)]
theorem BdV.heap {H H':Heap}{T:TypeId}{base:Nat}{v:Value}{L:List Bnd}(h:BdV H T base v L) (hx:HX H H') (hw:H.wf):BdV H' T base v L:=by
 rcases h with h|⟨b,c,h1,h2,h3,h4,h5⟩
 ·exact .inl h
 ·exact .inr ⟨b,c,h1,h2,h3,hx.get hw h4,h5⟩
end Go.Hb
namespace Go.Proofs.hq
open Go Go.RowKit Go.Hb
variable {ok:Ok}
set_option maxRecDepth 10000
attribute [local irreducible] LX LG EL STG SOP SGO SGD SAL SRD SEF SEG SLK SCK ES
theorem Pm.sig {α:Type}{a b:Nat}{D E:Nat->α}(h:Pm a b D E):∃s t:Nat->Nat,(∀k,t (s k)=k)/\(∀k,s (t k)=k)/\(∀k,a<=k->k < b->a<=s k/\s k < b)/\(∀k,a<=k->k < b->a<=t k/\t k < b)/\∀k,E k=D (s k):=by
 obtain⟨s,t,h1,h2,h3,h4⟩:=h;refine⟨s,t,h1,h2,fun k k1 k2=>?_,fun k k1 k2=>?_,h4⟩
 ·by_cases hc:a<=s k/\s k < b
  ·exact hc
  ·have e:=h3 (s k) (by omega);have e2:=h1 (s k);rw[e,h1 k] at e2;omega
 ·by_cases hc:a<=t k/\t k < b
  ·exact hc
  ·have e:=h3 (t k) (by omega);rw[h2 k] at e;omega
structure Told (t u:Tm) (L:List (Int × Tm)):Prop where
 ex:∃M,matchS t u []=some M/\FineB M/\∀p,p∈L↔p.1∈occ t/\lookT M p.1=some p.2
 srt:L.Pairwise fun p q=>p.1 < q.1
def BsF (H:Heap) (S:Nat->Prop) (n:Nat) (a:Option Addr) (c:Nat) (D:Nat->Bnd):Prop :=
 (n=0/\a=none/\c=0)\/∃b,a=some ⟨b,0,none⟩/\n<=c/\c<=maxLen/\RowB H 87 b n D/\S b /\
  (∀k,k < n->Bd (D k).e.t/\FL H 40 (D k).e.S (D k).e.t.args (D k).e.a (D k).e.c/\∀x,(D k).e.S x->S x/\x≠b)/\(∀j k x,j < n->k < n->(D j).e.S x->(D k).e.S x->j=k)
abbrev pairB (d:Bnd):Int × Tm:=(d.v,d.e.t)
def bnd0:Bnd:=⟨0,⟨zeroT,none,0,fun _=>False⟩⟩
def atB (L:List Bnd) (k:Nat):Bnd:=(L[k]?).getD bnd0
theorem ze3 {L:List Bnd}{k:Nat}(h:k < L.length):atB L k=L[k]:=by unfold atB;rw[Zc h];rfl
theorem RowB.flat {H:Heap}{T:TypeId}{b:Nat}{L:List Bnd}(hg:H.get b=some (.row (L.map Bnd.seven).flatten T)):RowB H T b L.length (atB L) :=
 ⟨_,hg,by rw[zah];exact Ze _,fun k hk=>by
  rw[ze3 hk];exact zb1 (s:=7) _ _ _ (fun x hx=>by obtain⟨d,-,rfl⟩:=List.mem_map.1 hx;rfl) (by rw[Zj,Zc hk];rfl)⟩
theorem zbq (l:List Int) (n:Int):n∈uniq l↔n∈l:=by
 have h:∀(l L:List Int),n∈l.foldl addU L↔n∈L\/n∈l:=by
  intro l
  induction l with
  |nil=>intro L;simp
  |cons m l ih =>
   intro L;rw[ZP,ih];have:n∈addU L m↔n∈L\/n=m:=by
    unfold addU;split
    ·rename_i hm;exact⟨.inl,fun h=>by rcases h with h|h;exact h;rw[h];exact hm⟩
    ·simp
   rw[this,List.mem_cons,or_assoc]
 have:=h l [];simpa [uniq] using this
theorem zmw {t u:Tm}{M:List (Int × Tm)}{n:Nat}{BL:List Bnd}{D':Nat->Bnd}(hM:matchS t u []=some M) (hf:FineB M) (hdom:∀k∈occ t,lookT M k≠none) (hn:BL.length=n) (hb:BL.map pairB=(uniq (occ t)).map fun k=>(k,(lookT M k).getD zeroT)) (hp:Pm 0 n (atB BL) D') (hz:InZ Bnd.v 0 n D') :
  Told t u ((rowF n D').map pairB):=by
 obtain⟨s,r,h1,h2,h3,h4,h5⟩:=Pm.sig hp;have hlen:(uniq (occ t)).length=n:=by have:=congrArg List.length hb;simp at this;omega
 have hat:∀(k:Nat) (hk:k < n),pairB (atB BL k)=((uniq (occ t))[k]'(by omega),(lookT M ((uniq (occ t))[k]'(by omega))).getD zeroT):=fun k hk=>by
  rw[ze3 (by omega)];have:=congrArg (fun l=>l[k]?) hb;simp only[Zj] at this;rw[Zc (by omega),Zc (by omega)] at this;simpa using this
 have hnd:=ziw (occ t);refine⟨⟨M,hM,hf,fun p=>?_⟩,?_⟩
 ·constructor
  ·intro hp;obtain⟨d,hd,rfl⟩:=List.mem_map.1 hp;obtain⟨k,hk,rfl⟩:=List.mem_map.1 hd;have hk:=List.mem_range.1 hk;rw[h5 k];have hs:=(h3 k (ZA _) hk).2;have e:=hat _ hs;have hm:(uniq (occ t))[s k]'(by omega)∈occ t:=(zbq _ _).1 (ZD _);rw[e];refine⟨hm,?_⟩;show lookT M _=some ((lookT M _).getD zeroT);cases hq:lookT M ((uniq (occ t))[s k]'(by omega)) with
   |none=>exact absurd hq (hdom _ hm)
   |some w=>rfl
  ·rintro ⟨ho,hl⟩;obtain⟨j,hj,ej⟩:=List.getElem_of_mem ((zbq _ _).2 ho);have hjn:j < n:=by omega
   refine List.mem_map.2 ⟨D' (r j),List.mem_map.2 ⟨r j,List.mem_range.2 (h4 j (ZA _) hjn).2,rfl⟩,?_⟩;rw[h5,h2,hat j hjn];obtain⟨p1,p2⟩:=p;simp only at ej hl;subst ej;rw[hl];rfl
 ·rw[List.pairwise_map];unfold rowF;rw[List.pairwise_map,List.pairwise_iff_getElem];intro i j hi hj hij;simp at hi hj;simp only[List.getElem_range];have hle:=hz i j (ZA _) hij hj;rcases Int.lt_or_eq_of_le hle with h|h
  ·exact h
  ·exfalso;rw[h5 i,h5 j] at h;have si:=(h3 i (ZA _) hi).2;have sj:=(h3 j (ZA _) hj).2;have e1:=congrArg Prod.fst (hat _ si);have e2:=congrArg Prod.fst (hat _ sj);simp only at e1 e2;have e3:(uniq (occ t))[s i]'(by omega)=(uniq (occ t))[s j]'(by omega):=by rw[<-e1,<-e2];exact h
   have hpw:=List.pairwise_iff_getElem.1 hnd;have e4:s i=s j:=by
    rcases Nat.lt_or_ge (s i) (s j) with q|q
    ·exact absurd e3 (hpw _ _ (by omega) (by omega) q)
    ·rcases Nat.lt_or_ge (s j) (s i) with q2|q2
     ·exact absurd e3.symm (hpw _ _ (by omega) (by omega) q2)
     ·omega
   have e5:=h1 i;rw[e4,h1 j] at e5;omega
theorem ze4 {H:Heap}(hw:H.wf):EvF Tryz.prog okT 124 [.slice none 0 0,.int .i64 0,.int .i64 0,cvB] H fun _ H'=>H'=H:=by
 refine EvF.enter rfl Tryz.func124 (by decide) rfl ?_;have hw1:IntKind.i64.wrap ((0:Int)+1)=1:=rfl;have hd:decide ((1:Int) < 0)=false:=rfl;(repeat refine qZa ?_);refine qZb ?_;simp only[sB,initTm,Za,Zb,reduceCtorEq,hw1];refine qZg (EvC.loop1 rfl ?_)
 repeat' (first|refine qZa ?_|(refine qZi ?_;try simp only[sB])|(refine qZb ?_;simp only[sB,Za,reduceCtorEq,hd])|(refine qZm ?_ ?_;simp only[sB,Za,reduceCtorEq];refine z01 ?_))
 exact z0r rfl rfl
theorem zmx {lim:Nat}{H:Heap}(hw:H.wf):EvF Tryz.prog okT 99 [.slice none 0 0,.int .i64 0,.int .i64 0,.int .i64 (lim:Nat),cvB] H fun _ H'=>H'=H:=by
 refine EvF.enter rfl Tryz.func99 (by decide) rfl ?_;have hwl:IntKind.i64.wrap ((0:Int) - 0)=0:=rfl;have hd:decide ((0:Int)<=12)=true:=rfl;(repeat refine qZa ?_);refine qZb ?_;simp only[sA,initTm,Zb];(repeat refine qZa ?_);refine qZb ?_;simp only[sA];(repeat refine qZa ?_);refine qZg (EvC.loop1 rfl ?_);(repeat refine qZa ?_);refine qZg ?_
 repeat' (first|refine qZa ?_|(refine qZb ?_;simp only[sB,Za,reduceCtorEq,zqp,hwl,hd])|(refine qZd ?_ ?_;simp only[sB,Za,reduceCtorEq];refine z01 ?_))
 refine(ze4 hw).mono ?_;rintro v H2 rfl
 repeat' (first|(refine qZf ?_;try simp only[z04,z02]))
 exact z2x rfl rfl
theorem zjh {H:Heap}(hw:H.wf):EvF Tryz.prog okT 57 [.slice none 0 0,cvB] H fun _ H'=>H'=H:=by
 refine EvF.enter rfl Tryz.func57 (by decide) rfl ?_;have hu:IntKind.u64.wrap ((0:Nat):Int)=((0:Nat):Int):=rfl
 repeat' (first|refine qZa ?_|(refine qZb ?_;simp only[sB,initTm,Za,reduceCtorEq,ln48,zew,zqn,cl99,hu]))
 refine(zms (x:=0) (by omega)).mono ?_;rintro v H2 ⟨rfl,rfl⟩
 skip
 refine(zmx hw).mono ?_;rintro v H3 rfl
 skip
 exact z0r rfl rfl
end Go.Proofs.hq
end

section
namespace Go.Proofs.hq
open Go Go.RowKit Go.Hb
variable {ok:Ok}
set_option maxRecDepth 10000
attribute [local irreducible] LX LG EL STG SOP SGO SGD SAL SRD SEF SEG SLK SCK ES
set_option maxHeartbeats 16000000 in
theorem zox {t u:Tm}{cs cu:List Value}{H:Heap}(r0:RepT H t cs) (r1:RepT H u cu) (hw:H.wf) :
  EvF Tryz.prog okT 17 [.agg ⟨cs⟩,.agg ⟨cu⟩] H fun v H'=>HX H H' /\
   ((chkL [t,u]=0/\∃n a c D,v=.tuple ⟨[.slice a n c,.bool true,.int .i64 0]⟩/\BsF H' (Rg H.next H'.next) n a c D/\n<=4000/\Told t u ((rowF n D).map pairB)) \/
    (chkL [t,u]=0/\matchS t u []=none/\v=.tuple ⟨[.slice none 0 0,.bool false,.int .i64 0]⟩) \/
    (chkL [t,u]≠0/\v=.tuple ⟨[.slice none 0 0,.bool false,.int .i64 (chkL [t,u])]⟩)):=by
 have r00:=r0;have r10:=r1;have hcall:callable Tryz.prog 53=true:=by kernel_rfl
 obtain⟨a,c,cells,rfl,-,-,-,-,-,rl⟩:=r0.six;obtain⟨a',c',cells',rfl,-,-,-,-,-,rl'⟩:=r1.six;refine EvF.enter rfl Tryz.func17 (by decide) rfl ?_;(repeat refine qZa ?_);refine qZb ?_;simp (disch:=first|omega|rfl) only[sB,initTm,dBox,Za,Value.cells,one,reduceCtorEq];obtain⟨H2,e2,hx2,gt,gu,hn2,hw2⟩:=new2 hw (.row (six t a c) 40) (.row (six u a' c') 40);simp only[e2];have q1:=row6 gt;have q2:=row6 gu;clear e2
 repeat' (first|refine qZa ?_|(refine qZb ?_;simp (disch:=first|omega|rfl) only[sB,Za,Zb,Value.cells,one,reduceCtorEq,Zr,layC,ld40,zpr,cl52,q1,q2]))
 obtain⟨H3,e3,hx3,g3,hn3,hw3⟩:=new1 hw2 (.row (six t a c++six u a' c') 40);have e3':=e3;simp only[six,List.cons_append,List.nil_append] at e3';simp only[e3'];clear e3 e3';have hx23:=hx2.trans hx3;refine(zd7 (RepL.two (r00.mono hx23 hw) (r10.mono hx23 hw) g3) hw3).mono ?_;rintro v H4 ⟨rfl,hx4⟩;have hx:=hx23.trans hx4;have gt:=hx4.get hw3 (hx3.get hw2 gt);have gu:=hx4.get hw3 (hx3.get hw2 gu);by_cases h0:chkL [t,u]=0;rotate_left
 ·repeat' (first|refine qZa ?_|(refine qZf ?_;try simp only[z04,z02])|(refine qZb ?_;simp only[sB,Za,reduceCtorEq,z29 h0])|(refine qZd ?_ ?_;simp only[sB,Za,reduceCtorEq];refine z01 ?_))
  exact z1a rfl (by simp only[sG,Za,reduceCtorEq]) (by simp only[sG,Za,reduceCtorEq]) (by simp only[sG,Za,reduceCtorEq]) ⟨hx,.inr (.inr ⟨h0,rfl⟩)⟩
 have hct:checkS t=0:=z8s h0 t (by simp);have hcu:checkS u=0:=z8s h0 u (by simp);have hft:=(z1d.1 hct).2;have hfu:=(z1d.1 hcu).2;have n4:=hx.next;have n24:=hx2.next;clear hx23 q1 q2 g3 hn3;(try simp only[]);(repeat refine qZa ?_);refine qZb ?_;simp only[sB,Za,reduceCtorEq,z13 h0];refine qZm (by simp only[sB,Za,reduceCtorEq]) ?_;(try refine qZe ?_);(try simp only[z00,z0b]);(repeat refine qZa ?_);refine qZb ?_;simp (disch:=first|omega|rfl) only[sB,dAlloc,Za,one,reduceCtorEq,zr85,st85,z47];obtain⟨H5,e5,k5,gr,n5,w5⟩:=new1 hx.wf (.map [] 0);obtain⟨H6,e6,k6,gp,n6,w6⟩:=z0o w5 (.row [.map none] 85) (.row [.map (some H4.next)] 85);rw[n5] at e6 gp n6;simp only[e5,e6];have gr:=k6.get w5 gr;have k56:=k5.trans k6;have gt:=k56.get hx.wf gt;have gu:=k56.get hx.wf gu;have hm0:MapT H H6 H4.next []:=⟨[],⟨[],0,gr,rfl⟩,fun n=>⟨fun u hu=>by simp [lookT] at hu,fun _=>rfl⟩⟩
 have hx:=hx.trans k56;clear e5 e6 k5 k6 k56 gr;(repeat refine qZa ?_);refine qZb ?_;simp only[sA,dAlloc,zr52];(repeat refine qZa ?_);refine qZb ?_;simp (disch:=first|omega|rfl) only[sB,Za,one,reduceCtorEq,st52,List.map_toArray];obtain⟨H7,e7,k7,gf,n7,w7⟩:=z0o w6 (.row [.nilFunc] 52) (.row [.func (.func 53) #[] #[.pointer (some ⟨H4.next+1,0,none⟩),.pointer (some ⟨H6.next,0,none⟩)]] 52);simp only[e7];clear e7;have gp:=k7.get w6 gp;have gt:=k7.get w6 gt;have gu:=k7.get w6 gu;have hm0:=hm0.keep k7 w6;have hx:=hx.trans k7;have q1:=row6 gt;have q2:=row6 gu;have lf:=row1 gf;have hrr:H.next<=H4.next:=n4;have hpr:H4.next+1≠H4.next:=by omega
 have hfr:H6.next≠H4.next:=by omega
 have hrt:H.next+2<=H4.next:=by have:=hx4.next;have:=hx3.next;omega
 generalize H4.next+1=p at *;generalize H4.next=r at *;generalize H6.next=f at *;clear n5 n6 n7 n4 n24 hn2 hx2 hx3 hx4 k7 w6 hw2 hw3;(repeat refine qZa ?_);refine qZb ?_;simp only[sB,Za,reduceCtorEq,ld40,ld52,q1,q2,lf,z10,z0m hcall];refine(zsb hw hpr hfr hrr _ (Zf _) r00 r10 hft hfu (M:=[]) (fun p hp=>by cases hp) hx gp gf hm0).mono ?_;rintro v H9 ⟨k9,h9⟩;have hx9:HX H H9:=hx.then k9 (fun n hn q=>by have q':n=r:=q;omega);rcases h9 with ⟨M,eM,rfl,hm9,hfM⟩|⟨eN,rfl⟩
 rotate_left
 ·repeat' (first|refine qZa ?_|(refine qZf ?_;try simp only[z04,z02])|(refine qZb ?_;simp only[sA])|(refine z0f ?_;simp only[sA,Zw])|(refine qZd ?_ ?_;simp only[sB,Za,reduceCtorEq];refine z01 ?_))
  exact z1a rfl (by simp only[sG,Za,reduceCtorEq]) (by simp only[sG,Za,reduceCtorEq]) (by simp only[sG,Za,reduceCtorEq]) ⟨hx9,.inr (.inl ⟨h0,eN,rfl⟩)⟩
 have gt9:=k9.get hx.wf gt (by omega);have gp9:=k9.get hx.wf gp hpr;have q19:=row6 gt9
 repeat' (first|refine qZa ?_|(refine qZe ?_;try simp only[z00])|(refine qZb ?_;simp (disch:=first|omega|rfl) only[sB,Za,Zb,Value.cells,one,reduceCtorEq,layC,ld40,zgs,cl55,q19])|(refine z0f ?_;simp only[sA,Zn])|(refine qZm ?_ ?_;simp only[sB,Za,reduceCtorEq];refine z01 ?_))
 obtain⟨H10,e10,k10,g10,n10,w10⟩:=new1 hx9.wf (.row (six t a c) 40);simp only[e10];clear e10;have hx10:=hx9.trans k10;have eo:occL [t]=occ t:=by rw[occL,occL,List.append_nil]
 have hfew:=zfb hct;have hul:=z7f (occ t);refine(z78 (RepL.one (r00.mono hx10 hw) g10) (by rw[eo];unfold most;omega) w10).mono ?_;rw[eo];rintro v H11 ⟨hI,k11⟩;obtain⟨va,vc,rfl,hvl,hvm⟩:=hI.slice;have k911:=k10.trans k11;have gp11:=k911.get hx9.wf gp9;have hm11:=hm9.keep k911 hx9.wf;have hx11:=hx10.trans k11;have hb11:=hx11.next;have w11:=hx11.wf;have hdom:=(zdw _ (Zf _) hft eM).2;clear q19 q1 q2 lf gt gu gf gp gt9 gp9 hm9 hm0 k9 k10 k11 k911 g10 n10 w10 hx10 hx9 hx
 repeat' (first|refine qZg ?_|(refine z0f ?_;simp only[sA,ln28]))
 refine qZk (fun k st=>∃tm H' BL v,st=⟨tm,[],H'⟩/\k=(uniq (occ t)).length - BL.length/\BL.length<=(uniq (occ t)).length/\tm.get 8=some (.pointer (some ⟨p,0,none⟩))/\tm.get 10=some v/\tm.get 29=some (.slice va (uniq (occ t)).length vc)/\tm.get 30=some (.int .i64 (uniq (occ t)).length)/\tm.get 31=some (.int .i64 (BL.length:Nat)) /\
  BdV H' 87 H11.next v BL/\BL.map pairB=((uniq (occ t)).take BL.length).map (fun k=>(k,(lookT M k).getD zeroT))/\(∀d∈BL,Bd d.e.t/\FL H' 40 d.e.S d.e.t.args d.e.a d.e.c/\∀x,d.e.S x->H11.next<=x/\x < H'.next) /\
  BL.Pairwise (fun d e=>∀x,d.e.S x->¬e.e.S x)/\HX H11 H') ?_ (uniq (occ t)).length _ ?_
 rotate_left
 ·exact⟨_,_,[],_,rfl,rfl,ZA _,(by simp only[sG,Za,reduceCtorEq]),(by simp only[sG,Za,reduceCtorEq]),(by simp only[sG,Za,reduceCtorEq]),(by simp only[sG,Za,reduceCtorEq]),(by simp only[sB,Za,reduceCtorEq];rfl),.inl ⟨rfl,rfl⟩,by simp,(fun d hd=>by cases hd),List.Pairwise.nil,HX.refl w11⟩
 rintro k st ⟨tm,G,BL,v,rfl,rfl,hi,t8,t10,t29,t30,t31,hbd,hpb,hel,hdj,hxG⟩;have wG:=hxG.wf;by_cases hlt:BL.length < (uniq (occ t)).length
 ·obtain⟨vb,rfl,-,hld,-⟩:=hI.at hlt;have hld:=hxG.load w11 hld;have hmem:(uniq (occ t))[BL.length]∈occ t:=(zbq _ _).1 (ZD _);have lpG:=row1 (hxG.get w11 gp11);obtain⟨MM,hM,hMn⟩:=hm11.keep hxG w11;rcases z6f (lookT M (uniq (occ t))[BL.length]) with ⟨w,hl⟩|hl;rotate_left
  ·exact absurd hl (hdom _ hmem)
  obtain⟨csw,hg,hrw⟩:=(hMn _).1 w hl;obtain⟨a1,c1,cells1,rfl,-⟩:=hrw.six;have htk:(uniq (occ t)).take (BL.length+1)=(uniq (occ t)).take BL.length++[(uniq (occ t))[BL.length]]:=by rw[<-ZL hlt]
  generalize (uniq (occ t))[BL.length]=nn at *
  repeat' (first|refine qZa ?_|refine qZg ?_|(refine qZe ?_;try simp only[z00])|(refine qZb ?_;simp (disch:=first|omega|rfl) only[sB,Za,Zb,Value.cells,one,Zr,layC,ia28,ld3,ld85,cl56,bd87,t8,t10,t29,t30,t31,decl hlt,hld,lpG,z15,z4w z94 hM hg,Zd])|(refine qZd ?_ ?_;simp only[sB];refine z01 ?_))
  have hxx:=hx11.trans hxG;refine(zlg (Zf _) (hrw.mono hxx hw) (hfM _ (z4q hl)) wG).mono ?_;rintro v2 H12 ⟨cs',rfl,⟨a2,c2,rfl,hb2,hf2⟩,k12⟩;have w12:=k12.wf;have n12:=k12.next;have nG:=hxG.next;have hlo:∀b c,v=.slice (some ⟨b,0,none⟩) BL.length c->b < G.next:=fun b c e=>by
   rcases hbd with ⟨-,h⟩|⟨b',c',h,-,-,hg',-⟩
   ·rw[h] at e;cases e
   ·rw[h] at e;cases e;exact wG _ _ hg'
  obtain⟨H13,v3,hpush,hbd3,k13,keep13⟩:=(hbd.heap k12 wG).push (x:=⟨nn,⟨w,a2,c2,Rg G.next H12.next⟩⟩) ap48 w12 (by unfold most;omega) (by omega) (fun d hd n hn=>by
   rcases List.mem_append.1 hd with h|h
   ·have:=((hel d h).2.2 n hn).2;omega
   ·rw[Zx] at h;subst h;exact hn.2) hlo (fun n hn=>hn.1)
  repeat' (first|(refine qZb ?_;simp (disch:=first|omega|rfl) only[sB,Za,t31,z05])|(refine z0f ?_;simp (disch:=first|omega|rfl) only[sB,Za,Zb,Value.cells,one,layC,zss,hpush]))
  have hx13:HX H11 H13:=(hxG.trans k12).then k13 (fun n hn q=>by have q':H11.next<=n:=q;omega);have n13:=k13.next;refine⟨(uniq (occ t)).length - (BL.length+1),by omega,_,_,BL++[⟨nn,⟨w,a2,c2,Rg G.next H12.next⟩⟩],v3,rfl,by simp,by simp;omega,(by simp only[sG,Za,t8]),(by simp only[sG,Za]),(by simp only[sG,Za,t29]),(by simp only[sG,Za,t30]),by simp only[Zm,ZN];first|(simp only[sB,Za];rfl)|simp only[],hbd3,?_,fun d hd=>?_,?_,hx13⟩
  ·rw[ZK,hpb,Zm,ZN,htk,ZK];simp [hl]
  ·have hk:=keep13 d hd;rcases List.mem_append.1 hd with h|h
   ·obtain⟨b1,b2,b3⟩:=hel d h;exact⟨b1,(b2.keep k12 wG).heap (fun n hn _=>hk n hn) w12,fun x hx=>⟨(b3 x hx).1,by have:=(b3 x hx).2;omega⟩⟩
   ·rw[Zx] at h;subst h;exact⟨hb2,hf2.heap (fun n hn _=>hk n hn) w12,fun x hx=>⟨by have:=hx.1;omega,by have:=hx.2;omega⟩⟩
  ·rw[List.pairwise_append];refine⟨hdj,List.pairwise_singleton ..,fun d hd e he x hx hx2=>?_⟩;rw[Zx] at he;subst he;have:=((hel d hd).2.2 x hx).2;have:=hx2.1;omega
 ·have hN:BL.length=(uniq (occ t)).length:=by omega
  rw[hN,Zq (Ze _)] at hpb;have hxGG:=hx11.trans hxG;rcases hbd with ⟨rfl,rfl⟩|⟨b,cc,rfl,hlc,hcm,hg,hbb,hSb⟩
  ·have hd0:decide (((0:Nat):Int) < ((uniq (occ t)).length:Int))=false:=decide_eq_false (by simp at hN;omega)
   repeat' (first|refine qZa ?_|(refine qZi ?_;try simp only[sB])|(refine qZb ?_;simp only[sB,Za,cl57,t10,t30,t31,hd0])|(refine qZm ?_ ?_;simp only[sB];refine z01 ?_))
   refine(zjh wG).mono ?_;rintro v G2 rfl
   repeat' (first|refine qZa ?_|(refine qZf ?_)|(refine qZb ?_;simp only[sB,Za,t10]))
   exact z1a rfl (by simp only[sG,Za]) (by simp only[sG,Za]) (by simp only[sG,Za]) ⟨hxGG,.inl ⟨h0,0,none,0,atB [],rfl,.inl ⟨rfl,rfl,rfl⟩,by omega,zmw eM hfM hdom rfl hpb (Pm.refl _) (InZ.few (by omega))⟩⟩
  ·repeat' (first|refine qZa ?_|(refine qZi ?_;try simp only[sB])|(refine qZb ?_;simp only[sB,Za,cl57,t10,t30,t31,decn hlt])|(refine qZm ?_ ?_;simp only[sB];refine z01 ?_))
   refine(zow (RowB.flat hg) (by unfold bmost;omega) wG).mono ?_;rintro v G2 ⟨D',r14,m14,i14,k14⟩
   repeat' (first|refine qZa ?_|(refine qZf ?_)|(refine qZb ?_;simp only[sB,Za,t10]))
   have n14:=k14.next;have hbG:=wG _ _ hg;obtain⟨s,rr,h1,h2,h3,h4,h5⟩:=Pm.sig m14;have hmemB:∀k,k < BL.length->D' k∈BL:=fun k hk=>by
    have:=(h3 k (ZA _) hk).2;rw[h5,ze3 this];exact ZD _
   refine z1a rfl (by simp only[sG,Za]) (by simp only[sG,Za]) (by simp only[sG,Za]) ⟨hxGG.then k14 (fun n hn q=>by have q':n=b:=q;omega),.inl ⟨h0,BL.length,some ⟨b,0,none⟩,cc,D',rfl,.inr ⟨b,rfl,hlc,hcm,r14,⟨by omega,by omega⟩,fun k hk=>?_,fun j k x hj hk hxj hxk=>?_⟩,by omega,zmw eM hfM hdom rfl hpb m14 i14⟩⟩
   ·obtain⟨b1,b2,b3⟩:=hel _ (hmemB k hk);exact⟨b1,b2.beside k14 wG (fun n hn q=>by have q':n=b:=q;have:=hSb _ (hmemB k hk) n hn;omega),fun x hx=>⟨⟨by have:=(b3 x hx).1;omega,by have:=(b3 x hx).2;omega⟩,by have:=hSb _ (hmemB k hk) x hx;omega⟩⟩
   ·have sj:=(h3 j (ZA _) hj).2;have sk:=(h3 k (ZA _) hk).2;rw[h5,ze3 sj] at hxj;rw[h5,ze3 sk] at hxk;have hpw:=List.pairwise_iff_getElem.1 hdj;have e:s j=s k:=by
     rcases Nat.lt_or_ge (s j) (s k) with q|q
     ·exact absurd hxk (hpw _ _ sj sk q x hxj)
     ·rcases Nat.lt_or_ge (s k) (s j) with q2|q2
      ·exact absurd hxj (hpw _ _ sk sj q2 x hxk)
      ·omega
    have e1:=h1 j;rw[e,h1 k] at e1;exact e1.symm
end Go.Proofs.hq
end

section
namespace Go.Hb
open Go Go.RowKit
end Go.Hb
namespace Go.Proofs.hq
open Go Go.RowKit Go.Hb
variable {ok:Ok}
set_option maxRecDepth 10000
attribute [local irreducible] LX LG EL STG SOP SGO SGD SAL SRD SEF SEG SLK SCK ES
end Go.Proofs.hq
end

section
namespace Go.Proofs.hq
open Go Go.RowKit Go.Hb
variable {ok:Ok}
set_option maxRecDepth 10000
attribute [local irreducible] LX LG EL STG SOP SGO SGD SAL SRD SEF SEG SLK SCK ES
abbrev brk:ByteArray:=⟨#[91,93]⟩
def endT:Tm:=.mk 2 brk Zh 0 0 []
theorem z9b {t:Tm}{B:List (Int × Tm)}(h:PutOk t B):∀n u,lookT B n=some u->checkS u=0:=fun n u hu=>by
 obtain⟨j,hj,e⟩:=List.getElem_of_mem (z4q hu);have:=(h.2.1 j hj).2.2;rw[e] at this;exact this
theorem zoy {t:Tm}{B:List (Int × Tm)}(h:PutOk t B):nd (subO (lookT B) t)<=4000:=by
 have hc:=z3f.1 h.1;have h1:=zq4 (σ:=lookT B) (occ t) (cnt t 0) (z1d.1 h.1).1 (fun n _ u hu=>(z3f.1 (z9b h n u hu)).1);have h2:=h1.1 h.2.2;have h3:=zfi (σ:=lookT B) _ (Zf _) hc.2;have h4:=zdc _ t (Zf _) 0 (z1d.1 h.1).1;omega
theorem ze5 {t:Tm}{B:List (Int × Tm)}(h:PutOk t B):checkS (subO (lookT B) t)=0 :=
 z3f.2 ⟨zoy h,zdy _ (Zf _) (z3f.1 h.1).2 fun n _ u hu=>(z3f.1 (z9b h n u hu)).2⟩
theorem zoz {t t':Tm}(h:checkS t=0) (h':checkS t'=0):chkL [t,t']=0:=by simp [chkL,h,h']
end Go.Proofs.hq
end

section
namespace Go.Hb
open Go Go.RowKit
theorem zji {H:Heap}{b o n:Nat}{x:Value}{xs:List Value}(h:H.load ⟨b,o,none⟩ (n+1)=some (x :: xs)):H.load ⟨b,o,none⟩ 1=some [x]/\H.load ⟨b,o+1,none⟩ n=some xs:=by
 unfold Heap.load at *;cases hc:H.cells b with
 |none=>simp only[hc] at h;cases h
 |some cs =>
  simp only[hc] at h ⊢;split at h
  ·rename_i hl;have h':=Option.some.inj h;rw[h'] at hl;have hd:cs.drop o=x :: (cs.drop (o+1)):=by
    cases hq:cs.drop o with
    |nil=>rw[hq] at h';cases h'
    |cons y ys =>
     rw[hq,List.take_succ_cons] at h';have e1:=(List.cons.inj h').1;have e2:cs.drop (o+1)=ys:=by rw[<-List.drop_drop,hq];rfl
     rw[e1,e2]
   have hx:(cs.drop (o+1)).take n=xs:=by rw[hd,List.take_succ_cons] at h';exact(List.cons.inj h').2
   refine⟨?_,?_⟩
   ·rw[hd];rfl
   ·rw[hx,if_pos];rw[Zu] at hl ⊢;simpa using hl
  ·cases h
end Go.Hb
namespace Go.Proofs.hq
open Go Go.RowKit Go.Hb
variable {ok:Ok}
set_option maxRecDepth 10000
attribute [local irreducible] LX LG EL STG SOP SGO SGD SAL SRD SEF SEG SLK SCK ES
theorem RepB7.bs {H:Heap}{B:List (Int × Tm)}{a:Option Addr}{c:Nat}(h:RepB7 H B a c):RepBs H B a c :=
 ⟨h.len,h.cap,fun i hi=>by
  obtain⟨b,o,a',c',e,l,r⟩:=h.el i hi;obtain⟨l1,l2⟩:=zji (n:=6) l;exact⟨b,o,a',c',e,l1,l2,r⟩⟩
theorem zjj {H:Heap}:RepT H zeroTm zero6:=(z5l (S:=fun _=>True)).rep
theorem zmy {t:Tm}{cs:List Value}{B:List (Int × Tm)}{a:Option Addr}{c:Nat}{H:Heap}(r0:RepT H t cs) (rb:RepB7 H B a c) (hw:H.wf) :
  EvF Tryz.prog okT 10 [.agg ⟨cs⟩,.slice a B.length c] H fun v H'=>HX H H'/\∃x xa xc e,v=.tuple ⟨[.agg ⟨six x xa xc⟩,.int .i64 e]⟩/\RepT H' x (six x xa xc)/\(e=0->PutOk t B/\x=subO (lookT B) t):=by
 refine(zu2 r0 rb hw).mono ?_;rintro v H' ⟨hx,h⟩;refine⟨hx,?_⟩;rcases h with ⟨hp,out,rfl,hr,-⟩|⟨hp,e,rfl,he⟩
 ·obtain⟨xa,xc,cells,rfl,-⟩:=hr.rep.six;exact⟨_,xa,xc,0,rfl,hr.rep,fun _=>⟨hp,rfl⟩⟩
 ·exact⟨zeroTm,none,0,e,rfl,zjj,fun q=>absurd q he⟩
theorem zmz {σ:SS}{w k:Nat}(h:PS σ w k) (hw:w<=100000) (hk:k<=100000):UOk σ:=⟨h.wf,h.ki.fa,by have:=h.fc;unfold most;omega,by have:=h.fv;unfold most;omega⟩
set_option maxHeartbeats 32000000 in
theorem ze6 {t u:Tm}{cs cu:List Value}{B:List (Int × Tm)}{ab:Option Addr}{cb:Nat}{H:Heap}(r0:RepT H t cs) (r1:RepT H u cu) (rb:RepB7 H B ab cb) (hw:H.wf) :
  EvF Tryz.prog okT 4 [.agg ⟨cs⟩,.agg ⟨cu⟩,.slice ab B.length cb] H fun v _=>v=.bool true:=by
 obtain⟨at',ct,cellst,rfl,-⟩:=r0.six;obtain⟨au,cu',cellsu,rfl,-⟩:=r1.six;refine EvF.enter rfl Tryz.func4 (by decide) rfl ?_;(repeat refine qZa ?_);refine qZb ?_;simp (disch:=first|omega|rfl) only[sB,initTm,dBox,Za,Zb,Value.cells,one,reduceCtorEq];obtain⟨H1,e1,hx1,g1,g2,n1,w1⟩:=new2 hw (.row (six t at' ct) 40) (.row (six u au cu') 40);simp only[e1];clear e1
 repeat' (first|refine qZa ?_|(refine qZb ?_;simp only[sB,Za,reduceCtorEq,cl5]))
 refine(zfd w1).mono ?_;rintro v A0 ⟨rfl,k0⟩;have wA:=k0.wf;have g1:=k0.get w1 g1;have g2:=k0.get w1 g2;have q1:=(row6 g1).2.2.2.2.2.2;have q2:=(row6 g2).2.2.2.2.2.2;have hxA:=hx1.trans k0
 repeat' (first|refine qZa ?_|(refine qZb ?_;simp only[sB,Za,reduceCtorEq,ld40,cl10,q1]))
 refine(zmy (r0.mono hxA hw) (rb.mono hxA hw) wA).mono ?_;rintro v H2 ⟨hx2,x,xa,xc,e,rfl,rx,hxe⟩;obtain⟨H3,e3,hx3,g3,n3,w3⟩:=z0o hx2.wf (.row zero6 40) (.row (six x xa xc) 40);have hxA3:=hx2.trans hx3;have q2':=(row6 (hxA3.get wA g2)).2.2.2.2.2.2
 repeat' (first|refine qZa ?_|(refine qZb ?_;simp only[sB,Za,reduceCtorEq,ld40,cl10,q2'])|(refine z0f ?_;simp (disch:=first|omega|rfl) only[sB,dAlloc,Za,Zb,one,reduceCtorEq,zr40,st40,e3]))
 refine(zmy (r1.mono (hxA.trans hxA3) hw) (rb.mono (hxA.trans hxA3) hw) w3).mono ?_;rintro v H4 ⟨hx4,y,ya,yc,e',rfl,ry,hye⟩;obtain⟨H5,e5,hx5,g5,n5,w5⟩:=z0o hx4.wf (.row zero6 40) (.row (six y ya yc) 40);have hx35:=hx4.trans hx5;have g3':=hx35.get w3 g3;have q3:=(row6 g3').2.2.2.2.2.2;have q5:=(row6 g5).2.2.2.2.2.2;have rx5:=rx.mono (hx3.trans hx35) hx2.wf;have ry5:=ry.mono hx5 hx4.wf
 repeat' (first|refine qZa ?_|(refine qZb ?_;simp only[sB,Za,reduceCtorEq,ld40,cl11,q3,q5])|(refine z0f ?_;simp (disch:=first|omega|rfl) only[sB,dAlloc,Za,Zb,one,reduceCtorEq,zr40,st40,e5]))
 refine(zj2 rx5 ry5 w5).mono ?_;rintro v H6 ⟨rfl,hx6⟩;have w6:=hx6.wf;have hxA6:=(hxA3.trans hx35).trans hx6;have hx06:=hxA.trans hxA6;(try simp only[]);obtain⟨Z,hZ⟩:∃Z:Bool,(Z=true↔¬(e=0/\e'=0/\x=y)):=⟨@decide _ (Classical.propDecidable _),@decide_eq_true_iff _ (Classical.propDecidable _)⟩
 (repeat refine qZa ?_);refine EvC.join (fun st=>∃tm,st=⟨tm,[],H6⟩/\tm.get 2=some (.slice ab B.length cb)/\tm.get 3=some (.pointer (some ⟨H.next,0,none⟩))/\tm.get 4=some (.pointer (some ⟨H.next+1,0,none⟩))/\tm.get 7=some (.bool true)/\tm.get 8=some (.pointer (some ⟨H2.next,0,none⟩))/\tm.get 53=some (.bool Z)) ?_ ?_
 ·by_cases k1:e=0
  ·by_cases k2:e'=0
   ·by_cases k3:x=y
    ·have dz:Z=false:=Bool.eq_false_iff.2 fun q=>hZ.1 q ⟨k1,k2,k3⟩
     repeat' (first|(refine qZb ?_;simp only[sB,Za,reduceCtorEq,z13 k1,z13 k2,zs1 k3,Zn,Zd]))
     exact⟨_,rfl,(by simp only[sG,Za,reduceCtorEq]),(by simp only[sG,Za,reduceCtorEq]),(by simp only[sG,Za,reduceCtorEq]),(by simp only[sG,Za,reduceCtorEq]),(by simp only[sG,Za,reduceCtorEq]),by rw[dz];first|(simp only[sG,Za,reduceCtorEq];rfl)|simp only[sG,Za,reduceCtorEq]⟩
    ·have dz:Z=true:=hZ.2 fun q=>k3 q.2.2
     repeat' (first|(refine qZb ?_;simp only[sB,Za,reduceCtorEq,z13 k1,z13 k2,zbj k3,Zw,Zd]))
     exact⟨_,rfl,(by simp only[sG,Za,reduceCtorEq]),(by simp only[sG,Za,reduceCtorEq]),(by simp only[sG,Za,reduceCtorEq]),(by simp only[sG,Za,reduceCtorEq]),(by simp only[sG,Za,reduceCtorEq]),by rw[dz];first|(simp only[sG,Za,reduceCtorEq];rfl)|simp only[sG,Za,reduceCtorEq]⟩
   ·have dz:Z=true:=hZ.2 fun q=>k2 q.2.1
    repeat' (first|(refine qZb ?_;simp only[sB,Za,reduceCtorEq,z13 k1,z29 k2,Zd]))
    exact⟨_,rfl,(by simp only[sG,Za,reduceCtorEq]),(by simp only[sG,Za,reduceCtorEq]),(by simp only[sG,Za,reduceCtorEq]),(by simp only[sG,Za,reduceCtorEq]),(by simp only[sG,Za,reduceCtorEq]),by rw[dz];first|(simp only[sG,Za,reduceCtorEq];rfl)|simp only[sG,Za,reduceCtorEq]⟩
  ·have dz:Z=true:=hZ.2 fun q=>k1 q.1
   repeat' (first|(refine qZb ?_;simp only[sB,Za,reduceCtorEq,z29 k1]))
   exact⟨_,rfl,(by simp only[sG,Za,reduceCtorEq]),(by simp only[sG,Za,reduceCtorEq]),(by simp only[sG,Za,reduceCtorEq]),(by simp only[sG,Za,reduceCtorEq]),(by simp only[sG,Za,reduceCtorEq]),by rw[dz];first|(simp only[sG,Za,reduceCtorEq];rfl)|simp only[sG,Za,reduceCtorEq]⟩
 rintro st ⟨tm,rfl,t2,t3,t4,t7,t8,t53⟩;simp only[z00];by_cases hok:e=0/\e'=0/\x=y;rotate_left
 ·rw[hZ.2 hok] at t53
  repeat' (first|refine qZa ?_|(refine qZf ?_;try simp only[z04,z02])|(refine qZb ?_;simp only[sB,t7])|(refine qZd ?_ ?_;simp only[sA,t53];refine z01 ?_))
  exact z03 rfl (by simp only[sG,Za]) rfl
 rw[Bool.eq_false_iff.2 fun q=>hZ.1 q hok] at t53;obtain⟨he,he',hxy⟩:=hok;obtain⟨hp,ex⟩:=hxe he;obtain⟨hp',ey⟩:=hye he';subst hxy;have g1':=hxA6.get wA g1;have g2':=hxA6.get wA g2;have q1':=(row6 g1').2.2.2.2.2.2;have q2'':=(row6 g2').2.2.2.2.2.2;obtain⟨H7,e7,hx7,g7,n7,w7⟩:=new1 w6 (.row (six t at' ct++six u au cu') 40);have hx07:=hx06.trans hx7;have e7':=e7;simp only[six,List.cons_append,List.nil_append] at e7'
 repeat' (first|refine qZa ?_|(refine qZe ?_;try simp only[z00])|(refine qZb ?_;simp (disch:=first|omega|rfl) only[sB,Za,Zb,Value.cells,one,Zr,layC,ld40,zpr,cl12,t3,t4,q1',q2'',e7'])|(refine qZm ?_ ?_;simp only[sA,t53];refine z01 ?_))
 have hol:(occL [t,u]).length<=most:=by
  have h1:=zjb hp.1;have h2:=zjb hp'.1;have h3:=zha _ t (Zf _);have h4:=zha _ u (Zf _);rw[occL,occL,occL,List.append_nil,Zm];unfold most;omega
 refine(zjd (RepL.two (r0.mono hx07 hw) (r1.mono hx07 hw) g7) hol w7).mono ?_;rintro v H8 ⟨hIL,hx8⟩;have w8:=hx8.wf;obtain⟨va,vc,rfl,rdv,-⟩:=hIL.rd;have hx08:=hx07.trans hx8;obtain⟨V,hV⟩:∃V,V=uniq (occL [t,u]):=⟨_,rfl⟩
 rw[<-hV] at rdv hIL ⊢;have hVm:∀n,n∈V↔n∈occ t\/n∈occ u:=fun n=>by rw[hV,zbh,occL,occL,occL,List.append_nil,List.mem_append]
 repeat' (first|refine qZa ?_|refine qZg ?_|(refine qZb ?_;simp only[sA]))
 have hx68:=hx7.trans hx8;have rb8:=(rb.mono hx08 hw).bs;refine qZk (fun k st=>∃tm G i,st=⟨tm,[],G⟩/\k=V.length - i/\i<=V.length/\tm.get 2=some (.slice ab B.length cb)/\tm.get 3=some (.pointer (some ⟨H.next,0,none⟩))/\tm.get 4=some (.pointer (some ⟨H.next+1,0,none⟩))/\tm.get 7=some (.bool true)/\tm.get 8=some (.pointer (some ⟨H2.next,0,none⟩))/\tm.get 13=some (.slice va V.length vc)/\tm.get 14=some (.int .i64 (i:Nat))/\HX H8 G/\∀n∈V.take i,n < 6/\∃w,lookT B n=some w) ?_ V.length _ ?_;rotate_left
 ·exact⟨_,_,0,rfl,rfl,ZA _,(by simp only[sG,Za,t2]),(by simp only[sG,Za,t3]),(by simp only[sG,Za,t4]),(by simp only[sG,Za,t7]),(by simp only[sG,Za,t8]),(by simp only[sG,Za]),(by simp only[sB,Za];rfl),HX.refl w8,fun n hn=>by cases hn⟩
 clear t2 t3 t4 t7 t8 t53;rintro k st ⟨tm,G,i,rfl,rfl,hi,t2,t3,t4,t7,t8,t13,t14,hxG,hall⟩;have wG:=hxG.wf;by_cases hlt:i < V.length
 ·obtain⟨b,o,rfl,hld⟩:=rdv.get i hlt;have hldG:=hxG.load w8 hld;obtain⟨n,hn⟩:∃n,n=V[i]:=⟨_,rfl⟩
  rw[<-hn] at hldG;have hmx:=rdv.max;have hw1:IntKind.i64.wrap ((i:Int)+1)=((i+1:Nat):Int):=by rw[z05]<;>omega
  repeat' (first|refine qZa ?_|refine qZg ?_|(refine qZe ?_;try simp only[z00])|(refine qZb ?_;simp (disch:=first|omega|rfl) only[sB,Za,ln28,ia28,ld3,cl13,t2,t13,t14,decl hlt,hldG])|(refine qZd ?_ ?_;simp only[sB,Za];refine z01 ?_))
  refine(zos (n:=n) (rb8.mono hxG w8) wG).mono ?_;rintro v G1 ⟨hy1,hv⟩;have v1:=hy1.wf;have hld1:=hy1.load wG hldG;have hlk:lookT B n=(B.find? fun p=>p.1 == n).map (·.2):=rfl;cases hf:B.find? (fun p=>p.1 == n) with
  |none =>
   rw[hf] at hv;subst hv;obtain⟨G2,f2,hy2,k2,m2,v2⟩:=z0o v1 (.row zero6 40) (.row zero6 40);have hld2:=hy2.load v1 hld1;by_cases h6:n >= 6
   ·have d6:decide (n >= 6)=true:=decide_eq_true h6
    repeat' (first|refine qZa ?_|(refine qZf ?_;try simp only[z04,z02])|(refine qZb ?_;simp (disch:=first|omega|rfl) only[sB,Za,ia28,ld3,t7,t13,t14,hld2,d6])|(refine z0f ?_;simp (disch:=first|omega|rfl) only[sB,dAlloc,Za,Zb,one,zr40,st40,f2])|(refine qZd ?_ ?_;simp only[sB,Za];refine z01 ?_))
    exact z03 rfl (by simp only[sG,Za]) rfl
   ·have d6:decide (n >= 6)=false:=decide_eq_false h6
    repeat' (first|refine qZa ?_|(refine qZf ?_;try simp only[z04,z02])|(refine qZb ?_;simp (disch:=first|omega|rfl) only[sB,Za,ia28,ld3,t7,t13,t14,hld2,d6,Zw,Zd])|(refine z0f ?_;simp (disch:=first|omega|rfl) only[sB,dAlloc,Za,Zb,one,zr40,st40,f2])|(refine qZd ?_ ?_;simp only[sB,Za];refine z01 ?_))
    exact z03 rfl (by simp only[sG,Za]) rfl
  |some pr =>
   rw[hf] at hv;obtain⟨csw,rfl,rw'⟩:=hv;obtain⟨wa,wc,cellsw,rfl,-⟩:=rw'.six;obtain⟨G2,f2,hy2,k2,m2,v2⟩:=z0o v1 (.row zero6 40) (.row (six pr.2 wa wc) 40);have hld2:=hy2.load v1 hld1;by_cases h6:n >= 6
   ·have d6:decide (n >= 6)=true:=decide_eq_true h6
    repeat' (first|refine qZa ?_|(refine qZf ?_;try simp only[z04,z02])|(refine qZb ?_;simp (disch:=first|omega|rfl) only[sB,Za,ia28,ld3,t7,t13,t14,hld2,d6])|(refine z0f ?_;simp (disch:=first|omega|rfl) only[sB,dAlloc,Za,Zb,one,zr40,st40,f2])|(refine qZd ?_ ?_;simp only[sB,Za];refine z01 ?_))
    exact z03 rfl (by simp only[sG,Za]) rfl
   ·have d6:decide (n >= 6)=false:=decide_eq_false h6
    repeat' (first|refine qZa ?_|(refine qZe ?_;try simp only[sA])|(refine qZb ?_;simp (disch:=first|omega|rfl) only[sB,Za,ia28,ld3,t13,t14,hld2,d6,hw1,Zn,Zd])|(refine z0f ?_;simp (disch:=first|omega|rfl) only[sB,dAlloc,Za,Zb,one,zr40,st40,f2])|(refine qZm ?_ ?_;simp only[sB,Za];refine z01 ?_))
    refine⟨_,by omega,_,_,i+1,rfl,rfl,by omega,(by simp only[sG,Za,t2]),(by simp only[sG,Za,t3]),(by simp only[sG,Za,t4]),(by simp only[sG,Za,t7]),(by simp only[sG,Za,t8]),(by simp only[sG,Za,t13]),(by simp only[sG,Za]),(hxG.trans hy1).trans hy2,fun m hm=>?_⟩;rw[<-ZL hlt,List.mem_append,Zx] at hm;rcases hm with hm|hm
    ·exact hall m hm
    ·rw[hm,<-hn,hlk,hf];exact⟨by omega,_,rfl⟩
 obtain rfl:i=V.length:=by omega
 rw[List.take_length] at hall;have hx8G:=hx68.trans hxG;have g1G:=hx8G.get w6 g1';have g2G:=hx8G.get w6 g2';have qG1:=(row6 g1G).2.2.2.2.2.2;have qG2:=(row6 g2G).2.2.2.2.2.2;have hx0G:=hx08.trans hxG
 repeat' (first|refine qZa ?_|(refine qZi ?_;try simp only[sB])|(refine qZb ?_;simp only[sB,Za,ld40,ln28,cl14,t3,t4,t13,t14,decn hlt,qG1,qG2])|(refine qZm ?_ ?_;simp only[sB,Za];refine z01 ?_))
 refine(zom (r0.mono hx0G hw) (r1.mono hx0G hw) wG).mono ?_;rintro v K2 ⟨hy2,s,cx,cy,hv⟩;have neA:(K2.next=K2.next+1)=False:=by simp
 have neB:(K2.next+1=K2.next)=False:=by simp
 have wK2:=hy2.wf;obtain⟨K3,f3,hy3,k7,k8,m3,v3⟩:=zor wK2 (.row [.int .i64 0,.int .i64 0] 42) (.row [.int .i64 0,.int .i64 0] 42) (.row (two cx) 42) (.row (two cy) 42);rcases hv with rfl|⟨rfl,BB,σ,hB,hs,hps,rcx,rcy,hc,hc',hokv⟩
 ·try simp (disch:=first|omega|rfl) only[sB,dAlloc,Za,Zb,one,zr42,st42,zq6,neA,neB,f3]
  repeat' (first|refine qZa ?_|(refine qZf ?_;try simp only[z04,z02])|(refine qZb ?_;simp only[sB,Za,t7,Zw])|(refine qZd ?_ ?_;simp only[sB,Za];refine z01 ?_))
  exact z03 rfl (by simp only[sG,Za]) rfl
 have hn:=zjb hc;have hn':=zjb hc';have hU:=zmz hps (by omega) (by omega);have hs3:=hs.keep wK2 hy3;have q7:=z0l k7;have q8:=z0l k8;(try simp (disch:=first|omega|rfl) only[sB,dAlloc,Za,Zb,one,zr42,st42,zq6,neA,neB,f3]);refine EvC.frame (fun tm=>tm.get 8=some (.pointer (some ⟨H2.next,0,none⟩))/\tm.get 17=some (.pointer (some ⟨s,0,none⟩))/\tm.get 18=some (.pointer (some ⟨K2.next,0,none⟩))/\tm.get 19=some (.pointer (some ⟨K2.next+1,0,none⟩))/\tm.get 20=some (.bool true)) ⟨(by simp only[sG,Za,t8]),(by simp only[sG,Za]),(by simp only[sG,Za]),(by simp only[sG,Za]),(by simp only[sG,Za])⟩ ?_;clear t2 t3 t4 t7 t8 t13 t14;rintro tm ⟨t8,t17,t18,t19,t20⟩
 repeat' (first|refine qZa ?_|(refine qZe ?_;try simp only[z00])|(refine qZb ?_;simp only[sB,Za,ld42,cl15,t17,t18,t19,t20,q7,q8,Zn])|(refine qZm ?_ ?_;simp only[sB,Za];refine z01 ?_))
 refine(zmp hU hs3 v3 rcx.may rcy.may (by rw[hps.tr];simp [most]) (fun z hz=>by rw[hps.tr] at hz;cases hz) (by rw[hps.ms];simp [most])).mono ?_;rintro v K4 ⟨rfl,hs4,x4⟩;have v4:=x4.wf;obtain⟨ν,hν⟩:∃ ν:Int->Tm,∀n,ν n=(lookT B n).getD (varTm n):=⟨_,fun _=>rfl⟩
 have hlook:∀n,n∈occ t\/n∈occ u->lookT B n=some (ν n):=fun n hn=>by
  obtain⟨-,w,hw⟩:=hall n ((hVm n).2 hn);rw[hν,hw];rfl
 have vx:=zq5 (ν:=ν) (f:=lookT B) hps.con rcx.rd (fun n hn=>hlook n (.inl hn));have vy:=zq5 (ν:=ν) (f:=lookT B) hps.con rcy.rd (fun n hn=>hlook n (.inr hn));rw[<-ex] at vx;rw[<-ey] at vy;have vmk:∀{c:Int × Int}{z:Tm},Val σ ν c z->Val (markS σ) ν c z:=fun {c z} h=>by
  induction h with
  |var a v h1 h2=>exact .var a v h1 h2
  |go a t h1 h2 _ ih=>exact .go a t h1 h2 ih
  |con j t h1=>exact .con j t h1
  |str p f nm l h1 h2 h3 _ ih=>exact .str p f nm l h1 h2 h3 ih
 have vum:∀{τ:SS}{m:List (Int × Int × Int)}{c:Int × Int}{z:Tm},Val τ ν c z->Val { τ with marks:=m } ν c z:=fun {τ m c z} h=>by
  induction h with
  |var a v h1 h2=>exact .var a v h1 h2
  |go a t h1 h2 _ ih=>exact .go a t h1 h2 ih
  |con j t h1=>exact .con j t h1
  |str p f nm l h1 h2 h3 _ ih=>exact .str p f nm l h1 h2 h3 ih
 obtain⟨τ,hrun,hnx⟩:=zmo (ν:=ν) true 20000 (σ:=markS σ) [(cx,cy)] (zho hU) (hps.ki.same rfl rfl) hps.con (fun p hp=>by
  rw[Zx] at hp;subst hp;exact⟨by rw[z6g];exact rcx.may,by rw[z6g];exact rcy.may,x,vmk vx,vmk vy⟩)
 obtain⟨ρ,hρ⟩:∃ ρ,ρ=(uniR σ cx cy true).1:=⟨_,rfl⟩
 have hρU:UOk ρ/\mayS ρ cx=true:=by
  rw[hρ];unfold uniR;rcases hrun with q|q
  ·rw[q];exact⟨hnx.ok.marks _,(zbo (σ:=τ) (τ:={ τ with marks:=σ.marks }) rfl rfl rfl cx).trans (hnx.may (by rw[z6g];exact rcx.may))⟩
  ·rw[q];exact⟨hU,rcx.may⟩
 rw[<-hρ] at hs4;have nm18:¬Mut K3 s K2.next:=hs.fresh wK2 hy3 (Ze _);have q7':=z0l (x4.own v3 nm18 k7)
 repeat' (first|refine qZa ?_|(refine qZb ?_;simp only[sB,Za,ld42,cl16,t17,t18,q7'])|(refine z0f ?_;simp only[sB,Za]))
 refine(zrs hρU.1.tok hρU.1.wf.lo hs4 v4).mono ?_;rintro v K5 ⟨tcs,rfl,htF,hy5⟩;obtain⟨ta,tc,rfl,-⟩:=id htF;have v5:=hy5.wf;obtain⟨K6,f6,hy6,k6,m6,v6⟩:=z0o v5 (.row zero6 40) (.row (six (termS ρ cx).1 ta tc) 40);(try simp (disch:=first|omega|rfl) only[sB,dAlloc,Za,Zb,one,zr40,st40,f6]);have hterr:(termS ρ cx).2=0\/(termS ρ cx).2=131:=by
  unfold termS;rw[if_neg (by rw[hρU.2];simp)];split
  ·exact .inr rfl
  ·exact .inl rfl
 rcases hrun with q|q;rotate_left
 ·have eu:uniR σ cx cy true=(σ,false,140):=by unfold uniR;rw[q];rfl
  have d9:((140:Int) != 0)=true:=rfl;have d8:((140:Int) == 140)=true:=rfl;simp only[eu]
  repeat' (first|refine qZa ?_|(refine qZf ?_;try simp only[z04,z02])|(refine qZb ?_;simp only[sB,Za,d9,d8])|(refine qZd ?_ ?_;simp only[sB,Za];refine z01 ?_))
  exact z03 rfl (by simp only[sG,Za]) rfl
 have eu:uniR σ cx cy true=({ τ with marks:=σ.marks },true,0):=by unfold uniR;rw[q];rfl
 simp only[eu];rcases hterr with ht|ht;rotate_left
 ·have d9:((0:Int) == 140)=false:=rfl
  repeat' (first|refine qZa ?_|(refine qZf ?_;try simp only[z04,z02])|(refine qZb ?_;simp only[sB,Za,ht,z13 rfl,z29 (show (131:Int)≠0 by decide),d9,z0v rfl,Zn,Zd])|(refine qZd ?_ ?_;simp only[sB,Za];refine z01 ?_))
  exact z03 rfl (by simp only[sG,Za]) rfl
 have eρ:ρ={ τ with marks:=σ.marks }:=by rw[hρ,eu]
 have vρ:Val ρ ν cx x:=by rw[eρ];exact vum (hnx.val _ _ (vmk vx))
 have hconρ:∀z∈ρ.consts,AtF z:=by rw[eρ];show ∀z∈τ.consts,AtF z;rw[hnx.consts];exact hps.con
 have hfx:Fine x:=by rw[ex];exact(z3f.1 (ze5 hp)).2
 have hle:(toldF ρ 4001 cx 0).2<=4000:=by
  unfold termS at ht;rw[if_neg (by rw[hρU.2];simp)] at ht;split at ht
  ·cases ht
  ·omega
 have etm:(termS ρ cx).1=(toldF ρ 4001 cx 0).1:=by
  unfold termS;rw[if_neg (by rw[hρU.2];simp),if_neg (by omega)]
 obtain⟨hsub,hfine⟩:=zhp hρU.1 hconρ 4001 hρU.2 vρ hfx (by omega) (by omega) hle;rw[<-etm] at hsub hfine;have hcx:checkS x=0:=by rw[ex];exact ze5 hp
 have hct:checkS (termS ρ cx).1=0:=by
  refine z3f.2 ⟨?_,hfine⟩;have h1:=zfi (σ:=fun v=>some (ν v)) _ (Zf _) hfine;rw[hsub] at h1;have:=(z3f.1 hcx).1;omega
 obtain⟨M',hM',-⟩:=zdx (σ:=fun v=>some (ν v)) _ (M:=[]) (Zf _) hfine (fun p hp=>by cases hp);rw[hsub] at hM';have hx56:=hy5.trans hy6;have q23:=(row6 k6).2.2.2.2.2.2;have nmx:¬Mut K4 s H2.next:=fun r=>by
  have:=hs4.mlo r;have h1:=g3' ;have h2:=hx6.next;have h3:=hx8G.next;have:=w5 _ _ h1;omega
 have gx3:=hy3.get wK2 (hy2.get wG (hx8G.get w6 (hx6.get w5 g3')));have nmx3:¬Mut K3 s H2.next:=fun r=>by
  have:=hs3.mlo r;have h2:=hx6.next;have h3:=hx8G.next;have:=w5 _ _ g3';omega
 have gx:=hx56.get v4 (x4.own v3 nmx3 gx3);have q8':=(row6 gx).2.2.2.2.2.2;refine EvC.frame (fun tm=>tm.get 8=some (.pointer (some ⟨H2.next,0,none⟩))/\tm.get 21=some (.bool true)/\tm.get 22=some (.int .i64 0)/\tm.get 23=some (.pointer (some ⟨K5.next,0,none⟩))/\tm.get 24=some (.int .i64 0)) ⟨(by simp only[sG,Za,t8]),(by simp only[sG,Za]),(by simp only[sG,Za]),(by simp only[sG,Za]),(by simp only[sG,Za,ht])⟩ ?_;clear t8 t17 t18 t19 t20;rintro tm ⟨t8,t21,t22,t23,t24⟩
 repeat' (first|refine qZa ?_|(refine qZe ?_;try simp only[z00])|(refine qZb ?_;simp only[sB,Za,ld40,cl17,t8,t21,t22,t23,t24,z13 rfl,q23,q8',Zn,Zd])|(refine qZm ?_ ?_;simp only[sB,Za];refine z01 ?_))
 have rxK:RepT K6 x (six x xa xc):=by
  have hxx:HX H2 K6:=by
   have a1:HX H2 G:=((hx3.trans hx35).trans hx6).trans hx8G;have a2:HX G K4:=(hs.hx (H0:=G) hy2 hB (hy3.sx (hs.lt wK2))).trans (HX.refl v3) |>.trans (HX.refl v3) |> fun _=>(hs3.hx (H0:=G) (hy2.trans hy3) hB x4)
   exact(a1.trans a2).trans hx56
  exact rx.mono hxx hx2.wf
 have rtK:RepT K6 (termS ρ cx).1 (six (termS ρ cx).1 ta tc):=(htF.rep).mono hy6 v5;refine(zox rtK rxK v6).mono ?_;rintro v K7 ⟨hy7,hm⟩;have hcl:chkL [(termS ρ cx).1,x]=0:=zoz hct hcx;rcases hm with ⟨-,n,a,c,D,rfl,-⟩|⟨-,hno,-⟩|⟨hne,-⟩
 ·repeat' (first|refine qZa ?_|(refine qZf ?_)|(refine qZb ?_;simp only[sB,Za,z0v rfl])|(refine z0f ?_;simp only[sB,Za]))
  exact z03 rfl (by simp only[sG,Za]) rfl
 ·rw[hM'] at hno;cases hno
 ·exact absurd hcl hne
end Go.Proofs.hq
end

section
namespace Go.Hb
open Go Go.RowKit
section
variable {H:Type}{enc:TypeId × Value->H}{P:Program}{W:World}{sp:Nat->Bool}{fuel:Nat}{t e:TypeId}{cs:List Value}{d:DataW H}{ps:List MemPlace}
theorem zq7 {k:IntKind}{n:Int}:ab P W (.int k n)=.int k n:=rfl
theorem ze7 {s:ByteArray}:ab P W (.string s)=.string s:=rfl
theorem z7n {k:IntKind}(ht:P.underlying t=some (.int k)) (h:DataW.trod enc P W 0 sp true fuel t cs=some (d,ps)):∃n,cs=[.int k n]/\(Lit.int k n).wf=true:=by
 cases fuel with
 |zero=>simp [DataW.trod] at h
 |succ m =>
  unfold DataW.trod at h;rw[ht] at h;split at h<;>simp_all
theorem z9c (ht:P.underlying t=some .string) (h:DataW.trod enc P W 0 sp true fuel t cs=some (d,ps)):∃s:ByteArray,cs=[.string s]/\s.size<=maxLen:=by
 cases fuel with
 |zero=>simp [DataW.trod] at h
 |succ m =>
  unfold DataW.trod at h;rw[ht] at h;split at h<;>simp_all
theorem zai (ht:P.underlying t=some (.slice e)) (h:DataW.trod enc P W 0 sp true fuel t cs=some (d,ps)) :
  cs=[.slice none 0 0]\/∃a len cap m,fuel=m+1/\cs=[.slice (some a) len cap]/\len<=cap/\cap<=maxLen /\
   ∀i,i < len->∃es d' ps',W.cells? 0 (a.add (i*P.cellsOf e)) (P.cellsOf e)=some es/\DataW.trod enc P W 0 sp true m e es=some (d',ps'):=by
 cases fuel with
 |zero=>simp [DataW.trod] at h
 |succ m =>
  unfold DataW.trod at h;rw[ht] at h;split at h<;>simp_all
  obtain⟨⟨hl,hc⟩,h⟩:=h;simp only[Option.bind_eq_some_iff,Option.map_eq_some_iff] at h;obtain⟨elems,he,_⟩:=h;refine⟨_,_,_,⟨rfl,rfl,rfl⟩,hl,hc,fun i hi=>?_⟩;have hlen:=mapM_some_length he;have:=mapM_some_get he i i (by simp [hi]);rw[Zc (by rw[hlen];simpa using hi)] at this;simp only[Option.bind_eq_some_iff] at this;obtain⟨es,h1,h2⟩:=this;exact⟨es,h1,_,_,h2⟩
theorem z9d {fs:Array Field}(ht:P.underlying t=some (.struct fs)) (h:DataW.trod enc P W 0 sp true fuel t cs=some (d,ps)) :
  ∃m,fuel=m+1/\cs.length=P.cellsOf t/\∀(i:Nat) (f:Field),fs[i]?=some f->∃d' ps',DataW.trod enc P W 0 sp true m f.type ((cs.drop f.offset).take (P.cellsOf f.type))=some (d',ps'):=by
 cases fuel with
 |zero=>simp [DataW.trod] at h
 |succ m =>
  unfold DataW.trod at h;rw[ht] at h;split at h<;>simp_all
  subst_vars
  obtain⟨hl,xs,hx,_⟩:=h;intro i f hf;have hlen:=mapM_some_length hx;have:=mapM_some_get hx i f (by simpa using hf);have hi:=(Array.getElem?_eq_some_iff.1 hf).1;rw[Zc (by rw[hlen];simpa using hi)] at this;exact⟨_,_,this⟩
theorem zsi (a:Addr) (i:Nat):(a.add i).block=a.block:=by unfold Addr.add;split<;>rfl
theorem z6h {a:Addr}{s i:Nat}{es:List Value}(hs:0 < s) (h:W.cells? 0 (a.add (i*s)) s=some es) (hsp:a.spot=none):(heapW P W).load ⟨a.block,a.off+i*s,none⟩ s=some (es.map (ab P W))/\es.length=s/\a.block < W.heap.size:=by
 obtain⟨_,hl,hc⟩:=World.cells?_some h;obtain⟨b,o,sp⟩:=a;obtain rfl:sp=none:=hsp;have hb:=World.cells?_block h hs;rw[zsi] at hb;refine⟨zi9 hs hl fun j v hj=>?_,hl,hb⟩;have hjl:j < es.length:=(List.getElem?_eq_some_iff.1 hj).1;have:=hc j (by omega);rw[add0,add0] at this;rw[this];exact hj
theorem zaj {a:Addr}{s:Nat}{es:List Value}(hs:0 < s) (h:W.cells? 0 (a.add (0*s)) s=some es):a.spot=none:=by
 obtain⟨_,hl,hc⟩:=World.cells?_some h;have e0:∀a:Addr,a.add 0=a:=fun a=>by unfold Addr.add;simp
 have:=hc 0 hs;rw[Nat.zero_mul,e0,e0,Zc (by omega)] at this;unfold World.cell? at this;split at this
 ·split at this
  ·cases this
  ·rename_i hn;simpa using hn
 ·cases this
end
section
variable {H:Type}{enc:TypeId × Value->H}{P:Program}{W:World}{sp:Nat->Bool}
structure TermTypes (P:Program) (tT tS tI tG tU:TypeId):Prop where
 fields:∃fs:Array Field,P.underlying tT=some (.struct fs)/\(fs.toList.map fun f=>(f.offset,f.type))=[(0,tI),(1,tG),(2,tG),(3,tU),(4,tI),(5,tS)]
 slice:P.underlying tS=some (.slice tT)
 int:P.underlying tI=some (.int .i64)
 str:P.underlying tG=some .string
 u64:P.underlying tU=some (.int .u64)
 cT:P.cellsOf tT=6
 cS:P.cellsOf tS=1
 cI:P.cellsOf tI=1
 cG:P.cellsOf tG=1
 cU:P.cellsOf tU=1
theorem zak {n:Int}(h:(Lit.int .i64 n).wf=true):i64 n:=by
 unfold i64;unfold Lit.wf at h;simp [IntKind.min,IntKind.max,IntKind.bits,IntKind.signed] at h;exact h
theorem zn0 {n:Int}(h:(Lit.int .u64 n).wf=true):u64 n:=by
 unfold u64;unfold Lit.wf at h;simp [IntKind.min,IntKind.max,IntKind.bits,IntKind.signed] at h;exact h
theorem z4e {cs:List Value}{o:Nat}{v:Value}(h:(cs.drop o).take 1=[v]):cs[o]?=some v:=by
 have:((cs.drop o).take 1)[0]?=some v:=by rw[h];rfl
 simpa [ZJ,List.getElem?_drop] using this
theorem zht {cs:List Value}{a b c d e f:Value}(hl:cs.length=6) (h0:cs[0]?=some a) (h1:cs[1]?=some b) (h2:cs[2]?=some c) (h3:cs[3]?=some d) (h4:cs[4]?=some e) (h5:cs[5]?=some f):cs=[a,b,c,d,e,f]:=by
 match cs,hl with
 |[_,_,_,_,_,_],_=>simp at h0 h1 h2 h3 h4 h5;simp [h0,h1,h2,h3,h4,h5]
theorem z5p {tT tS tI tG tU:TypeId}(T:TermTypes P tT tS tI tG tU):∀(fuel:Nat) (cs:List Value) (d:DataW H) (ps:List MemPlace),DataW.trod enc P W 0 sp true fuel tT cs=some (d,ps)->∃t,RepT (heapW P W) t (cs.map (ab P W)):=by
 intro fuel
 induction fuel using Nat.strongRecOn with
 |_ fuel ih =>
 intro cs d ps h;obtain⟨fs,hf,hfs⟩:=T.fields;obtain⟨m,rfl,hl,hall⟩:=z9d hf h;rw[T.cT] at hl;have fld:∀i o u,((fs.toList.map fun f=>(f.offset,f.type)))[i]?=some (o,u)->P.cellsOf u=1->∃d' ps',DataW.trod enc P W 0 sp true m u ((cs.drop o).take 1)=some (d',ps'):=fun i o u hi hu=>by
  rw[Zj,Option.map_eq_some_iff] at hi;obtain⟨f,hf1,hf2⟩:=hi;obtain⟨d',ps',hd⟩:=hall i f (by simpa using hf1);cases hf2;rw[hu] at hd;exact⟨d',ps',hd⟩
 rw[hfs] at fld;obtain⟨d0,p0,t0⟩:=fld 0 0 tI rfl T.cI;obtain⟨d1,p1,t1⟩:=fld 1 1 tG rfl T.cG;obtain⟨d2,p2,t2⟩:=fld 2 2 tG rfl T.cG;obtain⟨d3,p3,t3⟩:=fld 3 3 tU rfl T.cU;obtain⟨d4,p4,t4⟩:=fld 4 4 tI rfl T.cI;obtain⟨d5,p5,t5⟩:=fld 5 5 tS rfl T.cS;obtain⟨k,h0,w0⟩:=z7n T.int t0;obtain⟨s,h1,w1⟩:=z9c T.str t1;obtain⟨u,h2,w2⟩:=z9c T.str t2;obtain⟨b,h3,w3⟩:=z7n T.u64 t3;obtain⟨v,h4,w4⟩:=z7n T.int t4;rcases zai T.slice t5 with h5|⟨a,n,c,m',rfl,h5,hnc,hcm,hel⟩
 ·rw[zht hl (z4e h0) (z4e h1) (z4e h2) (z4e h3) (z4e h4) (z4e h5)];exact⟨.mk k s u b v [],.mk k s u b v [] none 0 (fun _=>[]) (zak w0) w1 w2 (zn0 w3) (zak w4) (ZA _) (Ze _) (ZA _) (fun _=>⟨rfl,rfl⟩) (fun i ad hi=>by simp at hi) (fun i t ht=>by simp at ht)⟩
 ·rw[zht hl (z4e h0) (z4e h1) (z4e h2) (z4e h3) (z4e h4) (z4e h5)];rw[T.cT] at hel;have hsp:0 < n->a.spot=none:=fun hn=>by
   obtain⟨es,_,_,he,_⟩:=hel 0 hn;exact zaj (by omega) he
  have key:∀i,∃t cells,i < n->(heapW P W).load ⟨a.block,a.off+i*6,none⟩ 6=some cells/\RepT (heapW P W) t cells:=fun i=>by
   by_cases hi:i < n
   ·obtain⟨es,d',ps',he,ht⟩:=hel i hi;obtain⟨t,hr⟩:=ih m' (by omega) es d' ps' ht;exact⟨t,_,fun _=>⟨(z6h (by omega) he (hsp (by omega))).1,hr⟩⟩
   ·exact⟨.mk 0 s u 0 0 [],[],fun h=>absurd h hi⟩
  obtain⟨T',hT'⟩:=Classical.axiomOfChoice key;obtain⟨C,hC⟩:=Classical.axiomOfChoice hT';have hlen:((Zg n).map T').length=n:=by simp
  refine⟨.mk k s u b v ((Zg n).map T'),?_⟩;by_cases hn:0 < n
  ·have hbl:a.block < W.heap.size:=by
    obtain⟨es,_,_,he,_⟩:=hel 0 hn;exact(z6h (P:=P) (by omega) he (hsp hn)).2.2
   have hab:ab P W (.slice (some a) n c)=.slice (some a) ((Zg n).map T').length c:=by
    unfold ab;rw[hlen];simp only;rw[if_pos ⟨hnc,hcm⟩,if_pos ⟨hsp hn,hbl⟩]
   simp only[List.map_cons,List.map_nil,zq7,ze7,hab];refine .mk k s u b v _ (some a) c C (zak w0) w1 w2 (zn0 w3) (zak w4) (by rw[hlen];omega) (by rw[hlen];exact hnc) hcm (fun h=>by cases h) (fun i ad hi ha=>?_) (fun i t ht=>?_)
   ·cases ha;rw[hlen] at hi;exact⟨hsp hn,(hC i hi).1⟩
   ·rw[Zj,Option.map_eq_some_iff] at ht;obtain⟨j,hj,rfl⟩:=ht;have hi:i < n:=by have:=(List.getElem?_eq_some_iff.1 hj).1;simpa using this
    rw[List.getElem?_range hi] at hj;cases hj;exact(hC i hi).2
  ·have hn0:n=0:=by omega
   subst hn0;obtain⟨a',hab⟩:∃a',ab P W (.slice (some a) 0 c)=.slice (some a') 0 c:=by
    unfold ab;simp only;rw[if_pos ⟨hnc,hcm⟩];split
    ·exact⟨_,rfl⟩
    ·exact⟨_,rfl⟩
   simp only[List.map_cons,List.map_nil,zq7,ze7,hab,List.range_zero];exact .mk k s u b v [] (some a') c C (zak w0) w1 w2 (zn0 w3) (zak w4) (ZA _) hnc hcm (fun h=>by cases h) (fun i ad hi=>by simp at hi) (fun i t ht=>by simp at ht)
end
end Go.Hb
end

section
namespace Go.Hb
open Go Go.RowKit
section
variable {H:Type}{enc:TypeId × Value->H}{P:Program}{W:World}{sp:Nat->Bool}
end
end Go.Hb
end

section
namespace Go.Proofs.hq
open Go Go.RowKit Go.Hb
section
variable {H:Type}{enc:TypeId × Value->H}{P:Program}{W:World}{sp:Nat->Bool}
structure BindTypes (P:Program) (tB tBS tT tI:TypeId):Prop where
 fields:∃fs:Array Field,P.underlying tB=some (.struct fs)/\(fs.toList.map fun f=>(f.offset,f.type))=[(0,tI),(1,tT)]
 slice:P.underlying tBS=some (.slice tB)
 cB:P.cellsOf tB=7
theorem ze8 {tT tS tI tG tU tB tBS:TypeId}(T:TermTypes P tT tS tI tG tU) (Bt:BindTypes P tB tBS tT tI) {fuel:Nat}{cs:List Value}{d:DataW H}{ps:List MemPlace}(h:DataW.trod enc P W 0 sp true fuel tB cs=some (d,ps)) :
  ∃(n:Int) (t:Tm) (a:Option Addr) (c:Nat),cs.map (ab P W)=seven n t a c/\RepT (heapW P W) t (six t a c):=by
 obtain⟨fs,hf,hfs⟩:=Bt.fields;obtain⟨m,rfl,hl,hall⟩:=z9d hf h;rw[Bt.cB] at hl;have fld:∀i o u,((fs.toList.map fun f=>(f.offset,f.type)))[i]?=some (o,u)->∃d' ps',DataW.trod enc P W 0 sp true m u ((cs.drop o).take (P.cellsOf u))=some (d',ps'):=fun i o u hi=>by
  rw[Zj,Option.map_eq_some_iff] at hi;obtain⟨f,hf1,hf2⟩:=hi;obtain⟨d',ps',hd⟩:=hall i f (by simpa using hf1);cases hf2;exact⟨d',ps',hd⟩
 rw[hfs] at fld;obtain⟨d0,p0,t0⟩:=fld 0 0 tI rfl;obtain⟨d1,p1,t1⟩:=fld 1 1 tT rfl;rw[T.cI] at t0;rw[T.cT] at t1;obtain⟨n,h0,-⟩:=z7n T.int t0;obtain⟨t,hr⟩:=z5p T _ _ _ _ t1;obtain⟨a,c,cells,h6,-⟩:=hr.six;refine⟨n,t,a,c,?_,by rw[<-h6];exact hr⟩
 match cs,hl with
 |x :: r,hl =>
  have hr6:r.length=6:=by simpa using hl
  rw[List.drop_zero,List.take_succ_cons,List.take_zero] at h0;cases h0;rw[List.drop_succ_cons,List.drop_zero,Zq (by omega)] at h6;rw[List.map_cons,h6];rfl
theorem zp0 {tT tS tI tG tU tB tBS:TypeId}(T:TermTypes P tT tS tI tG tU) (Bt:BindTypes P tB tBS tT tI) {v:Value}{fuel:Nat}{d:DataW H}{ps:List MemPlace}(h:DataW.trod enc P W 0 sp true fuel tBS v.cells.toList=some (d,ps)) (hv:∀cs,v≠.agg cs) :
  ∃B a c,abV P W v=.slice a B.length c/\RepB7 (heapW P W) B a c:=by
 have hc:v.cells.toList=[v]:=by
  unfold Value.cells;split
  ·rename_i cs;exact absurd rfl (hv cs)
  ·rfl
 have habv:abV P W v=ab P W v:=by
  unfold abV;split
  ·rename_i cs;exact absurd rfl (hv _)
  ·rfl
 rw[hc] at h;rw[habv];rcases zai Bt.slice h with e|⟨a,n,c,m,rfl,e,hnc,hcm,hel⟩
 ·cases e;exact⟨[],none,0,rfl,Ze _,ZA _,fun i hi=>by simp at hi⟩
 ·cases e;rw[Bt.cB] at hel;have hsp:0 < n->a.spot=none:=fun hn=>by
   obtain⟨es,_,_,he,_⟩:=hel 0 hn;exact zaj (by omega) he
  have key:∀i,∃p:Int × Tm,i < n->∃a' c',(heapW P W).load ⟨a.block,a.off+i*7,none⟩ 7=some (seven p.1 p.2 a' c')/\RepT (heapW P W) p.2 (six p.2 a' c'):=fun i=>by
   by_cases hi:i < n
   ·obtain⟨es,d',ps',he,ht⟩:=hel i hi;obtain⟨k,t,a',c',e1,e2⟩:=ze8 T Bt ht;refine⟨(k,t),fun _=>⟨a',c',?_,e2⟩⟩;rw[<-e1];exact(z6h (by omega) he (hsp (by omega))).1
   ·exact⟨(0,.mk 0 Zh Zh 0 0 []),fun h=>absurd h hi⟩
  obtain⟨B,hB⟩:=Classical.axiomOfChoice key;have hlen:((Zg n).map B).length=n:=by simp
  by_cases hn:0 < n
  ·have hbl:a.block < W.heap.size:=by
    obtain⟨es,_,_,he,_⟩:=hel 0 hn;exact(z6h (P:=P) (by omega) he (hsp hn)).2.2
   have hab:ab P W (.slice (some a) n c)=.slice (some a) ((Zg n).map B).length c:=by
    unfold ab;rw[hlen];simp only;rw[if_pos ⟨hnc,hcm⟩,if_pos ⟨hsp hn,hbl⟩]
   refine⟨(Zg n).map B,some a,c,hab,by rw[hlen];exact hnc,hcm,fun i hi=>?_⟩;rw[hlen] at hi;obtain⟨a',c',h1,h2⟩:=hB i hi;have e:((Zg n).map B)[i]'(by rw[hlen];exact hi)=B i:=by simp
   rw[e];have hs:=hsp hn;obtain⟨ab',ao,as'⟩:=a;simp only at hs;subst hs;exact⟨ab',ao,a',c',rfl,h1,h2⟩
  ·have hn0:n=0:=by omega
   subst hn0;obtain⟨a',hab⟩:∃a',ab P W (.slice (some a) 0 c)=.slice (some a') 0 c:=by
    unfold ab;simp only;rw[if_pos ⟨hnc,hcm⟩];split
    ·exact⟨_,rfl⟩
    ·exact⟨_,rfl⟩
   exact⟨[],some a',c,hab,ZA _,hcm,fun i hi=>by simp at hi⟩
end
end Go.Proofs.hq
end
