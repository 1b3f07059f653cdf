import Derived.Test.YtbooidfibigfcaaDoorM2
import Derived.Test.YtbooidfibigfcaaDoorM3
import Derived.Shelf.Spec.SlicesInsertGrow
import Derived.Test.YtbooidfibigfcaaDoorM7
import Derived.Shelf.Lays2
import Derived.Test.YtbooidfibigfcaaDoorProg
import Derived.KernelRfl
/- Lemmas on the program's own code, towards the laws of this folder, part 8. Conditions: as each lemma says. -/
open List renaming ext_getElem? -> ZN, getElem?_append_left -> ZC, getElem?_eq_none -> ZA, length_append -> Zy, length_cons -> ZJ, length_take -> Zp, range -> Zi
open Nat renaming le_refl -> Zf, le_trans -> Zk, zero_add -> ZF
section
namespace Go.Hb
open Go Go.RowKit Go.Shelf Go.Proofs
theorem z2x (g:Nat):∀(vs:List Value) (o:Nat) (w:World) (cur:Array Value) (e:TypeId) (fr:Nat × Nat),w.heap[g]?=some (.cells cur e fr)->o+vs.length<=cur.size ->
  ∃cur',(w.setCells g o vs).heap[g]?=some (.cells cur' e fr)/\cur'.size=cur.size/\(∀k,cur'[k]?=if o<=k/\k < o+vs.length then vs[k - o]? else cur[k]?) /\
   (w.setCells g o vs).os=w.os/\(w.setCells g o vs).tape=w.tape/\(w.setCells g o vs).output=w.output/\(w.setCells g o vs).heap.size=w.heap.size/\∀k,k≠g->(w.setCells g o vs).heap[k]?=w.heap[k]?
 |[],o,w,cur,e,fr,hg,h=>⟨cur,hg,rfl,fun k=>by rw[if_neg (by simp only[List.length_nil];omega)],rfl,rfl,rfl,rfl,fun _ _=>rfl⟩
 |v :: r,o,w,cur,e,fr,hg,h=>by
  rw[ZJ] at h;have h1:(w.setCell ⟨g,o,none⟩ v).heap[g]?=some (.cells (cur.setIfInBounds o v) e fr):=by
   simp [World.setCell,Array.getElem?_modify,hg]
  obtain⟨cur',a1,a2,a3,a4,a5,a6,a7,a8⟩:=z2x g r (o+1) (w.setCell ⟨g,o,none⟩ v) _ e fr h1 (by simp;omega);rw[World.setCells];refine⟨cur',a1,by rw[a2];simp,fun k=>?_,a4,a5,a6,by rw[a7];simp [World.setCell],fun k hk=>?_⟩
  ·rw[a3,ZJ];by_cases hk:k=o
   ·subst hk;rw[if_neg (by omega),if_pos (by omega)];simp [Array.getElem?_setIfInBounds];omega
   ·by_cases hk2:o+1<=k/\k < o+1+r.length
    ·rw[if_pos hk2,if_pos (by omega),show k - o=(k - (o+1))+1 by omega];rfl
    ·rw[if_neg hk2,if_neg (by omega)];simp [Array.getElem?_setIfInBounds,Ne.symm hk]
  ·rw[a8 k hk];simp [World.setCell,Array.getElem?_modify,Ne.symm hk]
theorem zib {vs' cs':List Value}{n:Nat}{cur3:Array Value}(hv:vs'.length=1) (hc:cs'.length=n) (h0:cur3[0]?=vs'[0]?) (h1:∀k,1<=k->k < n+1->cur3[k]?=cs'[k - 1]?):cur3.toList.take (n+1)=vs'++cs' :=
 ZN fun k=>by
  by_cases hk:k < n+1
  ·rw[List.getElem?_take_of_lt hk,Array.getElem?_toList];by_cases h:k=0
   ·subst h;rw[h0,ZC (by omega)]
   ·rw[h1 k (by omega) hk,List.getElem?_append_right (by omega),hv]
  ·rw[ZA (by simp;omega),ZA (by simp;omega)]
section
variable {P:Program}{N:Nat}{w0:World}{τ:Nat->Value}{σ:Nat->Loc}{H:Heap}{w:World}{ρ:Ren}
theorem zb2 (L:Lays2.n21 P ρ) (hτ:∀j,(τ j).oneCell'=true) {f:FuncId}{args:List Value}{args':Array Value}{en:En}{H':Heap}(hk:kIns (ρ.f 21) (ρ.t 3) f args H=some (en,H')) (hl:LR σ τ args args'.toList) (hH:HR P N w0 τ σ H w) :
  Calls P f args' w fun e w'=>∃ σ',EnR σ' τ en e/\HR P N w0 τ σ' H' w'/\Step σ H w σ' H' w':=by
 have hc1:P.cellsOf (ρ.t 3)=1:=by
  have:=L.i3;cases hi:P.info? (ρ.t 3) with
  |none=>rw[hi] at this;cases this
  |some i=>rw[hi] at this;simp at this;rw[z11 hi];exact this.2.1
 unfold kIns at hk;split at hk
 case isFalse=>cases hk
 rename_i hf;subst hf;split at hk
 case h_2=>cases hk
 rename_i b n c vb d;split at hk
 case h_2=>cases hk
 rename_i cs e1 vs e2 hgb hgv;split at hk
 case isFalse=>cases hk
 rename_i hcond;obtain⟨hbv,hn0,hnm,rfl,rfl,hncs,hvs1,hone1,hone2⟩:=hcond;cases hk;have hlen:args'.size=3:=by have:=hl.1;simpa using this.symm
 obtain⟨s',i',x',rfl⟩:∃s' i' x',args'=#[s',i',x']:=by
  match args',hlen with
  |⟨[a,b,c]⟩,_=>exact⟨a,b,c,rfl⟩
 have hs:=hl.2 0 _ s' rfl rfl;have hi:=hl.2 1 _ i' rfl rfl;have hx:=hl.2 2 _ x' rfl rfl;rw[VR.flat_eq hi rfl];obtain⟨a',c',rfl,hA,h5,h6,h7⟩:=hs.slice_inv;obtain⟨a2,d',rfl,hA2,k5,k6,k7⟩:=hx.slice_inv;have hlt0:=hH.get_lt hgb;have hB:=hH.blk _ _ hgb;have hB2:=hH.blk _ _ hgv;generalize hσ:σ b=loc at hB;generalize hσ2:σ vb=loc2 at hB2;cases hB with
 |row bb S es _ _ cur g1 g2 g3 g4 g5 =>
 cases hB2 with
 |row bb2 S2 es2 _ _ cur2 u1 u2 u3 u4 u5 =>
 have hroom:=h7.2 rfl bb S es hσ (by rw[g4,hc1];omega);unfold AR at hA hA2;simp only[hσ] at hA;simp only[hσ2] at hA2;obtain⟨-,rfl⟩:=hA;obtain⟨-,rfl⟩:=hA2;have hbb:bb2≠bb:=fun e=>hbv (hH.inj b vb bb S es S2 es2 hσ (e ▸ hσ2))
 have hcsz:cur.size=c':=by rw[g3,<-hroom,g4,hc1];simp
 have hm:most<=maxLen:=by simp [most,maxLen]
 have hmx:c'<=9223372036854775807:=h7.1;have xr:LR σ τ (cs.take n) (cur.toList.take n):=by
  have:=LR.take n g5
  rwa [List.take_take,Nat.min_eq_left hncs] at this
 have vr:LR σ τ (vs.take 1) (cur2.toList.take 1):=by
  have:=LR.take 1 u5
  rwa [List.take_take,Nat.min_eq_left hvs1] at this
 have hcl:(cur.toList.take n).length=n:=by have:=xr.1;rw[<-this,Zp];omega
 have hvl:(cur2.toList.take 1).length=1:=by have:=vr.1;rw[<-this,Zp];omega
 have h1c:=LR.one hτ xr hone1;have h1v:=LR.one hτ vr hone2;have hcs:∀j v,(cur.toList.take n)[j]?=some v->w.cell? ⟨bb,0+j,none⟩=some v:=fun j v hj=>by
  have hj2:j < n:=by have:=(List.getElem?_eq_some_iff.1 hj).1;omega
  rw[List.getElem?_take_of_lt hj2,Array.getElem?_toList] at hj;simpa [World.cell?,g2] using hj
 have hvs:∀j v,(cur2.toList.take 1)[j]?=some v->w.cell? ⟨bb2,0+j,none⟩=some v:=fun j v hj=>by
  have hj2:j < 1:=by have:=(List.getElem?_eq_some_iff.1 hj).1;omega
  rw[List.getElem?_take_of_lt hj2,Array.getElem?_toList] at hj;simpa [World.cell?,u2] using hj
 have hlw:=hH.lt b bb S es hσ;generalize hcs':cur.toList.take n=cs' at *;generalize hvs':cur2.toList.take 1=vs' at *;have hlr:(vs.take 1++cs.take n).length=n+1:=by rw[Zy,Zp,Zp];omega
 by_cases hro:n+1<=c'
 ·refine(Any2.slices_Insert_int_shift L bb 0 n c' 0 bb2 0 1 d' cs' vs' w hn0 (by omega) hro hmx hbb hcl hvl hcs (fun j hj=>by simp [World.cell?,g2];omega) (fun j hj=>by simp [World.frozen?,g2]) hvs h1c h1v (ρ.t 3) (ρ.t 3) cur2.size cur.size
   (by simp [World.shape?,u2]) (by simp [World.shape?,g2]) (by omega) (by simp [World.frozen?,u2]) (by simp [World.frozen?,u2])).mono fun e w' ⟨he,hw'⟩=>?_
  subst he hw';simp only[ZF,List.drop_zero];obtain⟨cur1,a1,a2,a3,a4,a5,a6,a7,a8⟩:=z2x bb cs' 1 w.drew cur _ _ g2 (by omega);obtain⟨cur3,b1,b2,b3,b4,b5,b6,b7,b8⟩:=z2x bb vs' 0 _ cur1 _ _ a1 (by omega);have hgr:w.grownBy ((w.drew.setCells bb 1 cs').setCells bb 0 vs') (some bb):=⟨b4.trans a4,b5.trans a5,b6.trans a6,by rw[b7,a7];exact Zf _,fun k hk hne=>by
   have hkb:k≠bb:=fun e=>hne (by rw[e])
   rw[b8 k hkb,a8 k hkb];rfl⟩
  have hpr:PR σ τ (vs.take 1++cs.take n) cur3.toList:=by
   unfold PR;rw[hlr,zib hvl hcl (by rw[b3,if_pos (by omega)]) (fun k k1 k2=>by rw[b3,if_neg (by omega),a3,if_pos (by omega)])];exact LR.append vr xr
  obtain⟨hH',hst⟩:=hH.grow hlt0 (by rw[hgb];simp) hσ g1 (row:=some bb) (.inl rfl) hgr (by rw[b7,a7];exact hlw) (.inl rfl) b1 hpr;refine⟨_,.slice _ _ _ _ _ ?_ (Zf _) hro ⟨h7.1,fun _ b' S' es' hb'=>?_⟩,hH',hst⟩
  ·unfold AR;simp only[z0k];exact⟨trivial,trivial⟩
  ·intro _;rw[z0k] at hb';cases hb';rw[hc1,b2,a2,hcsz,ZF,Nat.mul_one]
 ·refine(Any2.slices_Insert_int_grow L bb 0 n c' 0 bb2 0 1 d' cs' vs' w hn0 (by omega) (by omega) (by omega) (by simp only[most] at hnm;omega) hcl hvl hcs hvs h1c h1v).mono fun e w' ⟨he,hw'⟩=>?_
  subst he hw';simp only[ZF,List.drop_zero,Nat.sub_zero];have hge:=grownCap_ge w (n+1) c' (ρ.t 3);have hcm:grownCap w (n+1) c' (ρ.t 3)<=maxLen:=grownCap_le_maxLen w (n+1) c' (ρ.t 3) (Zk hnm hm);generalize grownCap w (n+1) c' (ρ.t 3)=gc at *;generalize hA:(List.take 0 cs').toArray++Builtin.zeroCells (Value.int .i64 0).cells (n+1)++Builtin.zeroCells (Value.int .i64 0).cells (gc - (n+1))=A at *;have hAs:A.size=gc:=by rw[<-hA];simp [size_zeroCells,Value.cells];omega
  obtain⟨cur1,a1,a2,a3,a4,a5,a6,a7,a8⟩:=z2x w.heap.size vs' 0 (w.alloc (.cells A (ρ.t 3))).drew A _ _ (heap_alloc_new w _) (by omega);obtain⟨cur3,b1,b2,b3,b4,b5,b6,b7,b8⟩:=z2x w.heap.size cs' 1 ((w.alloc (.cells A (ρ.t 3))).drew.setCells w.heap.size 0 vs').drew cur1 _ _ a1 (by omega);have hsz:((w.alloc (.cells A (ρ.t 3))).drew).heap.size=w.heap.size+1:=by show (w.heap.push _).size=_;rw[Array.size_push]
  have hgr:w.grownBy ((((w.alloc (.cells A (ρ.t 3))).drew.setCells w.heap.size 0 vs').drew).setCells w.heap.size 1 cs') (some bb):=⟨b4.trans a4,b5.trans a5,b6.trans a6,by rw[b7];show _<=((w.alloc (.cells A (ρ.t 3))).drew.setCells w.heap.size 0 vs').heap.size;rw[a7,hsz];omega,fun k hk hne=>by
   rw[b8 k (by omega)];show ((w.alloc (.cells A (ρ.t 3))).drew.setCells w.heap.size 0 vs').heap[k]?=_;rw[a8 k (by omega)];exact heap_alloc_old w _ hk⟩
  have hpr:PR σ τ (vs.take 1++cs.take n) cur3.toList:=by
   unfold PR;rw[hlr,zib hvl hcl (by rw[b3,if_neg (by omega),a3,if_pos (by omega)]) (fun k k1 k2=>by rw[b3,if_pos (by omega)])];exact LR.append vr xr
  obtain⟨hH',hst⟩:=hH.grow hlt0 (by rw[hgb];simp) hσ g1 (row:=some bb) (.inl rfl) hgr (by rw[b7];show _ < ((w.alloc (.cells A (ρ.t 3))).drew.setCells w.heap.size 0 vs').heap.size;rw[a7,hsz];omega) (.inr rfl) b1 hpr;refine⟨_,.slice _ _ _ _ _ ?_ (Zf _) hge ⟨hcm,fun _ b' S' es' hb'=>?_⟩,hH',hst⟩
  ·unfold AR;simp only[z0k];exact⟨trivial,trivial⟩
  ·intro _;rw[z0k] at hb';cases hb';rw[hc1,b2,a2,hAs,ZF,Nat.mul_one]
end
end Go.Hb
end

section
namespace Go.Hb
open Go Go.RowKit Go.ChangeShapes Go.WideShapes
section
variable {P:Program}
theorem znj {ρ:Shelf.Ren}{N mask:Nat}{w0:World}(L:Proofs.Lays2.n21 P ρ) (hok:((Zi P.funcs.size).all fun f=>!mask.testBit f || okFn P f)=true):OkFns P N w0 (okIns mask (ρ.f 21) (ρ.t 3)) :=
 ⟨z6w hok,fun _ _ _ _ _ _ _ _ _ hτ hk hl hH _=>zb2 L hτ hk hl hH⟩
end
end Go.Hb
end

section
namespace Go.Proofs.hq
open Go Go.Shelf Go.Proofs
def renIns:Ren:=⟨fun|21=>47|27=>83|28=>84|35=>108|39=>114|n=>n,fun|0=>0|3=>3|4=>4|22=>60|n=>n,fun n=>n⟩
theorem znk:Lays2.n21 Tryd.prog renIns:={
 mixed:=by kernel_rfl
 f21:=Tryd.func47.trans (congrArg some (by kernel_rfl))
 f27:=Tryd.func83.trans (congrArg some (by kernel_rfl))
 f28:=Tryd.func84.trans (congrArg some (by kernel_rfl))
 f35:=Tryd.func108.trans (congrArg some (by kernel_rfl))
 f39:=Tryd.func114.trans (congrArg some (by kernel_rfl))
 t0:=Tryd.underlying0
 a0:=Tryd.isAgg0
 z0:=Tryd.sizeOf0
 v0:=Tryd.zeroValue0
 t3:=Tryd.underlying3
 a3:=Tryd.isAgg3
 z3:=Tryd.sizeOf3
 v3:=Tryd.zeroValue3
 t4:=Tryd.underlying4
 a4:=Tryd.isAgg4
 z4:=Tryd.sizeOf4
 v4:=Tryd.zeroValue4
 t22:=Tryd.underlying60
 a22:=Tryd.isAgg60
 z22:=Tryd.sizeOf60
 v22:=Tryd.zeroValue60
 i3:=by kernel_rfl }
end Go.Proofs.hq
end
