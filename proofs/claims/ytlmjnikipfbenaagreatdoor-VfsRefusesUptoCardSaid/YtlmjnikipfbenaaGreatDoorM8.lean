import Derived.Test.YtlmjnikipfbenaaGreatDoorM3
import Derived.Test.YtlmjnikipfbenaaGreatDoorM2
import Derived.Shelf.SlIter.Nil
import Derived.Shelf.SlIter.Sorted
import Derived.Shelf.SortM.Plain
import Derived.Shelf.SortM.SortNone
import Derived.Shelf.SlIterI.Sorted
import Derived.Test.YtlmjnikipfbenaaGreatDoorM7
/- Lemmas on the program's own code, towards the laws of this folder, part 8. Conditions: as each lemma says. -/
open Array renaming getElem?_toList → ZC
open List renaming ext_getElem? → ZD, getElem?_eq_getElem → Zd, getElem?_eq_none → Zw, getElem?_map → Zr, length_map → Zv, map_cons → Zs, map_map → ZJ
open Nat renaming le_refl → Ze, le_trans → ZA, lt_of_lt_of_le → Zt
open Option renaming map_some → Zo
section
namespace Go.Hb
open Go Go.RowKit Go.Maps Go.Sort Go.Shelf Go.Proofs
open Go.WideElems (Fit rg rd rg_of rd_mk)
theorem zkv:∀{es:List MapEntry}{ks:List (List UInt8)},keyL es=some ks→ks.length=es.length∧∀(i:Nat) e,es[i]?=some e→∃s:ByteArray,e.key=.string s∧s.size≤maxLen∧ks[i]?=some s.data.toList
 |[],ks,h=>by rw[keyL] at h;cases h;exact⟨rfl,fun i e he=>by simp at he⟩
 |e :: es,ks,h=>by
  rw[keyL] at h;split at h
  ·rename_i s l hk hl;split at h
   ·rename_i hs;cases h;obtain⟨h1,h2⟩:=zkv hl;refine⟨by simp [h1],fun i e' he=>?_⟩;cases i with
    |zero=>simp at he;subst he;exact⟨s,hk,hs,rfl⟩
    |succ i=>simp at he;obtain⟨s',a,b,c⟩:=h2 i e' he;exact⟨s',a,b,by simpa using c⟩
   ·cases h
  ·cases h
theorem zdf:∀l:List (List UInt8),flatL (l.map encStr)=true
 |[]=>rfl
 |a :: l=>by rw[Zs,flatL,zdf l];rfl
section
variable {P:Program}{N:Nat}{w0:World}{τ:Nat→Value}{σ:Nat→Loc}{H:Heap}{w w':World}
theorem HR.later (hH:HR P N w0 τ σ H w) (hB:Below w.heap.size w w'):HR P N w0 τ σ H w'∧Step σ H w σ H w':=by
 have hlt:=hH.lt;exact⟨⟨hH.below.trans (hB.mono hH.size),ZA hH.size hB.size,hH.fresh,fun i B hi=>(hH.blk i B hi).world fun b S es hb=>hB.block b (hlt i b S es hb),hH.inj,
  fun i b S es hi=>Zt (hlt i b S es hi) hB.size⟩,Ze _,Ext.refl σ,fun i b S es hi=>.inr (.inl ⟨S,es,hi⟩),fun b hb _=>hB.block b hb,hB.size,fun _ _ hg=>⟨rfl,hg⟩⟩
theorem HR.allocAt (h:HR P N w0 τ σ H w) {B:Blk}{gb S es:Nat}(hw:Below w.heap.size w w') (hg:w.heap.size≤gb) (hgl:gb < w'.heap.size)
  (hB:BlkR P N (upd σ H.next (.live gb S es)) τ w' (.live gb S es) B) :
  HR P N w0 τ (upd σ H.next (.live gb S es)) (H.new (some B)) w'∧Step σ H w (upd σ H.next (.live gb S es)) (H.new (some B)) w':=by
 have he:=h.ext_new (.live gb S es);have hlt:=h.lt;refine⟨⟨h.below.trans (hw.mono h.size),ZA h.size hw.size,fun i hi=>?_,fun j C hj=>?_,fun i j b S1 es1 S2 es2 hi hj=>?_,fun i b S1 es1 hi=>?_⟩,
  ⟨Nat.le_succ _,he,fun i b S1 es1 hi=>?_,fun k hk _=>hw.block k hk,hw.size,fun i hi hg=>h.keep_new _ _ hi hg⟩⟩
 ·have hi':H.next+1≤i:=hi;rw[z0g _ _ (by omega)];exact h.fresh i (by omega)
 ·rw[Heap.get_new] at hj;by_cases hjn:j=H.next
  ·rw[if_pos hjn] at hj;cases hj;rw[hjn,z0j];exact hB
  ·rw[if_neg hjn] at hj;rw[z0g _ _ hjn];exact((h.blk j C hj).ext he).world fun c S' es' hc=>hw.block c (hlt j c S' es' hc)
 ·by_cases hi1:i=H.next
  ·by_cases hj1:j=H.next
   ·rw[hi1,hj1]
   ·rw[hi1,z0j] at hi;cases hi;rw[z0g _ _ hj1] at hj;have:=hlt j _ _ _ hj;omega
  ·rw[z0g _ _ hi1] at hi;by_cases hj1:j=H.next
   ·rw[hj1,z0j] at hj;cases hj;have:=hlt i _ _ _ hi;omega
   ·rw[z0g _ _ hj1] at hj;exact h.inj i j b S1 es1 S2 es2 hi hj
 ·by_cases hi1:i=H.next
  ·rw[hi1,z0j] at hi;cases hi;omega
  ·rw[z0g _ _ hi1] at hi;exact Zt (hlt i b S1 es1 hi) hw.size
 ·by_cases hi1:i=H.next
  ·rw[hi1,z0j] at hi;cases hi;exact .inl hg
  ·rw[z0g _ _ hi1] at hi;exact .inr (.inl ⟨S1,es1,hi⟩)
def RU:Value→Option (DataW Unit × List MemPlace):=fun _=>some (.lit (.bool true),[])
def SortedCalls (P:Program) (fS g T:Nat):Prop:=∀(w:World) (c b nn:Nat) (D0:DataW Unit),c < w.heap.size→w.cell? ⟨c,0,none⟩=some (.map (some b))→w.ownsMap P T RU b nn D0→Maps.size D0≤maxLen→Maps.size D0*16≤140737488355328 →
 Calls P fS #[.func (.func g) #[] #[.pointer (some ⟨c,0,none⟩)]] w fun e w'=>∃(v:Value) (ss:List (List UInt8)),e=.returned v∧ss.Perm (strKeys D0)∧w'.ownsRow w.heap.size T 1 v ss.length ((ss.mergeSort leB).map encStr)∧(v=.slice none 0 0↔ss=[])∧Below w.heap.size w w'
theorem zen {fS g T:Nat}{args:List Value}{args':Array Value}{en:En}{H':Heap}(hcall:SortedCalls P fS g T) (hT1:P.cellsOf T=1) (hu:P.underlying T=some .string) (hk:kSort g T args H=some (en,H')) (hl:LR σ τ args args'.toList) (hH:HR P N w0 τ σ H w) :
  Calls P fS args' w fun e w'=>∃ σ',EnR σ' τ en e∧HR P N w0 τ σ' H' w'∧Step σ H w σ' H' w':=by
 unfold kSort at hk;split at hk
 case h_2=>cases hk
 rename_i g' c;split at hk
 case isFalse=>cases hk
 rename_i hg';have hg'':g'=g:=by simpa using hg'
 subst hg'';split at hk
 case h_2=>cases hk
 rename_i m T' hgc;split at hk
 case h_2=>cases hk
 rename_i es clk hgm;split at hk
 case h_2=>cases hk
 rename_i ks hks;split at hk
 case isFalse=>cases hk
 rename_i hcond;obtain⟨hmost,hborn,hnd,hknd⟩:=hcond;have hlen:args'.size=1:=by have:=hl.1;simpa using this.symm
 obtain⟨f',rfl⟩:∃f',args'=#[f']:=by
  match args',hlen with
  |⟨[a]⟩,_=>exact⟨a,rfl⟩
 have hf:=hl.2 0 _ f' rfl rfl;obtain⟨x',y',rfl,hx,hy⟩:=hf.func_inv;have hx0:x'=#[]:=by
  have:=hx.1;simp at this;exact Array.eq_empty_of_size_eq_zero this.symm
 subst hx0;obtain⟨z,r0,hyl,hz,hr0⟩:=LR.cons_inv hy;have hr1:=hr0.nil_inv;subst hr1;obtain rfl:y'=#[z]:=by cases y';simp only at hyl;rw[hyl]
 obtain⟨a',rfl,hA⟩:=hz.ptr_inv;have hB1:=hH.blk _ _ hgc;have hB2:=hH.blk _ _ hgm;generalize hσ:σ c=loc at hB1;generalize hσ2:σ m=loc2 at hB2;cases hB1 with
 |row bb S es1 _ _ cur g1 g2 g3 g4 g5 =>
 cases hB2 with
 |map bm S2 es2 _ _ xs' u1 u2 u3 =>
 unfold AR at hA;simp only[hσ] at hA;obtain⟨-,rfl⟩:=hA;have hcur:∃x,cur[0]?=some x∧VR σ τ (.map (some m)) x:=by
  unfold PR at g5;have h5:=g5;obtain⟨x,r,hxr,hv,-⟩:=LR.cons_inv h5;refine⟨x,?_,hv⟩;have:=congrArg (·[0]?) hxr;simpa [List.getElem?_take] using this
 obtain⟨x,hcx,hvx⟩:=hcur;obtain⟨m',rfl,hbr⟩:=hvx.map_inv;unfold BR at hbr;simp only[hσ2] at hbr;subst hbr;obtain⟨hkl,hka⟩:=zkv hks;obtain⟨hel,hee⟩:=u3;have hent:∀(i:Nat) e',xs'[i]?=some e'→∃e s,es[i]?=some e∧e'.key=.string s∧s.size≤maxLen∧ks[i]?=some s.data.toList∧e'.born=e.born:=fun i e' he'=>by
  have hi:i < es.length:=by rw[hel];exact(Array.getElem?_eq_some_iff.1 he').1
  obtain⟨s,h1,h2,h3⟩:=hka i _ (Zd hi);obtain⟨k1,k2,k3,k4⟩:=hee i _ e' (Zd hi) he';exact⟨_,s,Zd hi,by rw[k1,h1],h2,h3,k3⟩
 have hborns:xs'.toList.map (·.born)=es.map (·.born):=by
  apply ZD;intro i;rw[Zr,Zr,ZC];cases hx:xs'[i]? with
  |none =>
   have:es[i]?=none:=Zw (by rw[hel];exact Array.getElem?_eq_none_iff.1 hx);simp [this]
  |some e' =>
   obtain⟨e,s,h1,-,-,-,h5⟩:=hent i e' hx;rw[h1];simp [h5]
 have hkeys:xs'.toList.map (fun x=>strOf (rg P T RU x).1)=ks∧∀x∈xs'.toList,∃y,WideElems.rd P T RU x=some y:=by
  have hrd:∀(i:Nat) e',xs'[i]?=some e'→∃s:ByteArray,WideElems.rd P T RU e'=some (.string s.data.toList,.lit (.bool true))∧ks[i]?=some s.data.toList:=fun i e' he'=>by
   obtain⟨e,s,-,h2,h3,h4,-⟩:=hent i e' he';refine⟨s,?_,h4⟩;have hko:keyOf P T e'.key=some (.string s.data.toList):=by rw[h2];simp [keyOf,hu,mapKey,h3]
   unfold WideElems.rd;rw[hko];rfl
  refine⟨?_,fun x hx=>?_⟩
  ·apply ZD;intro i;rw[Zr,ZC];cases hx:xs'[i]? with
   |none =>
    have:ks[i]?=none:=Zw (by rw[hkl,hel];exact Array.getElem?_eq_none_iff.1 hx);simp [this]
   |some e' =>
    obtain⟨s,h1,h2⟩:=hrd i e' hx;rw[h2,Zo,rg_of h1];rfl
  ·obtain⟨i,hi⟩:=List.mem_iff_getElem?.1 hx;rw[ZC] at hi;obtain⟨s,h1,-⟩:=hrd i x hi;exact⟨_,h1⟩
 have hknd2:(xs'.toList.map (·.key)).Nodup:=by
  have e:xs'.toList.map (·.key)=ks.map fun b=>Value.string ⟨b.toArray⟩:=by
   apply ZD;intro i;rw[Zr,Zr,ZC];cases hx:xs'[i]? with
   |none =>
    have:ks[i]?=none:=Zw (by rw[hkl,hel];exact Array.getElem?_eq_none_iff.1 hx);simp [this]
   |some e' =>
    obtain⟨e,s,h1,h2,h3,h4,h5⟩:=hent i e' hx;rw[h4];simp [h2]
  rw[e,List.nodup_iff_pairwise_ne,List.pairwise_map];rw[List.nodup_iff_pairwise_ne] at hknd;refine hknd.imp fun {a b} hab q=>hab ?_
  simpa using q
 have hml:most≤maxLen:=by simp [most,maxLen]
 have hbl:∀x∈xs'.toList,x.born < clk:=fun x hx=>by
  obtain⟨i,hi⟩:=List.mem_iff_getElem?.1 hx;rw[ZC] at hi;obtain⟨e,s,h1,-,-,-,h5⟩:=hent i x hi;rw[h5];exact hborn e (List.mem_of_getElem? h1)
 have hfit:Fit P T RU xs' clk:=⟨by rw[←hel];omega,⟨hbl,by rw[hborns];exact hnd,hknd2⟩,hkeys.2⟩
 ·have hperm:=WideShapes.sorted_perm (xs'.toList.map (rg P T RU));have hsz:Maps.size (DataW.map ((xs'.toList.map (rg P T RU)).foldr DataW.insert []))=es.length:=by
   rw[Maps.size_eq,hperm.length_eq,Zv,Array.length_toList,hel]
  have hbig:most*16≤140737488355328:=by simp [most]
  have hsk:(strKeys (DataW.map ((xs'.toList.map (rg P T RU)).foldr DataW.insert []))).Perm ks:=by
   have:=hperm.map (fun p:Lit × DataW Unit=>strOf p.1);rw[ZJ] at this;have e2:(xs'.toList.map ((fun p:Lit × DataW Unit=>strOf p.1) ∘ rg P T RU))=ks:=hkeys.1;rw[e2] at this;exact this
  refine(hcall w bb m' xs'.size _ (hH.lt c bb S es1 hσ) (by simp [World.cell?,g2,hcx]) ⟨xs',clk,u2,hfit,Ze _,rfl⟩ (by rw[hsz];omega) (by rw[hsz];omega)).mono fun e w' h=>?_
  obtain⟨v,ss,rfl,hss,hrow,hnil,hBw⟩:=h;have hpk:=hss.trans hsk;have hms:=mergeSort_of_perm hpk;have hsl:ss.length=ks.length:=hpk.length_eq;cases ks with
  |nil =>
   cases hk;have hs0:ss=[]:=List.eq_nil_of_length_eq_zero hsl;obtain⟨k1,k2⟩:=hH.later hBw;exact⟨σ,by rw[hnil.2 hs0];exact .flat _ rfl,k1,k2⟩
  |cons k r =>
   cases hk;rcases hrow.2 with ⟨hv,-⟩|⟨gb,cap,cur',rfl,hbase,hgb,r1,r2,r3,r4⟩
   ·have:=hnil.1 hv;rw[this] at hsl;simp at hsl
   ·rw[hms] at r4;rw[hsl] at r1 r4;have hlen2:(((k :: r).mergeSort leB).map encStr).length=r.length+1:=by simp
    obtain⟨k1,k2⟩:=hH.allocAt (B:=.row (((k :: r).mergeSort leB).map encStr) T) (gb:=gb) (S:=cur'.size) (es:=P.cellsOf T) hBw hbase (Array.getElem?_eq_some_iff.1 hgb).1
     (.row gb _ _ _ _ cur' (ZA hH.size hbase) hgb rfl rfl (by
      unfold PR;rw[hlen2];have e3:cur'.toList.take (r.length+1)=((k :: r).mergeSort leB).map encStr:=by simpa using r4
      rw[e3];exact LR.flat (zdf _)))
    rw[hsl];refine⟨_,.slice _ _ _ _ _ ?_ (Ze _) r1 ⟨r2,fun _ b' S' es' hb' _=>?_⟩,k1,k2⟩
    ·unfold AR;simp only[z0j,and_self]
    ·rw[z0j] at hb';cases hb';rw[r3,hT1];simp
end
end Go.Hb
end

section
namespace Go.Hb
open Go Go.RowKit Go.Maps Go.Sort Go.Shelf Go.Proofs
open Go.WideElems (Fit rg rd rg_of rd_mk)
theorem zkw {n:Int}(h:-9223372036854775808≤n∧n≤9223372036854775807):(Lit.int .i64 n).wf=true:=by
 unfold Lit.wf;simp [IntKind.min,IntKind.max,IntKind.bits,IntKind.signed];exact h
theorem zkx:∀{es:List MapEntry}{ks:List Int},keyI es=some ks→ks.length=es.length∧∀(i:Nat) e,es[i]?=some e→∃s:Int,e.key=.int .i64 s∧(-9223372036854775808≤s∧s≤9223372036854775807)∧ks[i]?=some s
 |[],ks,h=>by rw[keyI] at h;cases h;exact⟨rfl,fun i e he=>by simp at he⟩
 |e :: es,ks,h=>by
  rw[keyI] at h;split at h
  ·rename_i s l hk hl;split at h
   ·rename_i hs;cases h;obtain⟨h1,h2⟩:=zkx hl;refine⟨by simp [h1],fun i e' he=>?_⟩;cases i with
    |zero=>simp at he;subst he;exact⟨s,hk,hs,rfl⟩
    |succ i=>simp at he;obtain⟨s',a,b,c⟩:=h2 i e' he;exact⟨s',a,b,by simpa using c⟩
   ·cases h
  ·cases h
theorem zdg:∀l:List Int,flatL (l.map encZ)=true
 |[]=>rfl
 |a :: l=>by rw[Zs,flatL,zdg l];rfl
section
variable {P:Program}{N:Nat}{w0:World}{τ:Nat→Value}{σ:Nat→Loc}{H:Heap}{w w':World}
def SortedCallsI (P:Program) (fS g T:Nat):Prop:=∀(w:World) (c b nn:Nat) (D0:DataW Unit),c < w.heap.size→w.cell? ⟨c,0,none⟩=some (.map (some b))→w.ownsMap P T RU b nn D0→Maps.size D0≤maxLen→Maps.size D0*8≤140737488355328 →
 Calls P fS #[.func (.func g) #[] #[.pointer (some ⟨c,0,none⟩)]] w fun e w'=>∃(v:Value) (ss:List Int),e=.returned v∧ss.Perm (intKeys D0)∧w'.ownsRow w.heap.size T 1 v ss.length ((ss.mergeSort Go.leI).map encZ)∧(v=.slice none 0 0↔ss=[])∧Below w.heap.size w w'
theorem zdh {fS g T:Nat}{args:List Value}{args':Array Value}{en:En}{H':Heap}(hcall:SortedCallsI P fS g T) (hT1:P.cellsOf T=1) (hu:P.underlying T=some (.int .i64)) (hk:kSortI g T args H=some (en,H')) (hl:LR σ τ args args'.toList) (hH:HR P N w0 τ σ H w) :
  Calls P fS args' w fun e w'=>∃ σ',EnR σ' τ en e∧HR P N w0 τ σ' H' w'∧Step σ H w σ' H' w':=by
 unfold kSortI at hk;split at hk
 case h_2=>cases hk
 rename_i g' c;split at hk
 case isFalse=>cases hk
 rename_i hg';have hg'':g'=g:=by simpa using hg'
 subst hg'';split at hk
 case h_2=>cases hk
 rename_i m T' hgc;split at hk
 case h_2=>cases hk
 rename_i es clk hgm;split at hk
 case h_2=>cases hk
 rename_i ks hks;split at hk
 case isFalse=>cases hk
 rename_i hcond;obtain⟨hmost,hborn,hnd,hknd⟩:=hcond;have hlen:args'.size=1:=by have:=hl.1;simpa using this.symm
 obtain⟨f',rfl⟩:∃f',args'=#[f']:=by
  match args',hlen with
  |⟨[a]⟩,_=>exact⟨a,rfl⟩
 have hf:=hl.2 0 _ f' rfl rfl;obtain⟨x',y',rfl,hx,hy⟩:=hf.func_inv;have hx0:x'=#[]:=by
  have:=hx.1;simp at this;exact Array.eq_empty_of_size_eq_zero this.symm
 subst hx0;obtain⟨z,r0,hyl,hz,hr0⟩:=LR.cons_inv hy;have hr1:=hr0.nil_inv;subst hr1;obtain rfl:y'=#[z]:=by cases y';simp only at hyl;rw[hyl]
 obtain⟨a',rfl,hA⟩:=hz.ptr_inv;have hB1:=hH.blk _ _ hgc;have hB2:=hH.blk _ _ hgm;generalize hσ:σ c=loc at hB1;generalize hσ2:σ m=loc2 at hB2;cases hB1 with
 |row bb S es1 _ _ cur g1 g2 g3 g4 g5 =>
 cases hB2 with
 |map bm S2 es2 _ _ xs' u1 u2 u3 =>
 unfold AR at hA;simp only[hσ] at hA;obtain⟨-,rfl⟩:=hA;have hcur:∃x,cur[0]?=some x∧VR σ τ (.map (some m)) x:=by
  unfold PR at g5;have h5:=g5;obtain⟨x,r,hxr,hv,-⟩:=LR.cons_inv h5;refine⟨x,?_,hv⟩;have:=congrArg (·[0]?) hxr;simpa [List.getElem?_take] using this
 obtain⟨x,hcx,hvx⟩:=hcur;obtain⟨m',rfl,hbr⟩:=hvx.map_inv;unfold BR at hbr;simp only[hσ2] at hbr;subst hbr;obtain⟨hkl,hka⟩:=zkx hks;obtain⟨hel,hee⟩:=u3;have hent:∀(i:Nat) e',xs'[i]?=some e'→∃e,∃s:Int,es[i]?=some e∧e'.key=.int .i64 s∧(-9223372036854775808≤s∧s≤9223372036854775807)∧ks[i]?=some s∧e'.born=e.born:=fun i e' he'=>by
  have hi:i < es.length:=by rw[hel];exact(Array.getElem?_eq_some_iff.1 he').1
  obtain⟨s,h1,h2,h3⟩:=hka i _ (Zd hi);obtain⟨k1,k2,k3,k4⟩:=hee i _ e' (Zd hi) he';exact⟨_,s,Zd hi,by rw[k1,h1],h2,h3,k3⟩
 have hborns:xs'.toList.map (·.born)=es.map (·.born):=by
  apply ZD;intro i;rw[Zr,Zr,ZC];cases hx:xs'[i]? with
  |none =>
   have:es[i]?=none:=Zw (by rw[hel];exact Array.getElem?_eq_none_iff.1 hx);simp [this]
  |some e' =>
   obtain⟨e,s,h1,-,-,-,h5⟩:=hent i e' hx;rw[h1];simp [h5]
 have hkeys:xs'.toList.map (fun x=>intOf (rg P T RU x).1)=ks∧∀x∈xs'.toList,∃y,WideElems.rd P T RU x=some y:=by
  have hrd:∀(i:Nat) e',xs'[i]?=some e'→∃s:Int,WideElems.rd P T RU e'=some (.int .i64 s,.lit (.bool true))∧ks[i]?=some s:=fun i e' he'=>by
   obtain⟨e,s,-,h2,h3,h4,-⟩:=hent i e' he';refine⟨s,?_,h4⟩;have hwf:(Lit.int .i64 s).wf=true:=zkw h3;have hko:keyOf P T e'.key=some (.int .i64 s):=by rw[h2];simp [keyOf,hu,mapKey,hwf]
   unfold WideElems.rd;rw[hko];rfl
  refine⟨?_,fun x hx=>?_⟩
  ·apply ZD;intro i;rw[Zr,ZC];cases hx:xs'[i]? with
   |none =>
    have:ks[i]?=none:=Zw (by rw[hkl,hel];exact Array.getElem?_eq_none_iff.1 hx);simp [this]
   |some e' =>
    obtain⟨s,h1,h2⟩:=hrd i e' hx;rw[h2,Zo,rg_of h1];rfl
  ·obtain⟨i,hi⟩:=List.mem_iff_getElem?.1 hx;rw[ZC] at hi;obtain⟨s,h1,-⟩:=hrd i x hi;exact⟨_,h1⟩
 have hknd2:(xs'.toList.map (·.key)).Nodup:=by
  have e:xs'.toList.map (·.key)=ks.map fun b=>Value.int .i64 b:=by
   apply ZD;intro i;rw[Zr,Zr,ZC];cases hx:xs'[i]? with
   |none =>
    have:ks[i]?=none:=Zw (by rw[hkl,hel];exact Array.getElem?_eq_none_iff.1 hx);simp [this]
   |some e' =>
    obtain⟨e,s,h1,h2,h3,h4,h5⟩:=hent i e' hx;rw[h4];simp [h2]
  rw[e,List.nodup_iff_pairwise_ne,List.pairwise_map];rw[List.nodup_iff_pairwise_ne] at hknd;refine hknd.imp fun {a b} hab q=>hab ?_
  simpa using q
 have hml:most≤maxLen:=by simp [most,maxLen]
 have hbl:∀x∈xs'.toList,x.born < clk:=fun x hx=>by
  obtain⟨i,hi⟩:=List.mem_iff_getElem?.1 hx;rw[ZC] at hi;obtain⟨e,s,h1,-,-,-,h5⟩:=hent i x hi;rw[h5];exact hborn e (List.mem_of_getElem? h1)
 have hfit:Fit P T RU xs' clk:=⟨by rw[←hel];omega,⟨hbl,by rw[hborns];exact hnd,hknd2⟩,hkeys.2⟩
 ·have hperm:=WideShapes.sorted_perm (xs'.toList.map (rg P T RU));have hsz:Maps.size (DataW.map ((xs'.toList.map (rg P T RU)).foldr DataW.insert []))=es.length:=by
   rw[Maps.size_eq,hperm.length_eq,Zv,Array.length_toList,hel]
  have hbig:most*8≤140737488355328:=by simp [most]
  have hsk:(intKeys (DataW.map ((xs'.toList.map (rg P T RU)).foldr DataW.insert []))).Perm ks:=by
   have:=hperm.map (fun p:Lit × DataW Unit=>intOf p.1);rw[ZJ] at this;have e2:(xs'.toList.map ((fun p:Lit × DataW Unit=>intOf p.1) ∘ rg P T RU))=ks:=hkeys.1;rw[e2] at this;exact this
  refine(hcall w bb m' xs'.size _ (hH.lt c bb S es1 hσ) (by simp [World.cell?,g2,hcx]) ⟨xs',clk,u2,hfit,Ze _,rfl⟩ (by rw[hsz];omega) (by rw[hsz];omega)).mono fun e w' h=>?_
  obtain⟨v,ss,rfl,hss,hrow,hnil,hBw⟩:=h;have hpk:=hss.trans hsk;have hms:=mergeSort_of_perm_i hpk;have hsl:ss.length=ks.length:=hpk.length_eq;cases ks with
  |nil =>
   cases hk;have hs0:ss=[]:=List.eq_nil_of_length_eq_zero hsl;obtain⟨k1,k2⟩:=hH.later hBw;exact⟨σ,by rw[hnil.2 hs0];exact .flat _ rfl,k1,k2⟩
  |cons k r =>
   cases hk;rcases hrow.2 with ⟨hv,-⟩|⟨gb,cap,cur',rfl,hbase,hgb,r1,r2,r3,r4⟩
   ·have:=hnil.1 hv;rw[this] at hsl;simp at hsl
   ·rw[hms] at r4;rw[hsl] at r1 r4;have hlen2:(((k :: r).mergeSort Go.leI).map encZ).length=r.length+1:=by simp
    obtain⟨k1,k2⟩:=hH.allocAt (B:=.row (((k :: r).mergeSort Go.leI).map encZ) T) (gb:=gb) (S:=cur'.size) (es:=P.cellsOf T) hBw hbase (Array.getElem?_eq_some_iff.1 hgb).1
     (.row gb _ _ _ _ cur' (ZA hH.size hbase) hgb rfl rfl (by
      unfold PR;rw[hlen2];have e3:cur'.toList.take (r.length+1)=((k :: r).mergeSort Go.leI).map encZ:=by simpa using r4
      rw[e3];exact LR.flat (zdg _)))
    rw[hsl];refine⟨_,.slice _ _ _ _ _ ?_ (Ze _) r1 ⟨r2,fun _ b' S' es' hb' _=>?_⟩,k1,k2⟩
    ·unfold AR;simp only[z0j,and_self]
    ·rw[z0j] at hb';cases hb';rw[r3,hT1];simp
end
end Go.Hb
end
