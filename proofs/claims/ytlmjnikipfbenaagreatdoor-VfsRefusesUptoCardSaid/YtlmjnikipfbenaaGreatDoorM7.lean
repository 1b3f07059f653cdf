import Derived.Test.YtlmjnikipfbenaaGreatDoorM3
import Derived.Test.YtlmjnikipfbenaaGreatDoorM5
import Derived.Test.YtlmjnikipfbenaaGreatDoorM6
import Derived.Test.YtlmjnikipfbenaaGreatDoorM4
/- Lemmas on the program's own code, towards the laws of this folder, part 7. Conditions: as each lemma says. -/
open Bool renaming false_eq_true → Zc, not_false → Zm, not_true → Zn
open ByteArray renaming empty → Zg
open List renaming getElem?_eq_getElem → Zd, getElem?_map → Zr, getElem_mem → ZE, length_append → Zu, map_append → ZI, map_cons → Zs, range → Zj
open Nat renaming beq → Zk, beq_eq → Zp, le_refl → Ze, le_trans → ZA, reduceAdd → Zb, reduceEqDiff → Za, reduceLeDiff → Zh, zero_le → Zz
open Option renaming bind_some → Zq
section
namespace Go.Hb
open Go Go.RowKit
theorem zmk {H:Heap}{b o n m:Nat}{xs ys:List Value}(h1:H.load ⟨b,o,none⟩ n=some xs) (h2:H.load ⟨b,o+n,none⟩ m=some ys):H.load ⟨b,o,none⟩ (n+m)=some (xs++ys):=by
 unfold Heap.load at h1 h2 ⊢;simp only at h1 h2 ⊢;cases hc:H.cells b with
 |none=>rw[hc] at h1;cases h1
 |some cs =>
  rw[hc] at h1 h2;simp only at h1 h2 ⊢;split at h1
  ·rename_i e1;split at h2
   ·rename_i e2;cases h1;cases h2;have e3:(cs.drop o).take (n+m)=(cs.drop o).take n++(cs.drop (o+n)).take m:=by rw[List.take_add,List.drop_drop]
    rw[if_pos,e3];rw[e3,Zu,Zp];rw[Zp] at e1 e2;omega
   ·cases h2
  ·cases h1
theorem RdF.all {H:Heap}{L:List (ByteArray × ByteArray)}{a:Option Addr}{c:Nat}(h:RdF H L a c):0 < L.length→∃x,a=some x∧H.load x (L.length*2)=some (L.flatMap fun x=>[.string x.1,.string x.2]):=fun h0=>by
 obtain⟨b,o,rfl,-⟩:=h.get 0 h0;refine⟨_,rfl,?_⟩;have key:∀k,k≤L.length→0 < k→H.load ⟨b,o,none⟩ (k*2)=some ((L.take k).flatMap fun x=>[.string x.1,.string x.2]):=fun k=>by
  induction k with
  |zero=>intro _ q;omega
  |succ k ih =>
   intro hk _;obtain⟨b',o',e,hl⟩:=h.get k (by omega);cases e;rw[←List.take_append_getElem (by omega:k < L.length),List.flatMap_append];by_cases hz:k=0
   ·subst hz;simpa using hl
   ·have:=zmk (ih (by omega) (by omega)) hl;rw[show (k+1)*2=k*2+2 by omega,this];simp
 have:=key L.length (Ze _) h0
 rwa [List.take_length] at this
theorem zgq {H:Heap}{b o:Nat}{x y:Value}(h:H.load ⟨b,o,none⟩ 2=some [x,y]):H.load ⟨b,o,none⟩ 1=some [x]:=by
 unfold Heap.load at h ⊢;simp only at h ⊢;cases hc:H.cells b with
 |none=>rw[hc] at h;cases h
 |some cs =>
  rw[hc] at h;simp only at h ⊢;split at h
  ·have e:=Option.some.inj h;have e1:(cs.drop o).take 1=[x]:=by
    have:=congrArg (List.take 1) e;rw[List.take_take] at this;simpa using this
   rw[e1];rfl
  ·cases h
theorem zml {H:Heap}{b o:Nat}{x y:Value}(h:H.load ⟨b,o,none⟩ 2=some [x,y]):H.load ⟨b,o+1,none⟩ 1=some [y]:=by
 unfold Heap.load at h ⊢;simp only at h ⊢;cases hc:H.cells b with
 |none=>rw[hc] at h;cases h
 |some cs =>
  rw[hc] at h;simp only at h ⊢;split at h
  ·have e:=Option.some.inj h;have e1:(cs.drop (o+1)).take 1=[y]:=by
    have:=congrArg (List.drop 1) e;rw[List.drop_take,List.drop_drop] at this;simpa using this
   rw[e1];rfl
  ·cases h
end Go.Hb
namespace Go.Proofs.hq
open Go Go.RowKit Go.Hb
variable {ok:Ok}
set_option maxRecDepth 10000
attribute [local irreducible] LX LG EL STG SOP SGO SGD SAL SRD SEF SEG SLK SCK ES
theorem zbo {n:ByteArray}:named n=false↔n.size=0∨(1000:Int) < n.size:=by
 simp only[named,decide_eq_false_iff_not];omega
set_option maxHeartbeats 16000000 in
theorem zgr {H:Heap}{L:List (ByteArray × ByteArray)}{a:Option Addr}{c:Nat}{u:ByteArray}(hR:RdF H L a c) (hw:H.wf) :
  EvF Tryz.prog okT 8 [.slice a L.length c,.string u] H fun v H'=>HX H H'∧((newE L u≠0∧v=.tuple ⟨[.pointer none,.int .i64 (newE L u)]⟩)∨(newE L u=0∧∃r f l,v=.tuple ⟨[ptrV r,.int .i64 0]⟩∧RfB H' (fun i=>H.next≤i) r f l (fs0 L u))):=by
 refine EvF.enter rfl Tryz.func8 (by decide) rfl ?_;have hcl:=hR.len;have hcm:=hR.cap;have hmx:maxLen=9223372036854775807:=rfl;by_cases h16:16 < L.length
 ·have c1:decide ((16:Int) < (L.length:Int))=true:=decide_eq_true (by omega);have hE:newE L u=80:=by unfold newE;rw[if_pos h16]
  repeat' (first|refine EvC.seq ?_|(refine EvC.ret ?_;try simp only[z05,z03])|(refine EvC.reg ?_;simp (config := { maxSteps := 2000000 }) (disch:=first|omega|rfl) only[sB,initTm,Za,reduceCtorEq,ln22,c1,gt_iff_lt])|(refine EvC.condT ?_ ?_;simp (config := { maxSteps := 2000000 }) (disch:=first|omega|rfl) only[sB,Za,reduceCtorEq];refine z02 ?_))
  exact z09 rfl (by simp only[sB,Za,reduceCtorEq];rfl) (by simp only[sB,Za,reduceCtorEq];rfl) ⟨HX.refl hw,.inl ⟨by rw[hE];decide,by rw[hE]⟩⟩
 have c1:decide ((16:Int) < (L.length:Int))=false:=decide_eq_false (by omega);have hE:newE L u=endE (fErr [] L) u:=by unfold newE;rw[if_neg h16]
 repeat' (first|refine EvC.seq ?_|refine EvC.block ?_|(refine EvC.skip ?_;try simp only[z00])|(refine EvC.reg ?_;simp (config := { maxSteps := 2000000 }) (disch:=first|omega|rfl) only[sB,initTm,Za,reduceCtorEq,ln22,c1,gt_iff_lt])|(refine EvC.condF ?_ ?_;simp (config := { maxSteps := 2000000 }) (disch:=first|omega|rfl) only[sB,Za,reduceCtorEq];refine z02 ?_))
 refine EvC.loop (fun k st=>∃tm G i,st=⟨tm,[],G⟩∧k=L.length - i∧i≤L.length∧tm.get 0=some (.slice a L.length c)∧tm.get 1=some (.string u)∧tm.get 6=some (.int .i64 (i:Nat))∧HX H G∧fErr [] L=fErr (L.take i) (L.drop i)) ?_ L.length _ ?_
 ·rintro k st ⟨tm,G,i,rfl,rfl,hi,t0,t1,t6,hxG,hfe⟩;have wG:=hxG.wf;by_cases hlt:i < L.length
  ·obtain⟨b,o,rfl,hld⟩:=(hR.keep hxG hw).get i hlt;have hstep:=zdd hlt;have hw1:IntKind.i64.wrap ((i:Int)+1)=((i+1:Nat):Int):=by rw[z0e]<;>omega
   repeat' (first|refine EvC.seq ?_|refine EvC.block ?_|(refine EvC.skip ?_;try simp only[z00])|(refine EvC.reg ?_;simp (config := { maxSteps := 2000000 }) (disch:=first|omega|rfl) only[sB,Za,reduceCtorEq,ln22,t0,t6,decl hlt])|(refine EvC.condT ?_ ?_;simp (config := { maxSteps := 2000000 }) (disch:=first|omega|rfl) only[sB,Za];refine z02 ?_))
   refine EvC.loop (fun k st=>∃tm G j tw,st=⟨tm,[],G⟩∧k=i - j∧j≤i∧tm.get 0=some (.slice (some ⟨b,o,none⟩) L.length c)∧tm.get 1=some (.string u)∧tm.get 6=some (.int .i64 (i:Nat))∧tm.get 7=some (.bool tw)∧tm.get 8=some (.int .i64 (j:Nat))∧HX H G∧(tw=true↔∃z x,z < j∧L[z]?=some x∧(L[i]).1=x.1)) ?_ i _ ?_
   ·clear t0 t1 t6 hxG wG hld tm;rintro k st ⟨tm,G,j,tw,rfl,rfl,hj,t0,t1,t6,t7,t8,hxG,htw⟩;have wG:=hxG.wf;obtain⟨b',o',e',hld⟩:=(hR.keep hxG hw).get i hlt;cases e';obtain⟨x,hx⟩:∃x,x=L[i]:=⟨_,rfl⟩
    rw[←hx] at hld hstep htw;have lx1:=zgq hld;have lx2:=zml hld;by_cases hjl:j < i
    ·obtain⟨b',o',e',hlj⟩:=(hR.keep hxG hw).get j (by omega);cases e';have ly1:=zgq hlj;have hw2:IntKind.i64.wrap ((j:Int)+1)=((j+1:Nat):Int):=by rw[z0e]<;>omega
     have hjL:j < L.length:=by omega
     have hst:(∃z y,z < j+1∧L[z]?=some y∧x.1=y.1)↔(tw=true∨x.1=(L[j]).1):=by
      rw[htw];constructor
      ·rintro ⟨z,y,hz,hy,he⟩;by_cases hzj:z=j
       ·subst hzj;rw[Zd hjL] at hy;cases hy;exact .inr he
       ·exact .inl ⟨z,y,by omega,hy,he⟩
      ·rintro (⟨z,y,hz,hy,he⟩|he)
       ·exact⟨z,y,by omega,hy,he⟩
       ·exact⟨j,_,Nat.lt_succ_self _,Zd hjL,he⟩
     cases tw with
     |true =>
      repeat' (first|refine EvC.seq ?_|refine EvC.block ?_|(refine EvC.skip ?_;try simp only[z00])|(refine EvC.reg ?_;simp (config := { maxSteps := 2000000 }) (disch:=first|omega|rfl) only[sB,Za,t6,t8,decl hjl,hw2])|(refine EvC.drw [([(0,0),(1,0),(2,0),(3,0),(4,0),(5,0),(6,0),(7,0),(8,0),(9,0),(10,0),(11,0),(12,0),(13,0),(14,0)],none)] ?_ ?_;kernel_rfl;simp (config := { maxSteps := 2000000 }) (disch:=first|omega|rfl) only[sD,sB,Za,Zb,t7,isAlloc,isRead])|(refine EvC.condT ?_ ?_;simp (config := { maxSteps := 2000000 }) (disch:=first|omega|rfl) only[sB,Za];refine z02 ?_))
      exact⟨_,by omega,_,_,j+1,true,rfl,rfl,by omega,(by simp only[sG,reduceCtorEq,t0]),(by simp only[sG,Za,t1]),(by simp only[sG,Za,t6]),(by simp only[sG,Za]),(by simp only[sG,Za]),hxG.bump _,by rw[←hx,hst];simp⟩
     |false =>
      by_cases he:x.1=(L[j]).1
      ·have hb:((L[j]).1 == x.1)=true:=z1z.2 he.symm
       repeat' (first|refine EvC.seq ?_|refine EvC.block ?_|(refine EvC.skip ?_;try simp only[z00])|(refine EvC.reg ?_;simp (config := { maxSteps := 2000000 }) (disch:=first|omega|rfl) only[sB,Za,t6,t8,decl hjl,hw2])|(refine EvC.drw [([(0,0),(1,0),(2,0),(3,0),(4,0),(5,0),(6,0),(7,0),(8,0),(9,0),(10,0),(11,0),(12,0),(13,0),(14,0)],none)] ?_ ?_;kernel_rfl;simp (config := { maxSteps := 2000000 }) (disch:=first|omega|rfl) only[sD,sB,Za,Zb,reduceCtorEq,ia22,z40,ld9,t0,t6,t7,t8,ly1,lx1,z16,z2g,hb,Zc,isAlloc,isRead])|(refine EvC.condT ?_ ?_;simp (config := { maxSteps := 2000000 }) (disch:=first|omega|rfl) only[sB,Za];refine z02 ?_))
       exact⟨_,by omega,_,_,j+1,true,rfl,rfl,by omega,(by simp only[sG,reduceCtorEq,t0]),(by simp only[sG,Za,t1]),(by simp only[sG,Za,t6]),(by simp only[sG,Za]),(by simp only[sG,Za]),hxG.bump _,by rw[←hx,hst];simp [he]⟩
      ·have hb:((L[j]).1 == x.1)=false:=z9i fun q=>he q.symm
       repeat' (first|refine EvC.seq ?_|refine EvC.block ?_|(refine EvC.skip ?_;try simp only[z00])|(refine EvC.reg ?_;simp (config := { maxSteps := 2000000 }) (disch:=first|omega|rfl) only[sB,Za,t6,t8,decl hjl,hw2])|(refine EvC.drw [([(0,0),(1,0),(2,0),(3,0),(4,0),(5,0),(6,0),(7,0),(8,0),(9,0),(10,0),(11,0),(12,0),(13,0),(14,0)],none)] ?_ ?_;kernel_rfl;simp (config := { maxSteps := 2000000 }) (disch:=first|omega|rfl) only[sD,sB,Za,Zb,reduceCtorEq,ia22,z40,ld9,t0,t6,t7,t8,ly1,lx1,z16,z2g,hb,Zc,isAlloc,isRead])|(refine EvC.condT ?_ ?_;simp (config := { maxSteps := 2000000 }) (disch:=first|omega|rfl) only[sB,Za];refine z02 ?_))
       exact⟨_,by omega,_,_,j+1,false,rfl,rfl,by omega,(by simp only[sG,reduceCtorEq,t0]),(by simp only[sG,Za,t1]),(by simp only[sG,Za,t6]),(by simp only[sG,Za]),(by simp only[sG,Za]),hxG.bump _,by rw[←hx,hst];simp [he]⟩
    ·obtain rfl:j=i:=by omega
     have htf:tw=true↔((L.take j).find? fun o=>x.1 == o.1).isSome=true:=by
      rw[htw,List.find?_isSome];constructor
      ·rintro ⟨z,y,hz,hy,he⟩;refine⟨y,List.mem_of_getElem? (i:=z) (by rw[List.getElem?_take,if_pos hz];exact hy),z1z.2 he⟩
      ·rintro ⟨y,hy,he⟩;obtain⟨z,hz⟩:=List.mem_iff_getElem?.1 hy;rw[List.getElem?_take] at hz;split at hz
       ·rename_i q;exact⟨z,y,q,hz,z1z.1 he⟩
       ·cases hz
     cases tw with
     |true =>
      have hE2:newE L u=81:=by rw[hE,hfe,hstep,if_pos (.inl (htf.1 rfl))];rfl
      repeat' (first|refine EvC.seq ?_|(refine EvC.exit ?_;try simp only[sB,Za,reduceCtorEq])|(refine EvC.ret ?_;try simp only[z05,z03])|(refine EvC.reg ?_;simp (config := { maxSteps := 2000000 }) (disch:=first|omega|rfl) only[sB,Za,t6,t7,t8,decn hjl])|(refine EvC.condT ?_ ?_;simp (config := { maxSteps := 2000000 }) (disch:=first|omega|rfl) only[sB,Za];refine z02 ?_)|(refine EvC.condF ?_ ?_;simp (config := { maxSteps := 2000000 }) (disch:=first|omega|rfl) only[sB,Za];refine z02 ?_))
      exact z09 rfl (by simp only[sB,Za];rfl) (by simp only[sB,Za];rfl) ⟨hxG,.inl ⟨by rw[hE2];decide,by rw[hE2]⟩⟩
     |false =>
      have hnf:¬((L.take j).find? fun o=>x.1 == o.1).isSome=true:=fun q=>by have:=htf.2 q;cases this
      by_cases c3:x.1.size=0
      ·have hE2:newE L u=81:=by rw[hE,hfe,hstep,if_pos (.inr (zbo.2 (.inl c3)))];rfl
       have hb:=fun t x' y=>zlo (H:=G) (t:=t) (x:=x') (y:=y) c3
       repeat' (first|refine EvC.seq ?_|(refine EvC.exit ?_;try simp only[sB,Za,reduceCtorEq])|(refine EvC.ret ?_;try simp only[z05,z03])|(refine EvC.reg ?_;simp (config := { maxSteps := 2000000 }) (disch:=first|omega|rfl) only[sB,Za,reduceCtorEq,ia22,z40,ld9,t0,t6,t7,t8,decn hjl,lx1,hb,Zc])|(refine EvC.condT ?_ ?_;simp (config := { maxSteps := 2000000 }) (disch:=first|omega|rfl) only[sB,Za];refine z02 ?_)|(refine EvC.condF ?_ ?_;simp (config := { maxSteps := 2000000 }) (disch:=first|omega|rfl) only[sB,Za];refine z02 ?_))
       exact z09 rfl (by simp only[sB,Za];rfl) (by simp only[sB,Za];rfl) ⟨hxG,.inl ⟨by rw[hE2];decide,by rw[hE2]⟩⟩
      have hb:=fun t x' y=>zlp (H:=G) (t:=t) (x:=x') (y:=y) c3
      by_cases c4:(1000:Int) < x.1.size
      ·have hE2:newE L u=81:=by rw[hE,hfe,hstep,if_pos (.inr (zbo.2 (.inr c4)))];rfl
       repeat' (first|refine EvC.seq ?_|(refine EvC.exit ?_;try simp only[sB,Za,reduceCtorEq])|(refine EvC.ret ?_;try simp only[z05,z03])|(refine EvC.reg ?_;simp (config := { maxSteps := 2000000 }) (disch:=first|omega|rfl) only[sB,Za,reduceCtorEq,ia22,z40,ld9,ln9,t0,t6,t7,t8,decn hjl,lx1,hb,gt_iff_lt,decide_eq_true c4,Zc])|(refine EvC.condT ?_ ?_;simp (config := { maxSteps := 2000000 }) (disch:=first|omega|rfl) only[sB,Za];refine z02 ?_)|(refine EvC.condF ?_ ?_;simp (config := { maxSteps := 2000000 }) (disch:=first|omega|rfl) only[sB,Za];refine z02 ?_))
       exact z09 rfl (by simp only[sB,Za];rfl) (by simp only[sB,Za];rfl) ⟨hxG,.inl ⟨by rw[hE2];decide,by rw[hE2]⟩⟩
      rw[if_neg (fun q=>q.elim hnf fun q=>(zbo.1 q).elim c3 c4)] at hstep;by_cases h20:(20000:Int) < x.2.size
      ·have hE2:newE L u=82:=by rw[hE,hfe,hstep,if_pos (by omega)];rfl
       repeat' (first|refine EvC.seq ?_|(refine EvC.skip ?_;try simp only[z00])|(refine EvC.exit ?_;try simp only[sB,Za,reduceCtorEq])|(refine EvC.ret ?_;try simp only[z05,z03])|(refine EvC.reg ?_;simp (config := { maxSteps := 2000000 }) (disch:=first|omega|rfl) only[sB,Za,reduceCtorEq,ia22,z40,ld9,ln9,z5i,t0,t6,t7,t8,decn hjl,lx1,lx2,hb,gt_iff_lt,decide_eq_false c4,decide_eq_true h20,Zc])|(refine EvC.condT ?_ ?_;simp (config := { maxSteps := 2000000 }) (disch:=first|omega|rfl) only[sB,Za];refine z02 ?_)|(refine EvC.condF ?_ ?_;simp (config := { maxSteps := 2000000 }) (disch:=first|omega|rfl) only[sB,Za];refine z02 ?_))
       exact z09 rfl (by simp only[sB,Za];rfl) (by simp only[sB,Za];rfl) ⟨hxG,.inl ⟨by rw[hE2];decide,by rw[hE2]⟩⟩
      rw[if_neg (by omega)] at hstep
      repeat' (first|refine EvC.seq ?_|(refine EvC.skip ?_;try simp only[sA])|(refine EvC.exit ?_;try simp only[sB,Za,reduceCtorEq])|(refine EvC.reg ?_;simp (config := { maxSteps := 2000000 }) (disch:=first|omega|rfl) only[sB,Za,reduceCtorEq,ia22,z40,ld9,ln9,z5i,t0,t6,t7,t8,decn hjl,lx1,lx2,hb,gt_iff_lt,decide_eq_false c4,decide_eq_false h20,hw1,Zc])|(refine EvC.condF ?_ ?_;simp (config := { maxSteps := 2000000 }) (disch:=first|omega|rfl) only[sB,Za];refine z02 ?_))
      exact⟨_,by omega,_,_,j+1,rfl,rfl,by omega,(by simp only[sG,reduceCtorEq,t0]),(by simp only[sG,Za,t1]),(by simp only[sG,Za]),hxG,by rw[hfe,hstep]⟩
   ·exact⟨_,_,0,false,rfl,rfl,Zz _,(by simp only[sG,reduceCtorEq,t0]),(by simp only[sG,Za,t1]),(by simp only[sG,Za,t6]),(by simp only[sG,Za]),(by simp only[sB,Za];rfl),hxG,by simp⟩
  ·obtain rfl:i=L.length:=by omega
   rw[zgp] at hfe
   repeat' (first|refine EvC.seq ?_|(refine EvC.exit ?_;try simp only[sB])|(refine EvC.reg ?_;simp (config := { maxSteps := 2000000 }) (disch:=first|omega|rfl) only[sB,Za,reduceCtorEq,ln22,t0,t6,decn hlt])|(refine EvC.condF ?_ ?_;simp (config := { maxSteps := 2000000 }) (disch:=first|omega|rfl) only[sB,Za];refine z02 ?_))
   by_cases hu:(20000:Int) < u.size
   ·have hE2:newE L u=82:=by rw[hE,hfe];show (if 20000 < u.size then 82 else 0)=(82:Int);rw[if_pos (by omega)]
    repeat' (first|refine EvC.seq ?_|(refine EvC.ret ?_;try simp only[z05,z03])|(refine EvC.reg ?_;simp (config := { maxSteps := 2000000 }) (disch:=first|omega|rfl) only[sA])|(refine z08 ?_;simp (config := { maxSteps := 2000000 }) (disch:=first|omega|rfl) only[sB,Za,ln9,t1,gt_iff_lt,decide_eq_true hu])|(refine EvC.condT ?_ ?_;simp (config := { maxSteps := 2000000 }) (disch:=first|omega|rfl) only[sB,Za];refine z02 ?_))
    exact z09 rfl (by simp only[sB,Za];rfl) (by simp only[sB,Za];rfl) ⟨hxG,.inl ⟨by rw[hE2];decide,by rw[hE2]⟩⟩
   have hE2:newE L u=0:=by rw[hE,hfe];show (if 20000 < u.size then 82 else 0)=(0:Int);rw[if_neg (by omega)]
   obtain⟨H1,e1,hx1,g1,n1,w1⟩:=new1 wG (.row [] 73);have hR1:=hR.keep (hxG.trans hx1) hw;obtain⟨f,H2,ap1,g2,hb2,hk2,-,n12⟩:=zak (n:=0) (m:=L.length) (c':=c) zd6 (by unfold most;omega) hR1.all (fun q=>by rw[List.eq_nil_of_length_eq_zero q];rfl) (z6m _) g1 rfl rfl;rw[Nat.zero_add] at ap1;rw[List.nil_append] at g2;have hx2:HX H H2:=hk2 H (by have:=hxG.next;omega) (hxG.trans hx1);have w2:=hx2.wf;obtain⟨H3,e3,hx3,g3,n3,w3⟩:=new1 w2 (.row [.slice (some ⟨f,0,none⟩) L.length L.length,.slice none 0 0,.int .i64 2,.string u,.string Zg,.int .i64 0,.int .i64 1,.int .i64 0] 39);have q3:=row8 g3;obtain⟨H4,e4,hx4,g4,n4,w4⟩:=new1 w3 (.row [.int .i64 0,.string Zg,.int .i64 1,.bool false,.string ⟨#[117,115,101,114,95,105,110,112,117,116]⟩,.int .i64 3,.bool false,.int .i64 0,.int .i64 0,.int .i64 0,.int .i64 1,.string Zg,.int .i64 3,.bool false,.string ⟨#[117,115,101,114,95,111,117,116,112,117,116]⟩,.int .i64 3,.bool false,.int .i64 0,.int .i64 0,.int .i64 0] 84);have g34:=hx4.get w3 g3;have q4:=row8 g34
   obtain⟨H5,e5⟩:∃H5,H4.put H2.next (some (.row [.slice (some ⟨f,0,none⟩) L.length L.length,.slice (some ⟨H3.next,0,none⟩) 2 2,.int .i64 2,.string u,.string Zg,.int .i64 0,.int .i64 1,.int .i64 0] 39))=H5:=⟨_,rfl⟩
   have hlH:=hx2.next;have hx5:HX H H5:=by rw[←e5];exact((hx2.trans hx3).trans hx4).pt (by omega) g34 _
   have hf2:=w2 _ _ g2;have gf4:=hx4.get w3 (hx3.get w2 g2);have hfl:H.next≤f:=by have:=hxG.next;rcases hb2 with rfl|rfl<;>omega
   repeat' (first|refine EvC.seq ?_|(refine EvC.skip ?_;try simp only[z00])|(refine EvC.ret ?_)|(refine EvC.reg ?_;simp (config := { maxSteps := 2000000 }) (disch:=first|omega|rfl) only[sB,dBox,Za,Zb,Value.cells,one,reduceCtorEq,Zh,layC,zng,bd39,bd61,bd84,zpd,z0k,st37,t0,t1,e1,ap1,z01,z04,e3,e4,g34,e5])|(refine z08 ?_;simp (config := { maxSteps := 2000000 }) (disch:=first|omega|rfl) only[sB,Za,ln9,t1,gt_iff_lt,decide_eq_false hu])|(refine EvC.condF ?_ ?_;simp (config := { maxSteps := 2000000 }) (disch:=first|omega|rfl) only[sB,Za];refine z02 ?_))
   refine z09 rfl (by simp only[sG,Za]) (by simp only[sG,Za]) ⟨hx5,.inr ⟨hE2,H2.next,f,H3.next,rfl,?_⟩⟩;exact⟨by rw[←e5,get_put,if_pos rfl];rfl,by rw[←e5,get_put,if_neg (by omega)];exact gf4,by rw[←e5,get_put,if_neg (by omega)];exact g4,fun o ho=>(by
    simp only[fs0,List.mem_cons,List.not_mem_nil,or_false] at ho;rcases ho with rfl|rfl<;>rfl),show H.next≤H2.next by omega,hfl,show H.next≤H3.next by omega⟩
 ·exact⟨_,_,0,rfl,rfl,Zz _,(by simp only[sG,reduceCtorEq]),(by simp only[sG,Za,reduceCtorEq]),(by simp only[sB,Za,reduceCtorEq];rfl),HX.refl hw,rfl⟩
end Go.Proofs.hq
end

section
namespace Go.Hb
open Go Go.RowKit
structure Cal where
  kd:Int
  id:Int
  nn:Int
  nm:ByteArray
  bin:Bool
  al:ByteArray
  eof:Int
  rep:Bool
  pk:Bool
abbrev Cal.row (c:Cal):List Value:=[.int .i64 c.kd,.int .i64 c.id,.int .i64 c.nn,.string c.nm,.bool c.bin,.string c.al,.int .i64 c.eof,.bool c.rep,.bool c.pk]
structure RdC (H:Heap) (L:List Cal) (a:Option Addr) (c:Nat):Prop where
  len:L.length≤c
  cap:c≤maxLen
  get:∀(i:Nat) (hi:i < L.length),∃b o,a=some ⟨b,o,none⟩∧H.load ⟨b,o+i*9,none⟩ 9=some L[i].row
theorem RdC.keep {H H':Heap}{L:List Cal}{a:Option Addr}{c:Nat}(h:RdC H L a c) (hx:HX H H') (hw:H.wf):RdC H' L a c:=⟨h.len,h.cap,fun i hi=>by obtain⟨b,o,e,l⟩:=h.get i hi;exact⟨b,o,e,hx.load hw l⟩⟩
end Go.Hb
namespace Go.Proofs.hq
open Go Go.RowKit Go.Hb
variable {ok:Ok}
set_option maxRecDepth 10000
attribute [local irreducible] LX LG EL STG SOP SGO SGD SAL SRD SEF SEG SLK SCK ES
structure CalK (c:Cal):Prop where
  id:i64 c.id
  nn:i64 c.nn
  nm:c.nm.size≤4611686018427387904
  al:c.al.size≤4611686018427387904
theorem isPR:isPtr Tryz.prog 29=true:=by kernel_rfl
theorem zq8 {H:Heap}{T:TypeId}{x y:Operand}(hi:isPtr Tryz.prog T=true) (hb:pureRun Tryz.prog (binOp .eql T (.pointer none) (.pointer none))=some (.bool true)):dBin Tryz.prog .eql T x y (.pointer none) (.pointer none) H=some (.val (.bool true) H):=by
  have hg:pureRun Tryz.prog (eqGuard .eql T x y (.pointer none) (.pointer none))=some ():=by
    unfold eqGuard;rfl
  have hall:pureRun Tryz.prog (do let r ←(do eqGuard .eql T x y (.pointer none) (.pointer none);binOp .eql T (.pointer none) (.pointer none));pure (Next.value r))=some (.value (.bool true)):=by
    rw[z0a,z0a,hg,Zq,hb];rfl
  simp only[dBin,dnil,hi,nilEq,if_true,hall];rfl
theorem zq9 {H:Heap}{x y:Operand}:dBin Tryz.prog .eql 25 x y (.pointer none) (.pointer none) H=some (.val (.bool true) H):=zq8 isPF (by kernel_rfl)
theorem zqa {H:Heap}{x y:Operand}:dBin Tryz.prog .eql 29 x y (.pointer none) (.pointer none) H=some (.val (.bool true) H):=zq8 isPR (by kernel_rfl)
theorem zqu {H:Heap}{x y:Operand}{a:Addr}:dBin Tryz.prog .eql 29 x y (.pointer (some a)) (.pointer none) H=some (.val (.bool false) H):=by
  simp only[dBin,dnil,isPR,nilEq,if_true]
theorem zqb {H:Heap}{x y:Operand}{a:Bool}:dBin Tryz.prog .neq 4 x y (.bool a) (.bool a) H=some (.val (.bool false) H):=by
  cases a<;>kernel_rfl
theorem zkq {l seen:List (ByteArray × ByteArray)}(h:fErr seen l=none):(∀x∈l,named x.1=true∧x.2.size≤20000)∧((seen.map (·.1)).Nodup→((seen++l).map (·.1)).Nodup):=by
  induction l generalizing seen with
  |nil=>exact⟨by simp,by simp⟩
  |cons x l ih =>
    rw[fErr] at h;split at h
    · cases h
    rename_i h1;split at h
    · cases h
    rename_i h2;obtain⟨k1,k2⟩:=ih h;obtain⟨a1,a2⟩:=not_or.1 h1;refine⟨fun y hy=>?_,fun hn=>?_⟩
    · rcases List.mem_cons.1 hy with rfl|hy
      · exact⟨by simpa using a2,by omega⟩
      · exact k1 y hy
    · have:=k2 (by
        rw[ZI,Zs,List.map_nil];rw[List.nodup_append];refine⟨hn,by simp,fun a ha b hb e=>?_⟩;simp only[List.mem_singleton] at hb;subst hb;subst e;obtain⟨y,hy,e⟩:=List.mem_map.1 ha;apply a1;rw[List.find?_isSome];exact⟨y,hy,by rw[e];exact z1z.2 rfl⟩)
      simpa using this
theorem Inv.start {L:List (ByteArray × ByteArray)}{u:ByteArray}(h:newE L u=0):Inv (fs0 L u) 2:=by
  unfold newE at h;split at h
  · cases h
  rename_i h16;have hf:fErr [] L=none:=by
    have key:∀l seen e,fErr seen l=some e→e=81∨e=82:=fun l=>by
      induction l with
      |nil=>intro seen e q;cases q
      |cons x l ih =>
        intro seen e q;rw[fErr] at q;split at q
        · cases q;exact .inl rfl
        split at q
        · cases q;exact .inr rfl
        exact ih _ _ q
    cases hq:fErr [] L with
    |none=>rfl
    |some e =>
      rw[hq] at h;have h':e=0:=h;rcases key _ _ _ hq with q|q<;>omega
  rw[hf] at h;have hu:u.size≤20000:=by
    have h':(if 20000 < u.size then (82:Int) else 0)=0:=h;split at h'
    · cases h'
    · omega
  obtain⟨h1,h2⟩:=zkq hf;have hm:∀o∈(fs0 L u).opens,o=(0,str0)∨o=(1,str1):=fun o ho=>by simpa [fs0] using ho
  exact {
    ids:=fun o ho=>by rcases hm o ho with rfl|rfl<;>rfl
    lt := fun o ho => by rcases hm o ho with rfl|rfl
                         · exact(by decide:(0:Int)≤0∧(0:Int) < 2)
                         · exact(by decide:(0:Int)≤1∧(1:Int) < 2)
    asc:=by show ([0,1]:List Int).Pairwise (· < ·);decide
    nx:=(by decide:(2:Int)≤2∧(2:Int)≤2)
    con:=fun o ho=>by rcases hm o ho with rfl|rfl<;>rfl
    c0:=fun o ho h0=>by rcases hm o ho with rfl|rfl;exact rfl;cases h0
    c1:=fun o ho h0=>by rcases hm o ho with rfl|rfl;cases h0;decide
    fl:=fun o ho h0=>by rcases hm o ho with rfl|rfl<;>exact absurd h0 (by decide)
    al:=fun o ho o' ho' h0 he=>by rcases hm o ho with rfl|rfl<;>rcases hm o' ho' with rfl|rfl<;>first|rfl|exact absurd he (by decide)
    po:=fun o ho=>by rcases hm o ho with rfl|rfl<;>exact⟨Int.le_refl _,Int.natCast_nonneg _⟩
    rp:=fun o ho h0=>by rcases hm o ho with rfl|rfl<;>first|rfl|cases h0
    no:=(by decide:2≤16)
    nf:=by show L.length≤16;omega
    fn:=h1
    fd:=by show (L.map (·.1)).Nodup;simpa using h2 (by simp)
    inp:=hu
    out:=(by decide:((0:Nat):Int)≤0)
    wr:=(by decide:(0:Int)≤0∧(0:Int)≤100000) }
end Go.Proofs.hq
end

section
namespace Go.Proofs.hq
open Go Go.RowKit Go.Hb
variable {ok:Ok}
set_option maxRecDepth 10000
attribute [local irreducible] LX LG EL STG SOP SGO SGD SAL SRD SEF SEG SLK SCK ES
theorem OutT.rows {H H':Heap}{l:List (List Value)}{v:Value}{B:Nat}(h:OutT H l v B) (hk:∀i cs T,H.get i=some (.row cs T)→Zk T 77=false→Zk T 82=false→H'.get i=some (.row cs T)):OutT H' l v B:=by
 rcases h with h|⟨b,e,hg,hb⟩
 ·exact .inl h
 ·exact .inr ⟨b,e,hk _ _ _ hg rfl rfl,hb⟩
theorem OutF.rows {H H':Heap}{l:List (ByteArray × ByteArray)}{v:Value}{B:Nat}(h:OutF H l v B) (hk:∀i cs T,H.get i=some (.row cs T)→Zk T 77=false→Zk T 82=false→H'.get i=some (.row cs T)):OutF H' l v B:=by
 rcases h with h|⟨b,e,hg,hb⟩
 ·exact .inl h
 ·exact .inr ⟨b,e,hk _ _ _ hg rfl rfl,hb⟩
theorem ErrB.two {H:Heap}{b:BadV}{e:Value}(h:ErrB H b e):(b=.none∧e=.nilIface)∨(b≠.none∧∃T x,e=.iface T x):=by
 cases b with
 |none=>exact .inl ⟨rfl,h⟩
 |ball t=>obtain⟨p,cs,he,-⟩:=h;exact .inr ⟨by simp,_,_,he⟩
 |code n=>exact .inr ⟨by simp,_,_,h⟩
theorem z5z {o:Option Tm}{P:Prop}(h:BadV.of o≠.none) (k:o=none∨P):P:=k.resolve_left fun q=>h (by rw[q];rfl)
structure Was (H:Heap) (b:Nat) (u w:Value) (φ:FSt):Prop where
 row:H.get b=some (.row (heldRow u w φ) 44)
 t:OutT H φ.tells u 0
 f:OutF H φ.sorted w 0
theorem Was.rows {H H':Heap}{b:Nat}{u w:Value}{φ:FSt}(h:Was H b u w φ) (hk:∀i cs T,H.get i=some (.row cs T)→Zk T 77=false→Zk T 82=false→H'.get i=some (.row cs T)):Was H' b u w φ :=
 ⟨hk _ _ _ h.row rfl rfl,h.t.rows hk,h.f.rows hk⟩
theorem Was.keep {H H':Heap}{b:Nat}{u w:Value}{φ:FSt}(h:Was H b u w φ) (hx:HX H H') (hw:H.wf):Was H' b u w φ:=h.rows fun i cs T g _ _=>hx.get hw g
set_option maxHeartbeats 32000000 in
theorem zbp {A:Heap}{L:List (ByteArray × ByteArray)}{C:List Cal}{a a2:Option Addr}{c c2:Nat}{u:ByteArray}{x:Cal}(hR:RdF A L a c) (hC:RdC A C a2 c2) (hk:∀y∈C,CalK y) (hxk:CalK x) (hw:A.wf) :
  EvF Tryz.prog okT 4 [.slice a L.length c,.string u,.slice a2 C.length c2,.agg ⟨x.row⟩] A fun v _=>v=.bool true:=by
 refine EvF.enter rfl Tryz.func4 (by decide) rfl ?_;obtain⟨kd,id,nn,nm,bin,al,eof,rep,pk⟩:=x;obtain⟨hid,hnn,hnm,hal⟩:=hxk;simp only at hid hnn hnm hal;(repeat refine EvC.seq ?_);refine EvC.reg ?_;simp (config := { maxSteps := 2000000 }) (disch:=first|omega|rfl) only[sB,initTm,dBox,Za,Zb,Value.cells,one,reduceCtorEq];obtain⟨A1,e1,hxA,gx,nx1,w1⟩:=new1 hw (.row [.int .i64 kd,.int .i64 id,.int .i64 nn,.string nm,.bool bin,.string al,.int .i64 eof,.bool rep,.bool pk] 36);simp only[e1];clear e1
 repeat' (first|refine EvC.seq ?_|(refine EvC.reg ?_;simp (config := { maxSteps := 2000000 }) (disch:=first|omega|rfl) only[sB,Za,reduceCtorEq,cl6]))
 refine(ze6 w1).mono ?_;rintro v A0 ⟨rfl,hq⟩;have hq':=hq.symm;subst hq'
 repeat' (first|refine EvC.seq ?_|(refine EvC.reg ?_;simp (config := { maxSteps := 2000000 }) (disch:=first|omega|rfl) only[sB,Za,reduceCtorEq,cl7]))
 refine(zp2 (hR.keep hxA hw) w1).mono ?_;rintro v H1 ⟨hx1,hv1⟩;have w2:=hx1.wf;by_cases hE:newE L u=0
 ·rcases hv1 with ⟨h0,-⟩|⟨-,p,fb,ob,blk,rfl,hv⟩
  ·exact absurd hE h0
  repeat' (first|refine EvC.seq ?_|(refine EvC.reg ?_;simp (config := { maxSteps := 2000000 }) (disch:=first|omega|rfl) only[sB,Za,reduceCtorEq,cl8])|(refine z08 ?_;simp (config := { maxSteps := 2000000 }) (disch:=first|omega|rfl) only[sB,Za,reduceCtorEq]))
  refine(zgr ((hR.keep hxA hw).keep hx1 w1) w2).mono ?_;rintro v H2 ⟨hx2,hv2⟩;rcases hv2 with ⟨h0,-⟩|⟨-,r,f,l,rfl,hr⟩
  ·exact absurd hE h0
  have w3:=hx2.wf;have hT:Two A1 H2 p r (fs0 L u) (fs0 L u).rf:=⟨hx1.trans hx2,⟨fb,ob,blk,hv.keep hx2 w2⟩,f,l,hr.wide fun i hi=>ZA hx1.next hi⟩
  have hI:=Inv.start hE;have hcl:=hC.len;have hcm:=hC.cap;have hmx:maxLen=9223372036854775807:=rfl;have z0:((0:Int) != 0)=false:=rfl;have hC1:=hC.keep hxA hw
  repeat' (first|refine EvC.seq ?_|refine EvC.block ?_|(refine EvC.skip ?_;try simp only[z00])|(refine EvC.reg ?_;simp (config := { maxSteps := 2000000 }) (disch:=first|omega|rfl) only[sB,Za,reduceCtorEq,z0,z6z,zqu,zqb,Zc,Zn])|(refine z08 ?_;simp (config := { maxSteps := 2000000 }) (disch:=first|omega|rfl) only[sB,Za,reduceCtorEq])|(refine EvC.condF ?_ ?_;simp (config := { maxSteps := 2000000 }) (disch:=first|omega|rfl) only[sB,Za,reduceCtorEq];refine z02 ?_))
  refine EvC.loop (fun k st=>∃tm G i φ,st=⟨tm,[],G⟩∧k=200 - i∧i≤200∧tm.get 2=some (.slice a2 C.length c2)∧tm.get 7=some (ptrV A.next)∧tm.get 10=some (ptrV p)∧tm.get 12=some (ptrV r)∧tm.get 14=some (.int .i64 (i:Nat))∧Two A1 G p r φ φ.rf∧Inv φ (2+i)) ?_ 200 _ ?_
  ·rintro k st ⟨tm,G,i,φ,rfl,rfl,hi,t2,t7,t10,t12,t14,hTG,hIG⟩;by_cases hlt:i < C.length∧i < 200
   ·obtain⟨h1,h2⟩:=hlt;obtain⟨b,o,rfl,hld⟩:=(hC1.keep hTG.hx w1).get i h1;have hok:=hk _ (ZE h1);obtain⟨y,hy⟩:∃y,y=C[i]:=⟨_,rfl⟩
    rw[←hy] at hld hok;have d2:decide ((i:Int) < 200)=true:=decide_eq_true (by omega);have hw1:IntKind.i64.wrap ((i:Int)+1)=((i+1:Nat):Int):=by rw[z0e]<;>omega
    repeat' (first|refine EvC.seq ?_|refine EvC.block ?_|(refine EvC.skip ?_;try simp only[z00])|(refine EvC.reg ?_;simp (config := { maxSteps := 2000000 }) (disch:=first|omega|rfl) only[sB,Za,ln23,ia23,ld36,cl9,t2,t10,t12,t14,decl h1,d2,hld])|(refine EvC.condT ?_ ?_;simp (config := { maxSteps := 2000000 }) (disch:=first|omega|rfl) only[sB,Za];refine z02 ?_))
    refine(zqs hTG hIG (by omega) hok.id hok.nn hok.nm hok.al).mono ?_;rintro v G2 ⟨rfl,φ2,hT2,hI2⟩
    repeat' (first|(refine EvC.reg ?_;simp (config := { maxSteps := 2000000 }) (disch:=first|omega|rfl) only[sB,Za,t14,hw1]))
    exact⟨_,by omega,_,_,i+1,φ2,rfl,rfl,by omega,(by simp only[sG,Za,t2]),(by simp only[sG,Za,t7]),(by simp only[sG,Za,t10]),(by simp only[sG,Za,t12]),(by simp only[sG,Za]),hT2,hI2.up (by omega)⟩
   ·have hIN:=hIG.up (M:=202) (by omega);have h12:(i < C.length→decide ((i:Int) < 200)=false):=fun h=>decide_eq_false (by omega)
    clear hi;(repeat refine EvC.seq ?_);refine EvC.join (fun st=>∃tm,st=⟨tm,[],G⟩∧tm.get 62=some (.bool false)∧tm.get 7=some (ptrV A.next)∧tm.get 10=some (ptrV p)) ?_ ?_
    ·by_cases h1:i < C.length
     ·repeat' (first|(refine EvC.reg ?_;simp (config := { maxSteps := 2000000 }) (disch:=first|omega|rfl) only[sB,Za,ln23,t2,t14,decl h1,h12 h1]))
      exact⟨_,rfl,(by simp only[sG,Za]),(by simp only[sG,Za,t7]),(by simp only[sG,Za,t10])⟩
     ·repeat' (first|(refine EvC.reg ?_;simp (config := { maxSteps := 2000000 }) (disch:=first|omega|rfl) only[sB,Za,ln23,t2,t14,decn h1,Zc]))
      exact⟨_,rfl,(by simp only[sG,Za]),(by simp only[sG,Za,t7]),(by simp only[sG,Za,t10])⟩
    clear t2 t7 t10 t12 t14 hlt h12;rintro st ⟨tm,rfl,t62,t7,t10⟩;obtain⟨fb,ob,blk,hv⟩:=hTG.v;have wG:=hTG.hx.wf;have gxG:=hTG.hx.get w1 gx;simp only[z00]
    repeat' (first|refine EvC.seq ?_|(refine EvC.exit ?_;try simp only[sB])|(refine EvC.reg ?_;simp (config := { maxSteps := 2000000 }) (disch:=first|omega|rfl) only[sB,dAlloc,Za,cl11,zr44,t10])|(refine EvC.condF ?_ ?_;simp (config := { maxSteps := 2000000 }) (disch:=first|omega|rfl) only[sA,t62];refine z02 ?_))
    refine(zdb hv wG hIN (by omega)).mono ?_;rintro v K1 ⟨hxK,u1,q1,rfl,hOT,hOF⟩;obtain⟨ka,kc,hke,-⟩:=hOT.sl z3h;subst hke;obtain⟨la,lc,hle,-⟩:=hOF.sl;subst hle;have wK:=hxK.wf;obtain⟨K2,eK,hxK2,gK,nK,wK2⟩:=z18 wK (.row heldZ 44) (.row (heldRow (.slice ka φ.tells.length kc) (.slice la φ.sorted.length lc) φ) 44);have hWas:Was K2 K1.next (.slice ka φ.tells.length kc) (.slice la φ.sorted.length lc) φ:=⟨gK,(hOT.keep hxK2 wK).low (Zz _),(hOF.keep hxK2 wK).low (Zz _)⟩
    have hvK:=(hv.keep hxK wG).keep hxK2 wK;have gxK:=(hxK.trans hxK2).get wG gxG;have qx:=row9 gxK;have t7':tm.get 7=some (.pointer (some ⟨A.next,0,none⟩)):=t7
    repeat' (first|refine EvC.seq ?_|refine EvC.block ?_|(refine EvC.reg ?_;simp (config := { maxSteps := 2000000 }) (disch:=first|omega|rfl) only[sB,Za,z3j,ld3,t7',qx])|(refine z08 ?_;simp (config := { maxSteps := 2000000 }) (disch:=first|omega|rfl) only[sB,Zb,one,st44,eK]))
    have hwr:=hIN.wr;have hnx:=hIN.nx;have hout:=hIN.out;have hU:=hIN.up (M:=203) (by omega);refine EvC.join (fun st=>∃tm G φ' rb B fb ob blk,st=⟨tm,[],G⟩∧tm.get 10=some (ptrV p)∧tm.get 15=some (ptrV K1.next)∧tm.get 16=some (.bool rb)∧(rb=true→φ'=φ)∧Inv φ' 203∧FsB G B p fb ob blk φ'∧Was G K1.next (.slice ka φ.tells.length kc) (.slice la φ.sorted.length lc) φ∧G.wf) ?_ ?_
    ·have hkd:kd=1∨kd=2∨kd=3∨kd=4∨kd=5∨kd=6∨kd=8∨kd=9∨kd=10∨kd=11∨(kd < 1∨kd=7∨11 < kd):=by omega
     rcases hkd with hk|hk|hk|hk|hk|hk|hk|hk|hk|hk|hk
     ·subst hk;have z1:((1:Int) == 1)=true:=rfl
      repeat' (first|refine EvC.seq ?_|(refine EvC.reg ?_;simp (config := { maxSteps := 2000000 }) (disch:=first|omega|rfl) only[sB,Za,ld3,z7g,ld9,z4p,zja,ld34,cl12,t10,t7',qx,z1])|(refine EvC.condT ?_ ?_;simp (config := { maxSteps := 2000000 }) (disch:=first|omega|rfl) only[sB,Za,z1];refine z02 ?_))
      refine(zgo (hvK.foot K2.next) wK2 FootV.new (fun o ho o' ho' hz e e'=>hIN.al o ho o' ho' (by rw[e];exact hz) (by rw[e,e'])) (by omega) (fun o ho=>(hIN.lt o ho).2) (by omega) hIN.no hIN.nf).mono ?_;rintro v G2 ⟨e,rfl,hy,he,blk2,hv2⟩;have hW2:=hWas.rows fun i cs T g a b=>hvK.keepRow wK2 hy g a b
      rcases he.two with ⟨-,rfl⟩|⟨hb,T,y,rfl⟩
      ·repeat' (first|(refine EvC.reg ?_;simp (config := { maxSteps := 2000000 }) (disch:=first|omega|rfl) only[sB,Za,z0w])|(refine z08 ?_;simp (config := { maxSteps := 2000000 }) (disch:=first|omega|rfl) only[sB,Za]))
       exact⟨_,_,(φ.openA nm nn bin al eof rep).2.2,false,_,_,_,_,rfl,(by simp only[sG,Za,t10]),(by simp only[sG,Za]),(by simp only[sG,Za]),(fun q=>nomatch q),hIN.open nm nn bin al eof rep,hv2,hW2,hy.1⟩
      ·repeat' (first|(refine EvC.reg ?_;simp (config := { maxSteps := 2000000 }) (disch:=first|omega|rfl) only[sB,Za,z2e])|(refine z08 ?_;simp (config := { maxSteps := 2000000 }) (disch:=first|omega|rfl) only[sB,Za]))
       exact⟨_,_,(φ.openA nm nn bin al eof rep).2.2,true,_,_,_,_,rfl,(by simp only[sG,Za,t10]),(by simp only[sG,Za]),(by simp only[sG,Za]),fun _=>(zog.resolve_left hb),hIN.open nm nn bin al eof rep,hv2,hW2,hy.1⟩
     ·subst hk;have z1:((2:Int) == 1)=false:=rfl;have z2:((2:Int) == 2)=true:=rfl
      repeat' (first|refine EvC.seq ?_|(refine EvC.reg ?_;simp (config := { maxSteps := 2000000 }) (disch:=first|omega|rfl) only[sB,Za,ld3,z1f,cl13,t10,t7',qx,z1,z2])|(refine EvC.condT ?_ ?_;simp (config := { maxSteps := 2000000 }) (disch:=first|omega|rfl) only[sB,Za,z1];refine z02 ?_)|(refine EvC.condF ?_ ?_;simp (config := { maxSteps := 2000000 }) (disch:=first|omega|rfl) only[sB,Za,z1];refine z02 ?_))
      refine(zg3 (hvK.foot K2.next) wK2 hid).mono ?_;rintro e G2 ⟨hy,he,hv2⟩;have hW2:=hWas.rows fun i cs T g a b=>hvK.keepRow wK2 hy g a b
      rcases he.b.two with ⟨-,rfl⟩|⟨hb,T,y,rfl⟩
      ·repeat' (first|(refine z08 ?_;simp (config := { maxSteps := 2000000 }) (disch:=first|omega|rfl) only[sB,Za,z0w]))
       exact⟨_,_,(φ.closeR id).2,false,_,_,_,_,rfl,(by simp only[sG,Za,t10]),(by simp only[sG,Za]),(by simp only[sG,Za]),(fun q=>nomatch q),hU.close id,hv2,hW2,hy.1⟩
      ·repeat' (first|(refine z08 ?_;simp (config := { maxSteps := 2000000 }) (disch:=first|omega|rfl) only[sB,Za,z2e]))
       exact⟨_,_,(φ.closeR id).2,true,_,_,_,_,rfl,(by simp only[sG,Za,t10]),(by simp only[sG,Za]),(by simp only[sG,Za]),fun _=>(z5z hb zlv),hU.close id,hv2,hW2,hy.1⟩
     ·subst hk;have z1:((3:Int) == 1)=false:=rfl;have z2:((3:Int) == 2)=false:=rfl;have z3:((3:Int) == 3)=true:=rfl
      repeat' (first|refine EvC.seq ?_|(refine EvC.reg ?_;simp (config := { maxSteps := 2000000 }) (disch:=first|omega|rfl) only[sB,Za,ld3,z1f,cl14,t10,t7',qx,z1,z2,z3])|(refine EvC.condT ?_ ?_;simp (config := { maxSteps := 2000000 }) (disch:=first|omega|rfl) only[sB,Za,z1];refine z02 ?_)|(refine EvC.condF ?_ ?_;simp (config := { maxSteps := 2000000 }) (disch:=first|omega|rfl) only[sB,Za,z1];refine z02 ?_))
      refine(zg6 (hvK.foot K2.next) wK2 hid).mono ?_;rintro e G2 ⟨hy,he,hv2⟩;have hW2:=hWas.rows fun i cs T g a b=>hvK.keepRow wK2 hy g a b
      rcases he.b.two with ⟨-,rfl⟩|⟨hb,T,y,rfl⟩
      ·repeat' (first|(refine z08 ?_;simp (config := { maxSteps := 2000000 }) (disch:=first|omega|rfl) only[sB,Za,z0w]))
       exact⟨_,_,(φ.setInR id).2,false,_,_,_,_,rfl,(by simp only[sG,Za,t10]),(by simp only[sG,Za]),(by simp only[sG,Za]),(fun q=>nomatch q),hU.setIn id,hv2,hW2,hy.1⟩
      ·repeat' (first|(refine z08 ?_;simp (config := { maxSteps := 2000000 }) (disch:=first|omega|rfl) only[sB,Za,z2e]))
       exact⟨_,_,(φ.setInR id).2,true,_,_,_,_,rfl,(by simp only[sG,Za,t10]),(by simp only[sG,Za]),(by simp only[sG,Za]),fun _=>(z5z hb zlw),hU.setIn id,hv2,hW2,hy.1⟩
     ·subst hk;have z1:((4:Int) == 1)=false:=rfl;have z2:((4:Int) == 2)=false:=rfl;have z3:((4:Int) == 3)=false:=rfl;have z4:((4:Int) == 4)=true:=rfl
      repeat' (first|refine EvC.seq ?_|(refine EvC.reg ?_;simp (config := { maxSteps := 2000000 }) (disch:=first|omega|rfl) only[sB,Za,ld3,z1f,cl15,t10,t7',qx,z1,z2,z3,z4])|(refine EvC.condT ?_ ?_;simp (config := { maxSteps := 2000000 }) (disch:=first|omega|rfl) only[sB,Za,z1];refine z02 ?_)|(refine EvC.condF ?_ ?_;simp (config := { maxSteps := 2000000 }) (disch:=first|omega|rfl) only[sB,Za,z1];refine z02 ?_))
      refine(zd4 (hvK.foot K2.next) wK2 hid).mono ?_;rintro e G2 ⟨hy,he,hv2⟩;have hW2:=hWas.rows fun i cs T g a b=>hvK.keepRow wK2 hy g a b
      rcases he.b.two with ⟨-,rfl⟩|⟨hb,T,y,rfl⟩
      ·repeat' (first|(refine z08 ?_;simp (config := { maxSteps := 2000000 }) (disch:=first|omega|rfl) only[sB,Za,z0w]))
       exact⟨_,_,(φ.setOutR id).2,false,_,_,_,_,rfl,(by simp only[sG,Za,t10]),(by simp only[sG,Za]),(by simp only[sG,Za]),(fun q=>nomatch q),hU.setOut id,hv2,hW2,hy.1⟩
      ·repeat' (first|(refine z08 ?_;simp (config := { maxSteps := 2000000 }) (disch:=first|omega|rfl) only[sB,Za,z2e]))
       exact⟨_,_,(φ.setOutR id).2,true,_,_,_,_,rfl,(by simp only[sG,Za,t10]),(by simp only[sG,Za]),(by simp only[sG,Za]),fun _=>(z5z hb zk0),hU.setOut id,hv2,hW2,hy.1⟩
     ·subst hk;have z1:((5:Int) == 1)=false:=rfl;have z2:((5:Int) == 2)=false:=rfl;have z3:((5:Int) == 3)=false:=rfl;have z4:((5:Int) == 4)=false:=rfl;have z5:((5:Int) == 5)=true:=rfl
      repeat' (first|refine EvC.seq ?_|(refine EvC.reg ?_;simp (config := { maxSteps := 2000000 }) (disch:=first|omega|rfl) only[sB,Za,ld3,z1f,za3,ld4,cl16,t10,t7',qx,z1,z2,z3,z4,z5])|(refine EvC.condT ?_ ?_;simp (config := { maxSteps := 2000000 }) (disch:=first|omega|rfl) only[sB,Za,z1];refine z02 ?_)|(refine EvC.condF ?_ ?_;simp (config := { maxSteps := 2000000 }) (disch:=first|omega|rfl) only[sB,Za,z1];refine z02 ?_))
      refine(zjt (peek:=pk) (hvK.foot K2.next) wK2 hid hIN.pos).mono ?_;rintro v G2 ⟨e,rfl,hy,he,hv2⟩;have hW2:=hWas.rows fun i cs T g a b=>hvK.keepRow wK2 hy g a b
      rcases he.b.two with ⟨-,rfl⟩|⟨hb,T,y,rfl⟩
      ·repeat' (first|(refine EvC.reg ?_;simp (config := { maxSteps := 2000000 }) (disch:=first|omega|rfl) only[sB,Za,z0w])|(refine z08 ?_;simp (config := { maxSteps := 2000000 }) (disch:=first|omega|rfl) only[sB,Za]))
       exact⟨_,_,(φ.readR id false pk cutC).2.2,false,_,_,_,_,rfl,(by simp only[sG,Za,t10]),(by simp only[sG,Za]),(by simp only[sG,Za]),(fun q=>nomatch q),hU.read id false pk zek,hv2,hW2,hy.1⟩
      ·repeat' (first|(refine EvC.reg ?_;simp (config := { maxSteps := 2000000 }) (disch:=first|omega|rfl) only[sB,Za,z2e])|(refine z08 ?_;simp (config := { maxSteps := 2000000 }) (disch:=first|omega|rfl) only[sB,Za]))
       exact⟨_,_,(φ.readR id false pk cutC).2.2,true,_,_,_,_,rfl,(by simp only[sG,Za,t10]),(by simp only[sG,Za]),(by simp only[sG,Za]),fun _=>(z5z hb zk1),hU.read id false pk zek,hv2,hW2,hy.1⟩
     ·subst hk;have z1:((6:Int) == 1)=false:=rfl;have z2:((6:Int) == 2)=false:=rfl;have z3:((6:Int) == 3)=false:=rfl;have z4:((6:Int) == 4)=false:=rfl;have z5:((6:Int) == 5)=false:=rfl;have z6:((6:Int) == 6)=true:=rfl
      repeat' (first|refine EvC.seq ?_|(refine EvC.reg ?_;simp (config := { maxSteps := 2000000 }) (disch:=first|omega|rfl) only[sB,Za,ld3,z1f,za3,ld4,cl17,t10,t7',qx,z1,z2,z3,z4,z5,z6])|(refine EvC.condT ?_ ?_;simp (config := { maxSteps := 2000000 }) (disch:=first|omega|rfl) only[sB,Za,z1];refine z02 ?_)|(refine EvC.condF ?_ ?_;simp (config := { maxSteps := 2000000 }) (disch:=first|omega|rfl) only[sB,Za,z1];refine z02 ?_))
      refine(zjm (peek:=pk) (hvK.foot K2.next) wK2 hid hIN.pos).mono ?_;rintro v G2 ⟨e,rfl,hy,he,hv2⟩;have hW2:=hWas.rows fun i cs T g a b=>hvK.keepRow wK2 hy g a b
      rcases he.b.two with ⟨-,rfl⟩|⟨hb,T,y,rfl⟩
      ·repeat' (first|(refine EvC.reg ?_;simp (config := { maxSteps := 2000000 }) (disch:=first|omega|rfl) only[sB,Za,z0w])|(refine z08 ?_;simp (config := { maxSteps := 2000000 }) (disch:=first|omega|rfl) only[sB,Za]))
       exact⟨_,_,(φ.readR id true pk cutB).2.2,false,_,_,_,_,rfl,(by simp only[sG,Za,t10]),(by simp only[sG,Za]),(by simp only[sG,Za]),(fun q=>nomatch q),hU.read id true pk zel,hv2,hW2,hy.1⟩
      ·repeat' (first|(refine EvC.reg ?_;simp (config := { maxSteps := 2000000 }) (disch:=first|omega|rfl) only[sB,Za,z2e])|(refine z08 ?_;simp (config := { maxSteps := 2000000 }) (disch:=first|omega|rfl) only[sB,Za]))
       exact⟨_,_,(φ.readR id true pk cutB).2.2,true,_,_,_,_,rfl,(by simp only[sG,Za,t10]),(by simp only[sG,Za]),(by simp only[sG,Za]),fun _=>(z5z hb zk1),hU.read id true pk zel,hv2,hW2,hy.1⟩
     ·subst hk;have z1:((8:Int) == 1)=false:=rfl;have z2:((8:Int) == 2)=false:=rfl;have z3:((8:Int) == 3)=false:=rfl;have z4:((8:Int) == 4)=false:=rfl;have z5:((8:Int) == 5)=false:=rfl;have z6:((8:Int) == 6)=false:=rfl;have z8:((8:Int) == 8)=true:=rfl
      repeat' (first|refine EvC.seq ?_|(refine EvC.reg ?_;simp (config := { maxSteps := 2000000 }) (disch:=first|omega|rfl) only[sB,Za,ld3,z4p,z1f,cl18,t10,t7',qx,z1,z2,z3,z4,z5,z6,z8])|(refine EvC.condT ?_ ?_;simp (config := { maxSteps := 2000000 }) (disch:=first|omega|rfl) only[sB,Za,z1];refine z02 ?_)|(refine EvC.condF ?_ ?_;simp (config := { maxSteps := 2000000 }) (disch:=first|omega|rfl) only[sB,Za,z1];refine z02 ?_))
      refine(zac (hvK.foot K2.next) wK2 hid).mono ?_;rintro e G2 ⟨hy,he,hv2⟩;have hW2:=hWas.rows fun i cs T g a b=>hvK.keepRow wK2 hy g a b
      rcases he.two with ⟨-,rfl⟩|⟨hb,T,y,rfl⟩
      ·repeat' (first|(refine z08 ?_;simp (config := { maxSteps := 2000000 }) (disch:=first|omega|rfl) only[sB,Za,z0w]))
       exact⟨_,_,(φ.advR id nn).2,false,_,_,_,_,rfl,(by simp only[sG,Za,t10]),(by simp only[sG,Za]),(by simp only[sG,Za]),(fun q=>nomatch q),hU.adv id nn,hv2,hW2,hy.1⟩
      ·repeat' (first|(refine z08 ?_;simp (config := { maxSteps := 2000000 }) (disch:=first|omega|rfl) only[sB,Za,z2e]))
       exact⟨_,_,(φ.advR id nn).2,true,_,_,_,_,rfl,(by simp only[sG,Za,t10]),(by simp only[sG,Za]),(by simp only[sG,Za]),fun _=>(zpw.resolve_left hb),hU.adv id nn,hv2,hW2,hy.1⟩
     ·subst hk;have z1:((9:Int) == 1)=false:=rfl;have z2:((9:Int) == 2)=false:=rfl;have z3:((9:Int) == 3)=false:=rfl;have z4:((9:Int) == 4)=false:=rfl;have z5:((9:Int) == 5)=false:=rfl;have z6:((9:Int) == 6)=false:=rfl;have z8:((9:Int) == 8)=false:=rfl;have z9:((9:Int) == 9)=true:=rfl
      repeat' (first|refine EvC.seq ?_|(refine EvC.reg ?_;simp (config := { maxSteps := 2000000 }) (disch:=first|omega|rfl) only[sB,Za,ld3,z7g,ld9,z1f,cl19,t10,t7',qx,z1,z2,z3,z4,z5,z6,z8,z9])|(refine EvC.condT ?_ ?_;simp (config := { maxSteps := 2000000 }) (disch:=first|omega|rfl) only[sB,Za,z1];refine z02 ?_)|(refine EvC.condF ?_ ?_;simp (config := { maxSteps := 2000000 }) (disch:=first|omega|rfl) only[sB,Za,z1];refine z02 ?_))
      refine(znk (hvK.foot K2.next) wK2 hid hwr.1 hwr.2 hnm (fun s hs=>hIN.fileD _) (by omega)).mono ?_;rintro e G2 ⟨hy,he,hv2⟩;have hW2:=hWas.rows fun i cs T g a b=>hvK.keepRow wK2 hy g a b
      rcases he.b.two with ⟨-,rfl⟩|⟨hb,T,y,rfl⟩
      ·repeat' (first|(refine z08 ?_;simp (config := { maxSteps := 2000000 }) (disch:=first|omega|rfl) only[sB,Za,z0w]))
       exact⟨_,_,(φ.putR id nm).2,false,_,_,_,_,rfl,(by simp only[sG,Za,t10]),(by simp only[sG,Za]),(by simp only[sG,Za]),(fun q=>nomatch q),hU.put id nm,hv2,hW2,hy.1⟩
      ·repeat' (first|(refine z08 ?_;simp (config := { maxSteps := 2000000 }) (disch:=first|omega|rfl) only[sB,Za,z2e]))
       exact⟨_,_,(φ.putR id nm).2,true,_,_,_,_,rfl,(by simp only[sG,Za,t10]),(by simp only[sG,Za]),(by simp only[sG,Za]),fun _=>(z5z hb zpx),hU.put id nm,hv2,hW2,hy.1⟩
     ·subst hk;have z1:((10:Int) == 1)=false:=rfl;have z2:((10:Int) == 2)=false:=rfl;have z3:((10:Int) == 3)=false:=rfl;have z4:((10:Int) == 4)=false:=rfl;have z5:((10:Int) == 5)=false:=rfl;have z6:((10:Int) == 6)=false:=rfl;have z8:((10:Int) == 8)=false:=rfl;have z9:((10:Int) == 9)=false:=rfl;have z10:((10:Int) == 10)=true:=rfl
      repeat' (first|refine EvC.seq ?_|(refine EvC.reg ?_;simp (config := { maxSteps := 2000000 }) (disch:=first|omega|rfl) only[sB,Za,ld3,z4p,z1f,cl20,t10,t7',qx,z1,z2,z3,z4,z5,z6,z8,z9,z10])|(refine EvC.condT ?_ ?_;simp (config := { maxSteps := 2000000 }) (disch:=first|omega|rfl) only[sB,Za,z1];refine z02 ?_)|(refine EvC.condF ?_ ?_;simp (config := { maxSteps := 2000000 }) (disch:=first|omega|rfl) only[sB,Za,z1];refine z02 ?_))
      refine(zad (hvK.foot K2.next) wK2 hid hwr.1 hwr.2 (fun s hs=>hIN.fileD _) (by omega)).mono ?_;rintro e G2 ⟨hy,he,hv2⟩;have hW2:=hWas.rows fun i cs T g a b=>hvK.keepRow wK2 hy g a b
      rcases he.two with ⟨-,rfl⟩|⟨hb,T,y,rfl⟩
      ·repeat' (first|(refine z08 ?_;simp (config := { maxSteps := 2000000 }) (disch:=first|omega|rfl) only[sB,Za,z0w]))
       exact⟨_,_,(φ.putByteR id nn).2,false,_,_,_,_,rfl,(by simp only[sG,Za,t10]),(by simp only[sG,Za]),(by simp only[sG,Za]),(fun q=>nomatch q),hU.putByte id nn,hv2,hW2,hy.1⟩
      ·repeat' (first|(refine z08 ?_;simp (config := { maxSteps := 2000000 }) (disch:=first|omega|rfl) only[sB,Za,z2e]))
       exact⟨_,_,(φ.putByteR id nn).2,true,_,_,_,_,rfl,(by simp only[sG,Za,t10]),(by simp only[sG,Za]),(by simp only[sG,Za]),fun _=>(zhn.resolve_left hb),hU.putByte id nn,hv2,hW2,hy.1⟩
     ·subst hk;have z1:((11:Int) == 1)=false:=rfl;have z2:((11:Int) == 2)=false:=rfl;have z3:((11:Int) == 3)=false:=rfl;have z4:((11:Int) == 4)=false:=rfl;have z5:((11:Int) == 5)=false:=rfl;have z6:((11:Int) == 6)=false:=rfl;have z8:((11:Int) == 8)=false:=rfl;have z9:((11:Int) == 9)=false:=rfl;have z10:((11:Int) == 10)=false:=rfl;have z11:((11:Int) == 11)=true:=rfl
      repeat' (first|refine EvC.seq ?_|(refine EvC.reg ?_;simp (config := { maxSteps := 2000000 }) (disch:=first|omega|rfl) only[sB,Za,ld3,z4p,z1f,cl21,t10,t7',qx,z1,z2,z3,z4,z5,z6,z8,z9,z10,z11])|(refine EvC.condT ?_ ?_;simp (config := { maxSteps := 2000000 }) (disch:=first|omega|rfl) only[sB,Za,z1];refine z02 ?_)|(refine EvC.condF ?_ ?_;simp (config := { maxSteps := 2000000 }) (disch:=first|omega|rfl) only[sB,Za,z1];refine z02 ?_))
      refine(zjn (hvK.foot K2.next) wK2 hid hnn).mono ?_;rintro e G2 ⟨hy,he,hv2⟩;have hW2:=hWas.rows fun i cs T g a b=>hvK.keepRow wK2 hy g a b
      rcases he.b.two with ⟨-,rfl⟩|⟨hb,T,y,rfl⟩
      ·repeat' (first|(refine z08 ?_;simp (config := { maxSteps := 2000000 }) (disch:=first|omega|rfl) only[sB,Za,z0w]))
       exact⟨_,_,(φ.seekR id nn).2,false,_,_,_,_,rfl,(by simp only[sG,Za,t10]),(by simp only[sG,Za]),(by simp only[sG,Za]),(fun q=>nomatch q),hU.seek id nn,hv2,hW2,hy.1⟩
      ·repeat' (first|(refine z08 ?_;simp (config := { maxSteps := 2000000 }) (disch:=first|omega|rfl) only[sB,Za,z2e]))
       exact⟨_,_,(φ.seekR id nn).2,true,_,_,_,_,rfl,(by simp only[sG,Za,t10]),(by simp only[sG,Za]),(by simp only[sG,Za]),fun _=>(z5z hb zoh),hU.seek id nn,hv2,hW2,hy.1⟩
     ·have z1:(kd == 1)=false:=z0r (by omega);have z2:(kd == 2)=false:=z0r (by omega);have z3:(kd == 3)=false:=z0r (by omega);have z4:(kd == 4)=false:=z0r (by omega);have z5:(kd == 5)=false:=z0r (by omega);have z6:(kd == 6)=false:=z0r (by omega);have z8:(kd == 8)=false:=z0r (by omega);have z9:(kd == 9)=false:=z0r (by omega);have z10:(kd == 10)=false:=z0r (by omega);have z11:(kd == 11)=false:=z0r (by omega)
      repeat' (first|refine EvC.seq ?_|(refine EvC.skip ?_;try simp only[z00])|(refine EvC.reg ?_;simp (config := { maxSteps := 2000000 }) (disch:=first|omega|rfl) only[sB,Za,z1,z2,z3,z4,z5,z6,z8,z9,z10,z11])|(refine EvC.condF ?_ ?_;simp (config := { maxSteps := 2000000 }) (disch:=first|omega|rfl) only[sB,Za,z1];refine z02 ?_))
      exact⟨_,_,φ,false,_,_,_,_,rfl,(by simp only[sG,Za,t10]),(by simp only[sG,Za]),(by simp only[sG,Za]),(fun q=>nomatch q),hU,hvK,hWas,wK2⟩
    ·rintro st ⟨tm,G,φ',rb,B,fb,ob,blk,rfl,t10,t15,t16,hrb,hI',hv',hW',wG'⟩;simp only[z0h,z00]
     repeat' (first|refine EvC.seq ?_|(refine EvC.reg ?_;simp (config := { maxSteps := 2000000 }) (disch:=first|omega|rfl) only[sB,dAlloc,Za,cl11,zr44,t10]))
     refine(zdb hv' wG' hI' (by omega)).mono ?_;rintro v M1 ⟨hxM,u2,q2,rfl,hOT2,hOF2⟩;obtain⟨ma,mc,hme,-⟩:=hOT2.sl z3h;subst hme;obtain⟨na,nc,hne,-⟩:=hOF2.sl;subst hne;have wM:=hxM.wf;obtain⟨M2,eM,hxM2,gM,nM,wM2⟩:=z18 wM (.row heldZ 44) (.row (heldRow (.slice ma φ'.tells.length mc) (.slice na φ'.sorted.length nc) φ') 44);cases rb with
     |false =>
      repeat' (first|refine EvC.seq ?_|(refine EvC.ret ?_)|(refine EvC.reg ?_;simp (config := { maxSteps := 2000000 }) (disch:=first|omega|rfl) only[sB,Za,t16,Zm])|(refine z08 ?_;simp (config := { maxSteps := 2000000 }) (disch:=first|omega|rfl) only[sB,Zb,one,st44,eM]))
      exact z06 rfl (by simp only[sG,Za]) rfl
     |true =>
      obtain rfl:=hrb rfl;have hW2:=(hW'.keep hxM wG').keep hxM2 wM;have ld1:=row5 hW2.row;have ld2:=row5 gM
      repeat' (first|refine EvC.seq ?_|(refine EvC.reg ?_;simp (config := { maxSteps := 2000000 }) (disch:=first|omega|rfl) only[sB,Za,ld44,cl22,t16,t15,ld1,ld2,Zn,Zc])|(refine z08 ?_;simp (config := { maxSteps := 2000000 }) (disch:=first|omega|rfl) only[sB,Zb,one,st44,eM]))
      refine(zme wM2 hI' hW2.t hW2.f (hOT2.keep hxM2 wM) (hOF2.keep hxM2 wM)).mono ?_;rintro v M3 ⟨rfl,-⟩
      repeat' (first|(refine EvC.ret ?_))
      exact z06 rfl (by simp only[sG,Za]) rfl
  ·exact⟨_,_,0,fs0 L u,rfl,rfl,by omega,(by simp only[sG,Za,reduceCtorEq]),(by simp only[sG,Za,reduceCtorEq]),(by simp only[sG,Za,reduceCtorEq]),(by simp only[sG,Za,reduceCtorEq]),(by simp only[sB,Za,reduceCtorEq];rfl),hT,hI⟩
 ·rcases hv1 with ⟨-,rfl⟩|⟨h0,-⟩
  ·repeat' (first|refine EvC.seq ?_|(refine EvC.reg ?_;simp (config := { maxSteps := 2000000 }) (disch:=first|omega|rfl) only[sB,Za,reduceCtorEq,cl8])|(refine z08 ?_;simp (config := { maxSteps := 2000000 }) (disch:=first|omega|rfl) only[sB,Za,reduceCtorEq]))
   refine(zgr ((hR.keep hxA hw).keep hx1 w1) w2).mono ?_;rintro v H2 ⟨hx2,hv2⟩;rcases hv2 with ⟨-,rfl⟩|⟨h0,-⟩
   ·have z0:(newE L u != 0)=true:=z3i hE
    repeat' (first|refine EvC.seq ?_|(refine EvC.skip ?_;try simp only[z00])|(refine EvC.ret ?_;try simp only[z05,z03])|(refine EvC.reg ?_;simp (config := { maxSteps := 2000000 }) (disch:=first|omega|rfl) only[sB,Za,reduceCtorEq,z0,zq9,zqa,zqb,Zc,Zn])|(refine z08 ?_;simp (config := { maxSteps := 2000000 }) (disch:=first|omega|rfl) only[sB,Za,reduceCtorEq])|(refine EvC.condT ?_ ?_;simp (config := { maxSteps := 2000000 }) (disch:=first|omega|rfl) only[sB,Za,reduceCtorEq];refine z02 ?_)|(refine EvC.condF ?_ ?_;simp (config := { maxSteps := 2000000 }) (disch:=first|omega|rfl) only[sB,Za,reduceCtorEq];refine z02 ?_))
    exact z06 rfl (by simp only[sG,Za,reduceCtorEq]) rfl
   ·exact absurd h0 hE
  ·exact absurd h0 hE
end Go.Proofs.hq
end

section
namespace Go.Hb
open Go Go.RowKit
section
variable {P:Program}
def okVal (mask:Nat) (fv:FuncId):Ok:=⟨mask,fun f args H=>if f=fv then (match args with|[.string s]=>if s.size≤9223372036854775807 then some (.ret (.bool (Lib.validD s.data.toList)),H) else none|_=>none) else none⟩
theorem zkr {N mask:Nat}{w0:World}{fv:FuncId}(hok:((Zj P.funcs.size).all fun f=>!mask.testBit f || okFn P f)=true)
  (hv:∀(s:ByteArray) w,s.size≤9223372036854775807→Below N w0 w→Calls P fv #[.string s] w fun e w'=>e=.returned (.bool (Lib.validD s.data.toList))∧Below w.heap.size w w'):OkFns P N w0 (okVal mask fv):=by
 refine⟨z6s hok,fun τ f args args' H en H' w σ _ hk hl hH _=>?_⟩;simp only[okVal] at hk;split at hk
 ·rename_i hf;subst hf;split at hk
  ·rename_i s;split at hk
   ·rename_i hs;cases hk;have hlen:args'.size=1:=by have:=hl.1;simpa using this.symm
    obtain⟨v,rfl⟩:∃v,args'=#[v]:=by
     match args',hlen with
     |⟨[v]⟩,_=>exact⟨v,rfl⟩
    have hvr:=hl.2 0 (.string s) v rfl rfl;rw[VR.flat_eq hvr rfl];exact zcq rfl (hv s w hs hH.below) hH
   ·cases hk
  ·cases hk
 ·cases hk
theorem zem {ok:Ok}{n nx:Nat}{f:FuncId}{args:List Value}{args':Array Value}{τ:Nat→Value}(hτ:∀j,(τ j).oneCell'=true) (hm:P.follows .mixedOrders=true) (W:World)
  (hOK:OkFns P W.heap.size W ok) (hnx:P.globals.size≤nx) (hrun:retTrue (dcall P ok n f args ⟨nx,.nil⟩)=true) (hl:LR (sig0 nx) τ args args'.toList) :
  Calls P f args' W fun e W'=>e=.returned (.bool true)∧Below W.heap.size W W':=by
 obtain⟨H',h⟩:=zdy hrun;refine(z7d hτ hm hOK h hl (HR.start nx W) (GR.start hnx)).mono fun e w' he=>?_
 obtain⟨σ',hen,hH,_⟩:=he;cases e with
 |returned v'=>exact⟨by rw[show v'=.bool true from VR.flat_eq hen rfl],hH.below⟩
 |panicked _=>exact hen.elim
 |outgrown=>exact hen.elim
end
end Go.Hb
end

section
namespace Go.Hb
open Go Go.RowKit
section
variable {H:Type}{enc:TypeId × Value→H}{P:Program}{W:World}{sp:Nat→Bool}{fuel:Nat}{t e:TypeId}{cs:List Value}{d:DataW H}{ps:List MemPlace}
theorem z47 {k:IntKind}(ht:P.underlying t=some (.int k)) (h:DataW.trod enc P W 0 sp true fuel t cs=some (d,ps)):∃n,cs=[.int k n]∧(Lit.int k n).wf=true:=by
 cases fuel with
 |zero=>simp [DataW.trod] at h
 |succ m =>
  unfold DataW.trod at h;rw[ht] at h;split at h<;>simp_all
theorem trod_slice (ht:P.underlying t=some (.slice e)) (h:DataW.trod enc P W 0 sp true fuel t cs=some (d,ps)) :
  cs=[.slice none 0 0]∨∃a len cap m,fuel=m+1∧cs=[.slice (some a) len cap]∧len≤cap∧cap≤maxLen ∧
   ∀i,i < len→∃es d' ps',W.cells? 0 (a.add (i*P.cellsOf e)) (P.cellsOf e)=some es∧DataW.trod enc P W 0 sp true m e es=some (d',ps'):=by
 cases fuel with
 |zero=>simp [DataW.trod] at h
 |succ m =>
  unfold DataW.trod at h;rw[ht] at h;split at h<;>simp_all
  obtain⟨⟨hl,hc⟩,h⟩:=h;simp only[Option.bind_eq_some_iff,Option.map_eq_some_iff] at h;obtain⟨elems,he,_⟩:=h;refine⟨_,_,_,⟨rfl,rfl,rfl⟩,hl,hc,fun i hi=>?_⟩;have hlen:=mapM_some_length he;have:=mapM_some_get he i i (by simp [hi]);rw[Zd (by rw[hlen];simpa using hi)] at this;simp only[Option.bind_eq_some_iff] at this;obtain⟨es,h1,h2⟩:=this;exact⟨es,h1,_,_,h2⟩
theorem zp3 (a:Addr) (i:Nat):(a.add i).block=a.block:=by unfold Addr.add;split<;>rfl
theorem zde {a:Addr}{s i:Nat}{es:List Value}(hs:0 < s) (h:W.cells? 0 (a.add (i*s)) s=some es) (hsp:a.spot=none):(heapW P W).load ⟨a.block,a.off+i*s,none⟩ s=some (es.map (ab P W))∧es.length=s∧a.block < W.heap.size:=by
 obtain⟨_,hl,hc⟩:=World.cells?_some h;obtain⟨b,o,sp⟩:=a;obtain rfl:sp=none:=hsp;have hb:=World.cells?_block h hs;rw[zp3] at hb;refine⟨zhb hs hl fun j v hj=>?_,hl,hb⟩;have hjl:j < es.length:=(List.getElem?_eq_some_iff.1 hj).1;have:=hc j (by omega);rw[add0,add0] at this;rw[this];exact hj
theorem zhy {a:Addr}{s:Nat}{es:List Value}(hs:0 < s) (h:W.cells? 0 (a.add (0*s)) s=some es):a.spot=none:=by
 obtain⟨_,hl,hc⟩:=World.cells?_some h;have e0:∀a:Addr,a.add 0=a:=fun a=>by unfold Addr.add;simp
 have:=hc 0 hs;rw[Nat.zero_mul,e0,e0,Zd (by omega)] at this;unfold World.cell? at this;split at this
 ·split at this
  ·cases this
  ·rename_i hn;simpa using hn
 ·cases this
end
section
variable {H:Type}{enc:TypeId × Value→H}{P:Program}{W:World}{sp:Nat→Bool}
structure TermTypes (P:Program) (tT tS tI tG tU:TypeId):Prop where
 fields:∃fs:Array Field,P.underlying tT=some (.struct fs)∧(fs.toList.map fun f=>(f.offset,f.type))=[(0,tI),(1,tG),(2,tG),(3,tU),(4,tI),(5,tS)]
 slice:P.underlying tS=some (.slice tT)
 int:P.underlying tI=some (.int .i64)
 str:P.underlying tG=some .string
 u64:P.underlying tU=some (.int .u64)
 cT:P.cellsOf tT=6
 cS:P.cellsOf tS=1
 cI:P.cellsOf tI=1
 cG:P.cellsOf tG=1
 cU:P.cellsOf tU=1
theorem zgs {n:Int}(h:(Lit.int .i64 n).wf=true):i64 n:=by
 unfold i64;unfold Lit.wf at h;simp [IntKind.min,IntKind.max,IntKind.bits,IntKind.signed] at h;exact h
end
end Go.Hb
end

section
namespace Go.Hb
open Go Go.RowKit
theorem zks:∀{l:List Nat}{a:Nat},a∈l→a≤l.sum
 |b :: l,a,h=>by
  rw[List.sum_cons];rcases List.mem_cons.1 h with rfl|h
  ·omega
  ·have:=zks h;omega
section
variable {H:Type}{enc:TypeId × Value→H}{P:Program}{W:World}{sp:Nat→Bool}
theorem z2d {fuel:Nat}{t:TypeId}{cs:List Value}{d:DataW H}{ps:List MemPlace}(ht:P.underlying t=some .string) (h:DataW.trod enc P W 0 sp true fuel t cs=some (d,ps)):∃s:ByteArray,cs=[.string s]∧s.size≤maxLen∧d=.lit (.string s.data.toList):=by
 cases fuel with
 |zero=>simp [DataW.trod] at h
 |succ m =>
  unfold DataW.trod at h;rw[ht] at h;split at h<;>simp_all
end
end Go.Hb
end

section
namespace Go.Hb
open Go Go.RowKit
section
variable {H:Type}{enc:TypeId × Value→H}{P:Program}{W:World}{sp:Nat→Bool}
theorem z9g {fuel:Nat}{t:TypeId}{cs:List Value}{d:DataW H}{ps:List MemPlace}{fs:Array Field}(ht:P.underlying t=some (.struct fs)) (h:DataW.trod enc P W 0 sp true fuel t cs=some (d,ps)) :
  ∃(m:Nat) (xs:List (DataW H × List MemPlace)),fuel=m+1∧cs.length=P.cellsOf t∧d=.agg (xs.map (·.1))∧∀(i:Nat) (f:Field),fs[i]?=some f→∃x,xs[i]?=some x∧DataW.trod enc P W 0 sp true m f.type ((cs.drop f.offset).take (P.cellsOf f.type))=some x:=by
 cases fuel with
 |zero=>simp [DataW.trod] at h
 |succ m =>
  unfold DataW.trod at h;rw[ht] at h;have h':(if cs.length=P.cellsOf t then (fs.toList.mapM fun f=>DataW.trod enc P W 0 sp true m f.type ((cs.drop f.offset).take (P.cellsOf f.type))).map fun xs=>(DataW.agg (xs.map (·.1)),xs.flatMap (·.2)) else none)=some (d,ps):=by
   split at h<;>first|exact h|simp_all
  split at h'
  ·rename_i hl;rw[Option.map_eq_some_iff] at h';obtain⟨xs,hx,he⟩:=h';cases he;refine⟨m,xs,rfl,hl,rfl,fun i f hf=>?_⟩;have hlen:=mapM_some_length hx;have:=mapM_some_get hx i f (by simpa using hf);have hi:=(Array.getElem?_eq_some_iff.1 hf).1;have hix:i < xs.length:=by rw[hlen];simpa using hi
   rw[Zd hix] at this;exact⟨xs[i],Zd hix,this⟩
  ·cases h'
theorem fldA {m:Nat}{cs:List Value}{xs:List (DataW H × List MemPlace)}{fs:Array Field}{L:List (Nat × TypeId)}(hfs:(fs.toList.map fun f=>(f.offset,f.type))=L)
  (hall:∀(i:Nat) (f:Field),fs[i]?=some f→∃x,xs[i]?=some x∧DataW.trod enc P W 0 sp true m f.type ((cs.drop f.offset).take (P.cellsOf f.type))=some x) (i o:Nat) (u:TypeId) (hi:L[i]?=some (o,u)) :
  ∃x,xs[i]?=some x∧DataW.trod enc P W 0 sp true m u ((cs.drop o).take (P.cellsOf u))=some x:=by
 rw[←hfs,Zr,Option.map_eq_some_iff] at hi;obtain⟨f,hf1,hf2⟩:=hi;obtain⟨x,hx,hd⟩:=hall i f (by simpa using hf1);cases hf2;exact⟨x,hx,hd⟩
theorem z38 {fuel:Nat}{t:TypeId}{cs:List Value}{d:DataW H}{ps:List MemPlace}(ht:P.underlying t=some .bool) (h:DataW.trod enc P W 0 sp true fuel t cs=some (d,ps)):∃b:Bool,cs=[.bool b]:=by
 cases fuel with
 |zero=>simp [DataW.trod] at h
 |succ m =>
  unfold DataW.trod at h;rw[ht] at h;split at h<;>simp_all
theorem zgt {α:Type}{tS tE:TypeId}{K:Nat}{row:α→List Value}{G:α→Nat→Prop}(hG:∀x m n,m≤n→G x m→G x n) (hS:P.underlying tS=some (.slice tE)) (hc:P.cellsOf tE=K) (hK:0 < K) {w:DataW H→Nat}(hws:∀es rest,(es.map w).sum≤w (.slice es rest))
  (hE:∀fuel es d ps,DataW.trod enc P W 0 sp true fuel tE es=some (d,ps)→∃x:α,es.map (ab P W)=row x∧G x (w d)) (z:α)
  {v:Value}{fuel:Nat}{d:DataW H}{ps:List MemPlace}(h:DataW.trod enc P W 0 sp true fuel tS v.cells.toList=some (d,ps)) (hv:∀cs,v≠.agg cs) :
  ∃(L:List α) (a:Option Addr) (c:Nat),abV P W v=.slice a L.length c∧L.length≤c∧c≤maxLen∧(∀(i:Nat) (hi:i < L.length),∃b o,a=some ⟨b,o,none⟩∧(heapW P W).load ⟨b,o+i*K,none⟩ K=some (row L[i]))∧∀x∈L,G x (w d):=by
 have hcv:v.cells.toList=[v]:=by
  unfold Value.cells;split
  ·rename_i cs;exact absurd rfl (hv cs)
  ·rfl
 rw[hcv] at h;have hab:abV P W v=ab P W v:=by
  unfold abV;split
  ·rename_i cs;exact absurd rfl (hv _)
  ·rfl
 rw[hab];rcases DataW.trod_slice hS h with ⟨h1,-⟩|⟨a,len,cap,elems,rest,n,rfl,he,hx,-,hl,hm,rfl,hel,-⟩
 ·cases h1;exact⟨[],none,0,rfl,Ze _,Zz _,fun i hi=>by simp at hi,fun p hp=>by simp at hp⟩
 ·cases he;cases hx;rw[hc] at hel;have hl':elems.length≤cap:=hl;have hget:∀i x,elems[i]?=some x→∃es,W.cells? 0 (a.add (i*K)) K=some es∧DataW.trod enc P W 0 sp true n tE es=some x:=fun i x hx=>by
   have hi:=(List.getElem?_eq_some_iff.1 hx).1;have:=hel i hi;rw[hx,Option.bind_eq_some_iff] at this;exact this
  have key:∀i,∃s:α,i < elems.length→a.spot=none→(heapW P W).load ⟨a.block,a.off+i*K,none⟩ K=some (row s)∧G s (w (.slice (elems.map (·.1)) (rest.map (·.1)))):=fun i=>by
   by_cases hi:i < elems.length
   ·obtain⟨es,h1,h2⟩:=hget i elems[i] (Zd hi);obtain⟨s,h0,h3⟩:=hE _ _ elems[i].1 elems[i].2 h2;refine⟨s,fun _ hsp=>⟨?_,?_⟩⟩
    ·have:=(zde (P:=P) hK h1 hsp).1;rw[h0] at this;exact this
    ·have h4:=hws (elems.map (·.1)) (rest.map (·.1));have h5:w elems[i].1≤((elems.map (·.1)).map w).sum:=zks (List.mem_map.2 ⟨elems[i].1,List.mem_map.2 ⟨elems[i],ZE hi,rfl⟩,rfl⟩);exact hG _ _ _ (by omega) h3
   ·exact⟨z,fun h=>absurd h hi⟩
  obtain⟨f,hf⟩:=Classical.axiomOfChoice key;have hlen:((Zj elems.length).map f).length=elems.length:=by simp
  by_cases hn:0 < elems.length
  ·obtain⟨es0,h1,-⟩:=hget 0 elems[0] (Zd hn);have hsp:a.spot=none:=zhy hK h1;have hbl:a.block < W.heap.size:=(zde (P:=P) hK h1 hsp).2.2;have hab2:ab P W (.slice (some a) elems.length cap)=.slice (some a) ((Zj elems.length).map f).length cap:=by
    unfold ab;rw[hlen];simp only;rw[if_pos ⟨hl',hm⟩,if_pos ⟨hsp,hbl⟩]
   refine⟨(Zj elems.length).map f,some a,cap,hab2,by rw[hlen];exact hl',hm,fun i hi=>⟨a.block,a.off,?_,?_⟩,fun p hp=>?_⟩
   ·obtain⟨b,o,sp⟩:=a;obtain rfl:sp=none:=hsp;rfl
   ·rw[hlen] at hi;rw[(hf i hi hsp).1];simp
   ·obtain⟨i,hi,rfl⟩:=List.mem_map.1 hp;exact(hf i (List.mem_range.1 hi) hsp).2
  ·have hn0:elems.length=0:=by omega
   obtain⟨a',hab2⟩:∃a',ab P W (.slice (some a) elems.length cap)=.slice (some a') 0 cap:=by
    rw[hn0] at hl' ⊢;unfold ab;simp only;rw[if_pos ⟨hl',hm⟩];split
    ·exact⟨_,rfl⟩
    ·exact⟨_,rfl⟩
   exact⟨[],some a',cap,hab2,Zz _,hm,fun i hi=>by simp at hi,fun p hp=>by simp at hp⟩
end
end Go.Hb
namespace Go.Proofs.hq
open Go Go.RowKit Go.Hb
section
variable {H:Type}{enc:TypeId × Value→H}{P:Program}{W:World}{sp:Nat→Bool}
theorem zkt {tS tE tG:TypeId}{fs:Array Field}(hS:P.underlying tS=some (.slice tE)) (hf:P.underlying tE=some (.struct fs)) (hfs:(fs.toList.map fun f=>(f.offset,f.type))=[(0,tG),(1,tG)]) (hc:P.cellsOf tE=2) (hg:P.underlying tG=some .string) (hcg:P.cellsOf tG=1)
  {w:DataW H→Nat}(hws:∀es rest,(es.map w).sum≤w (.slice es rest)) {v:Value}{fuel:Nat}{d:DataW H}{ps:List MemPlace}(h:DataW.trod enc P W 0 sp true fuel tS v.cells.toList=some (d,ps)) (hv:∀cs,v≠.agg cs) :
  ∃L a c,abV P W v=.slice a L.length c∧RdF (heapW P W) L a c:=by
 obtain⟨L,a,c,h1,h2,h3,h4,-⟩:=zgt (α:=ByteArray × ByteArray) (row:=fun x=>[.string x.1,.string x.2]) (G:=fun _ _=>True) (fun _ _ _ _ _=>trivial) hS hc (by omega) hws (fun fuel es d ps ht=>by
  obtain⟨m,xs,rfl,hl,rfl,hall⟩:=z9g hf ht;rw[hc] at hl;have fld:=fldA hfs hall;obtain⟨⟨d0,p0⟩,x0,t0⟩:=fld 0 0 tG rfl;obtain⟨⟨d1,p1⟩,x1,t1⟩:=fld 1 1 tG rfl;rw[hcg] at t0 t1;obtain⟨a,ha,-⟩:=z2d hg t0;obtain⟨b,hb,-⟩:=z2d hg t1
  match es,hl with
  |[u,v],_ =>
   simp only[List.drop_zero,List.drop_succ_cons,List.take_succ_cons,List.take_zero] at ha hb;cases ha;cases hb;exact⟨(a,b),rfl,trivial⟩) (Zg,Zg) h hv
 exact⟨L,a,c,h1,h2,h3,h4⟩
structure CalG (c:Cal) (n:Nat):Prop where
 id:i64 c.id
 nn:i64 c.nn
 nm:c.nm.size≤n
 al:c.al.size≤n
theorem zap {w:DataW H→Nat}{xs:List (DataW H × List MemPlace)}{i:Nat}{x:DataW H × List MemPlace}(h:xs[i]?=some x):w x.1≤((xs.map (·.1)).map w).sum:=zks (List.mem_map.2 ⟨x.1,List.mem_map.2 ⟨x,List.mem_of_getElem? h,rfl⟩,rfl⟩)
theorem zku {tS tE tG tI tO tB:TypeId}{fs gs:Array Field}(hS:P.underlying tS=some (.slice tE)) (hf:P.underlying tE=some (.struct fs)) (hfs:(fs.toList.map fun f=>(f.offset,f.type))=[(0,tI),(1,tI),(2,tI),(3,tG),(4,tO),(8,tB)])
  (ho:P.underlying tO=some (.struct gs)) (hgs:(gs.toList.map fun f=>(f.offset,f.type))=[(0,tB),(1,tG),(2,tI),(3,tB)])
  (hc:P.cellsOf tE=9) (hcO:P.cellsOf tO=4) (hg:P.underlying tG=some .string) (hcg:P.cellsOf tG=1) (hi:P.underlying tI=some (.int .i64)) (hci:P.cellsOf tI=1) (hb:P.underlying tB=some .bool) (hcb:P.cellsOf tB=1)
  {w:DataW H→Nat}(hws:∀es rest,(es.map w).sum≤w (.slice es rest)) (hwa:∀es,(es.map w).sum≤w (.agg es)) (hwl:∀b,b.length≤w (.lit (.string b)))
  {v:Value}{fuel:Nat}{d:DataW H}{ps:List MemPlace}(h:DataW.trod enc P W 0 sp true fuel tS v.cells.toList=some (d,ps)) (hv:∀cs,v≠.agg cs) :
  ∃L a c,abV P W v=.slice a L.length c∧RdC (heapW P W) L a c∧∀x∈L,CalG x (w d):=by
 obtain⟨L,a,c,h1,h2,h3,h4,h5⟩:=zgt (α:=Cal) (row:=fun x=>x.row) (G:=CalG) (fun x m n hmn g=>⟨g.id,g.nn,ZA g.nm hmn,ZA g.al hmn⟩) hS hc (by omega) hws (fun fuel es d ps ht=>by
  obtain⟨m,xs,rfl,hl,rfl,hall⟩:=z9g hf ht;rw[hc] at hl;have fld:=fldA hfs hall;obtain⟨⟨d0,p0⟩,x0,t0⟩:=fld 0 0 tI rfl;obtain⟨⟨d1,p1⟩,x1,t1⟩:=fld 1 1 tI rfl;obtain⟨⟨d2,p2⟩,x2,t2⟩:=fld 2 2 tI rfl;obtain⟨⟨d3,p3⟩,x3,t3⟩:=fld 3 3 tG rfl;obtain⟨⟨d4,p4⟩,x4,t4⟩:=fld 4 4 tO rfl;obtain⟨⟨d5,p5⟩,x5,t5⟩:=fld 5 8 tB rfl;rw[hci] at t0 t1 t2;rw[hcg] at t3;rw[hcO] at t4;rw[hcb] at t5;obtain⟨kd,e0,-⟩:=z47 hi t0;obtain⟨id,e1,w1⟩:=z47 hi t1;obtain⟨nn,e2,w2⟩:=z47 hi t2;obtain⟨nm,e3,-,hd3⟩:=z2d hg t3;obtain⟨pk,e5⟩:=z38 hb t5;obtain⟨m',ys,rfl,hl4,rfl,hall4⟩:=z9g ho t4;have fld4:=fldA hgs hall4;obtain⟨⟨q0,r0⟩,y0,s0⟩:=fld4 0 0 tB rfl;obtain⟨⟨q1,r1⟩,y1,s1⟩:=fld4 1 1 tG rfl;obtain⟨⟨q2,r2⟩,y2,s2⟩:=fld4 2 2 tI rfl;obtain⟨⟨q3,r3⟩,y3,s3⟩:=fld4 3 3 tB rfl;rw[hcb] at s0 s3;rw[hcg] at s1;rw[hci] at s2;obtain⟨bin,f0⟩:=z38 hb s0;obtain⟨al,f1,-,hq1⟩:=z2d hg s1;obtain⟨eof,f2,-⟩:=z47 hi s2;obtain⟨rep,f3⟩:=z38 hb s3;have n3:=zap (w:=w) x3;have n4:=zap (w:=w) x4;have n1:=zap (w:=w) y1;have b1:=hwa (xs.map (·.1));have b2:=hwa (ys.map (·.1));have l3:=hwl nm.data.toList;have l1:=hwl al.data.toList;have z3:nm.data.toList.length=nm.size:=by simp
  have z1:al.data.toList.length=al.size:=by simp
  simp only at n3 n4 n1;rw[hd3] at n3;rw[hq1] at n1
  match es,hl with
  |[u0,u1,u2,u3,u4,u5,u6,u7,u8],_ =>
   simp only[List.drop_zero,List.drop_succ_cons,List.take_succ_cons,List.take_zero] at e0 e1 e2 e3 e5 f0 f1 f2 f3;cases e0;cases e1;cases e2;cases e3;cases e5;cases f0;cases f1;cases f2;cases f3;exact⟨⟨kd,id,nn,nm,bin,al,eof,rep,pk⟩,rfl,⟨zgs w1,zgs w2,by show nm.size≤_;omega,by show al.size≤_;omega⟩⟩) ⟨0,0,0,Zg,false,Zg,0,false,false⟩ h hv
 exact⟨L,a,c,h1,⟨h2,h3,h4⟩,h5⟩
end
end Go.Proofs.hq
end

section
namespace Go.Proofs.hq
open Go Go.RowKit Go.Hb
section
variable {H:Type}{enc:TypeId × Value→H}{P:Program}{W:World}{sp:Nat→Bool}
theorem zmm {tE tG tI tO tB:TypeId}{fs gs:Array Field}(hf:P.underlying tE=some (.struct fs)) (hfs:(fs.toList.map fun f=>(f.offset,f.type))=[(0,tI),(1,tI),(2,tI),(3,tG),(4,tO),(8,tB)])
  (ho:P.underlying tO=some (.struct gs)) (hgs:(gs.toList.map fun f=>(f.offset,f.type))=[(0,tB),(1,tG),(2,tI),(3,tB)])
  (hc:P.cellsOf tE=9) (hcO:P.cellsOf tO=4) (hg:P.underlying tG=some .string) (hcg:P.cellsOf tG=1) (hi:P.underlying tI=some (.int .i64)) (hci:P.cellsOf tI=1) (hb:P.underlying tB=some .bool) (hcb:P.cellsOf tB=1)
  {w:DataW H→Nat}(hwa:∀es,(es.map w).sum≤w (.agg es)) (hwl:∀b,b.length≤w (.lit (.string b)))
  {es:List Value}{fuel:Nat}{d:DataW H}{ps:List MemPlace}(ht:DataW.trod enc P W 0 sp true fuel tE es=some (d,ps)) :
  ∃x:Cal,abV P W (.agg ⟨es⟩)=.agg ⟨x.row⟩∧CalG x (w d):=by
 have key:∃x:Cal,es.map (ab P W)=x.row∧CalG x (w d):=by
  obtain⟨m,xs,rfl,hl,rfl,hall⟩:=z9g hf ht;rw[hc] at hl;have fld:=fldA hfs hall;obtain⟨⟨d0,p0⟩,x0,t0⟩:=fld 0 0 tI rfl;obtain⟨⟨d1,p1⟩,x1,t1⟩:=fld 1 1 tI rfl;obtain⟨⟨d2,p2⟩,x2,t2⟩:=fld 2 2 tI rfl;obtain⟨⟨d3,p3⟩,x3,t3⟩:=fld 3 3 tG rfl;obtain⟨⟨d4,p4⟩,x4,t4⟩:=fld 4 4 tO rfl;obtain⟨⟨d5,p5⟩,x5,t5⟩:=fld 5 8 tB rfl;rw[hci] at t0 t1 t2;rw[hcg] at t3;rw[hcO] at t4;rw[hcb] at t5;obtain⟨kd,e0,-⟩:=z47 hi t0;obtain⟨id,e1,w1⟩:=z47 hi t1;obtain⟨nn,e2,w2⟩:=z47 hi t2;obtain⟨nm,e3,-,hd3⟩:=z2d hg t3;obtain⟨pk,e5⟩:=z38 hb t5;obtain⟨m',ys,rfl,hl4,rfl,hall4⟩:=z9g ho t4;have fld4:=fldA hgs hall4;obtain⟨⟨q0,r0⟩,y0,s0⟩:=fld4 0 0 tB rfl;obtain⟨⟨q1,r1⟩,y1,s1⟩:=fld4 1 1 tG rfl;obtain⟨⟨q2,r2⟩,y2,s2⟩:=fld4 2 2 tI rfl;obtain⟨⟨q3,r3⟩,y3,s3⟩:=fld4 3 3 tB rfl;rw[hcb] at s0 s3;rw[hcg] at s1;rw[hci] at s2;obtain⟨bin,f0⟩:=z38 hb s0;obtain⟨al,f1,-,hq1⟩:=z2d hg s1;obtain⟨eof,f2,-⟩:=z47 hi s2;obtain⟨rep,f3⟩:=z38 hb s3;have n3:=zap (w:=w) x3;have n4:=zap (w:=w) x4;have n1:=zap (w:=w) y1;have b1:=hwa (xs.map (·.1));have b2:=hwa (ys.map (·.1));have l3:=hwl nm.data.toList;have l1:=hwl al.data.toList;have z3:nm.data.toList.length=nm.size:=by simp
  have z1:al.data.toList.length=al.size:=by simp
  simp only at n3 n4 n1;rw[hd3] at n3;rw[hq1] at n1
  match es,hl with
  |[u0,u1,u2,u3,u4,u5,u6,u7,u8],_ =>
   simp only[List.drop_zero,List.drop_succ_cons,List.take_succ_cons,List.take_zero] at e0 e1 e2 e3 e5 f0 f1 f2 f3;cases e0;cases e1;cases e2;cases e3;cases e5;cases f0;cases f1;cases f2;cases f3;exact⟨⟨kd,id,nn,nm,bin,al,eof,rep,pk⟩,rfl,⟨zgs w1,zgs w2,by show nm.size≤_;omega,by show al.size≤_;omega⟩⟩
 obtain⟨x,h1,h2⟩:=key;refine⟨x,?_,h2⟩;rw[←h1];rfl
end
end Go.Proofs.hq
end
