import Derived.Test.YtlmjnikipfbenaaGreatDoorM3
import Derived.Test.YtlmjnikipfbenaaGreatDoorM6
import Derived.Test.YtlmjnikipfbenaaGreatDoorM5
/- Lemmas on the program's own code, towards the laws of this folder, part 7. Conditions: as each lemma says. -/
open Bool renaming false_eq_true → Zc, not_true → Zn
open ByteArray renaming empty → Zg
open List renaming getElem?_eq_getElem → Zd, getElem?_map → Zr, getElem_mem → ZF, map_append → ZH, map_cons → Zs, range → Zj
open Nat renaming le_refl → Ze, le_trans → Zy, reduceAdd → Zb, reduceEqDiff → Za, reduceLeDiff → Zh, zero_le → ZD
open Option renaming bind_some → Zq
section
namespace Go.Hb
open Go Go.RowKit
structure Cal where
  kd:Int
  id:Int
  nn:Int
  nm:ByteArray
  bin:Bool
  al:ByteArray
  eof:Int
  rep:Bool
  pk:Bool
abbrev Cal.row (c:Cal):List Value:=[.int .i64 c.kd,.int .i64 c.id,.int .i64 c.nn,.string c.nm,.bool c.bin,.string c.al,.int .i64 c.eof,.bool c.rep,.bool c.pk]
structure RdC (H:Heap) (L:List Cal) (a:Option Addr) (c:Nat):Prop where
  len:L.length≤c
  cap:c≤maxLen
  get:∀(i:Nat) (hi:i < L.length),∃b o,a=some ⟨b,o,none⟩∧H.load ⟨b,o+i*9,none⟩ 9=some L[i].row
theorem RdC.keep {H H':Heap}{L:List Cal}{a:Option Addr}{c:Nat}(h:RdC H L a c) (hx:HX H H') (hw:H.wf):RdC H' L a c:=⟨h.len,h.cap,fun i hi=>by obtain⟨b,o,e,l⟩:=h.get i hi;exact⟨b,o,e,hx.load hw l⟩⟩
end Go.Hb
namespace Go.Proofs.hq
open Go Go.RowKit Go.Hb
variable {ok:Ok}
set_option maxRecDepth 10000
attribute [local irreducible] LX LG EL STG SOP SGO SGD SAL SRD SEF SEG SLK SCK ES
structure CalK (c:Cal):Prop where
  id:i64 c.id
  nn:i64 c.nn
  nm:c.nm.size≤4611686018427387904
  al:c.al.size≤4611686018427387904
theorem isPR:isPtr Tryz.prog 29=true:=by kernel_rfl
theorem zpl {H:Heap}{T:TypeId}{x y:Operand}(hi:isPtr Tryz.prog T=true) (hb:pureRun Tryz.prog (binOp .eql T (.pointer none) (.pointer none))=some (.bool true)):dBin Tryz.prog .eql T x y (.pointer none) (.pointer none) H=some (.val (.bool true) H):=by
  have hg:pureRun Tryz.prog (eqGuard .eql T x y (.pointer none) (.pointer none))=some ():=by
    unfold eqGuard;rfl
  have hall:pureRun Tryz.prog (do let r ←(do eqGuard .eql T x y (.pointer none) (.pointer none);binOp .eql T (.pointer none) (.pointer none));pure (Next.value r))=some (.value (.bool true)):=by
    rw[z0b,z0b,hg,Zq,hb];rfl
  simp only[dBin,dnil,hi,nilEq,if_true,hall];rfl
theorem zpm {H:Heap}{x y:Operand}:dBin Tryz.prog .eql 25 x y (.pointer none) (.pointer none) H=some (.val (.bool true) H):=zpl isPF (by kernel_rfl)
theorem zpn {H:Heap}{x y:Operand}:dBin Tryz.prog .eql 29 x y (.pointer none) (.pointer none) H=some (.val (.bool true) H):=zpl isPR (by kernel_rfl)
theorem zq5 {H:Heap}{x y:Operand}{a:Addr}:dBin Tryz.prog .eql 29 x y (.pointer (some a)) (.pointer none) H=some (.val (.bool false) H):=by
  simp only[dBin,dnil,isPR,nilEq,if_true]
theorem zpo {H:Heap}{x y:Operand}{a:Bool}:dBin Tryz.prog .neq 4 x y (.bool a) (.bool a) H=some (.val (.bool false) H):=by
  cases a<;>kernel_rfl
theorem zk6 {l seen:List (ByteArray × ByteArray)}(h:fErr seen l=none):(∀x∈l,named x.1=true∧x.2.size≤20000)∧((seen.map (·.1)).Nodup→((seen++l).map (·.1)).Nodup):=by
  induction l generalizing seen with
  |nil=>exact⟨by simp,by simp⟩
  |cons x l ih =>
    rw[fErr] at h;split at h
    · cases h
    rename_i h1;split at h
    · cases h
    rename_i h2;obtain⟨k1,k2⟩:=ih h;obtain⟨a1,a2⟩:=not_or.1 h1;refine⟨fun y hy=>?_,fun hn=>?_⟩
    · rcases List.mem_cons.1 hy with rfl|hy
      · exact⟨by simpa using a2,by omega⟩
      · exact k1 y hy
    · have:=k2 (by
        rw[ZH,Zs,List.map_nil];rw[List.nodup_append];refine⟨hn,by simp,fun a ha b hb e=>?_⟩;simp only[List.mem_singleton] at hb;subst hb;subst e;obtain⟨y,hy,e⟩:=List.mem_map.1 ha;apply a1;rw[List.find?_isSome];exact⟨y,hy,by rw[e];exact z1y.2 rfl⟩)
      simpa using this
theorem Inv.start {L:List (ByteArray × ByteArray)}{u:ByteArray}(h:newE L u=0):Inv (fs0 L u) 2:=by
  unfold newE at h;split at h
  · cases h
  rename_i h16;have hf:fErr [] L=none:=by
    have key:∀l seen e,fErr seen l=some e→e=81∨e=82:=fun l=>by
      induction l with
      |nil=>intro seen e q;cases q
      |cons x l ih =>
        intro seen e q;rw[fErr] at q;split at q
        · cases q;exact .inl rfl
        split at q
        · cases q;exact .inr rfl
        exact ih _ _ q
    cases hq:fErr [] L with
    |none=>rfl
    |some e =>
      rw[hq] at h;have h':e=0:=h;rcases key _ _ _ hq with q|q<;>omega
  rw[hf] at h;have hu:u.size≤20000:=by
    have h':(if 20000 < u.size then (82:Int) else 0)=0:=h;split at h'
    · cases h'
    · omega
  obtain⟨h1,h2⟩:=zk6 hf;have hm:∀o∈(fs0 L u).opens,o=(0,str0)∨o=(1,str1):=fun o ho=>by simpa [fs0] using ho
  exact {
    ids:=fun o ho=>by rcases hm o ho with rfl|rfl<;>rfl
    lt := fun o ho => by rcases hm o ho with rfl|rfl
                         · exact(by decide:(0:Int)≤0∧(0:Int) < 2)
                         · exact(by decide:(0:Int)≤1∧(1:Int) < 2)
    asc:=by show ([0,1]:List Int).Pairwise (· < ·);decide
    nx:=(by decide:(2:Int)≤2∧(2:Int)≤2)
    con:=fun o ho=>by rcases hm o ho with rfl|rfl<;>rfl
    c0:=fun o ho h0=>by rcases hm o ho with rfl|rfl;exact rfl;cases h0
    c1:=fun o ho h0=>by rcases hm o ho with rfl|rfl;cases h0;decide
    fl:=fun o ho h0=>by rcases hm o ho with rfl|rfl<;>exact absurd h0 (by decide)
    al:=fun o ho o' ho' h0 he=>by rcases hm o ho with rfl|rfl<;>rcases hm o' ho' with rfl|rfl<;>first|rfl|exact absurd he (by decide)
    po:=fun o ho=>by rcases hm o ho with rfl|rfl<;>exact⟨Int.le_refl _,Int.natCast_nonneg _⟩
    rp:=fun o ho h0=>by rcases hm o ho with rfl|rfl<;>first|rfl|cases h0
    no:=(by decide:2≤16)
    nf:=by show L.length≤16;omega
    fn:=h1
    fd:=by show (L.map (·.1)).Nodup;simpa using h2 (by simp)
    inp:=hu
    out:=(by decide:((0:Nat):Int)≤0)
    wr:=(by decide:(0:Int)≤0∧(0:Int)≤100000) }
set_option maxHeartbeats 16000000 in
theorem ze7 {A:Heap}{L:List (ByteArray × ByteArray)}{C:List Cal}{a a2:Option Addr}{c c2:Nat}{u:ByteArray}(hR:RdF A L a c) (hC:RdC A C a2 c2) (hk:∀x∈C,CalK x) (hw:A.wf) :
    EvF Tryz.prog okT 3 [.slice a L.length c,.string u,.slice a2 C.length c2] A fun v _=>v=.bool true:=by
  refine EvF.enter rfl Tryz.func3 (by decide) rfl ?_
  repeat' (first|refine EvC.seq ?_|(refine EvC.reg ?_;simp (config := { maxSteps := 2000000 }) (disch:=first|omega|rfl) only[sB,initTm,Za,Zb,reduceCtorEq,cl6]))
  refine(zdt hw).mono ?_;rintro v A0 ⟨rfl,hq⟩;have hq':=hq.symm;subst hq'
  repeat' (first|refine EvC.seq ?_|(refine EvC.reg ?_;simp (config := { maxSteps := 2000000 }) (disch:=first|omega|rfl) only[sB,Za,reduceCtorEq,cl7]))
  refine(zok hR hw).mono ?_;rintro v H1 ⟨hx1,hv1⟩;have w1:=hx1.wf;by_cases hE:newE L u=0
  · rcases hv1 with ⟨h0,-⟩|⟨-,p,fb,ob,blk,rfl,hv⟩
    · exact absurd hE h0
    repeat' (first|refine EvC.seq ?_|(refine EvC.reg ?_;simp (config := { maxSteps := 2000000 }) (disch:=first|omega|rfl) only[sB,Za,reduceCtorEq,cl8])|(refine z0a ?_;simp (config := { maxSteps := 2000000 }) (disch:=first|omega|rfl) only[sB,Za,reduceCtorEq]))
    refine(zg9 (hR.keep hx1 hw) w1).mono ?_;rintro v H2 ⟨hx2,hv2⟩;rcases hv2 with ⟨h0,-⟩|⟨-,r,f,l,rfl,hr⟩
    · exact absurd hE h0
    have w2:=hx2.wf;have hT:Two A H2 p r (fs0 L u) (fs0 L u).rf:=⟨hx1.trans hx2,⟨fb,ob,blk,hv.keep hx2 w1⟩,f,l,hr.wide fun i hi=>Zy hx1.next hi⟩
    have hI:=Inv.start hE;have hcl:=hC.len;have hcm:=hC.cap;have hmx:maxLen=9223372036854775807:=rfl;have z0:((0:Int) != 0)=false:=rfl
    repeat' (first|refine EvC.seq ?_|refine EvC.block ?_|(refine EvC.skip ?_;try simp only[z00])|(refine EvC.reg ?_;simp (config := { maxSteps := 2000000 }) (disch:=first|omega|rfl) only[sB,Za,reduceCtorEq,z0,z6p,zq5,zpo,Zc,Zn])|(refine z0a ?_;simp (config := { maxSteps := 2000000 }) (disch:=first|omega|rfl) only[sB,Za,reduceCtorEq])|(refine EvC.condF ?_ ?_;simp (config := { maxSteps := 2000000 }) (disch:=first|omega|rfl) only[sB,Za,reduceCtorEq];refine z02 ?_))
    refine EvC.loop (fun k st=>∃tm G i φ,st=⟨tm,[],G⟩∧k=400 - i∧i≤400∧tm.get 2=some (.slice a2 C.length c2)∧tm.get 8=some (ptrV p)∧tm.get 10=some (ptrV r)∧tm.get 12=some (.int .i64 (i:Nat))∧Two A G p r φ φ.rf∧Inv φ (2+i)) ?_ 400 _ ?_
    · rintro k st ⟨tm,G,i,φ,rfl,rfl,hi,t2,t8,t10,t12,hTG,hIG⟩;by_cases hlt:i < C.length∧i < 400
      · obtain⟨h1,h2⟩:=hlt;obtain⟨b,o,rfl,hld⟩:=(hC.keep hTG.hx hw).get i h1;have hok:=hk _ (ZF h1);obtain⟨x,hx⟩:∃x,x=C[i]:=⟨_,rfl⟩
        rw[←hx] at hld hok;have d2:decide ((i:Int) < 400)=true:=decide_eq_true (by omega);have hw1:IntKind.i64.wrap ((i:Int)+1)=((i+1:Nat):Int):=by rw[z0f]<;>omega
        repeat' (first|refine EvC.seq ?_|refine EvC.block ?_|(refine EvC.skip ?_;try simp only[z00])|(refine EvC.reg ?_;simp (config := { maxSteps := 2000000 }) (disch:=first|omega|rfl) only[sB,Za,ln23,ia23,ld36,cl9,t2,t8,t10,t12,decl h1,d2,hld])|(refine EvC.condT ?_ ?_;simp (config := { maxSteps := 2000000 }) (disch:=first|omega|rfl) only[sB,Za];refine z02 ?_))
        refine(zpk hTG hIG (by omega) hok.id hok.nn hok.nm hok.al).mono ?_;rintro v G2 ⟨rfl,φ2,hT2,hI2⟩
        repeat' (first|refine EvC.seq ?_|(refine EvC.skip ?_;try simp only[sA])|(refine EvC.reg ?_;simp (config := { maxSteps := 2000000 }) (disch:=first|omega|rfl) only[sB,Za,t12,hw1,Zn])|(refine EvC.condF ?_ ?_;simp (config := { maxSteps := 2000000 }) (disch:=first|omega|rfl) only[sB,Za];refine z02 ?_))
        exact⟨_,by omega,_,_,i+1,φ2,rfl,rfl,by omega,(by simp only[sG,Za,t2]),(by simp only[sG,Za,t8]),(by simp only[sG,Za,t10]),(by simp only[sG,Za]),hT2,hI2.up (by omega)⟩
      · have hIN:=hIG.up (M:=402) (by omega);have h12:(i < C.length→decide ((i:Int) < 400)=false):=fun h=>decide_eq_false (by omega)
        clear hi;by_cases h1:i < C.length
        case' pos=>repeat' (first|refine EvC.seq ?_|refine EvC.block ?_|(refine EvC.exit ?_;try simp only[sB])|(refine EvC.reg ?_;simp (config := { maxSteps := 2000000 }) (disch:=first|omega|rfl) only[sB,Za,ln23,t2,t12,decl h1,h12 h1])|(refine EvC.condF ?_ ?_;simp (config := { maxSteps := 2000000 }) (disch:=first|omega|rfl) only[sB,Za];refine z02 ?_))
        case' neg=>repeat' (first|refine EvC.seq ?_|refine EvC.block ?_|(refine EvC.exit ?_;try simp only[sB])|(refine EvC.reg ?_;simp (config := { maxSteps := 2000000 }) (disch:=first|omega|rfl) only[sB,Za,ln23,t2,t12,decn h1,Zc])|(refine EvC.condF ?_ ?_;simp (config := { maxSteps := 2000000 }) (disch:=first|omega|rfl) only[sB,Za];refine z02 ?_))
        all_goals (
          refine EvC.loop (fun k st=>∃tm G i φ,st=⟨tm,[],G⟩∧k=60 - i∧i≤60∧tm.get 8=some (ptrV p)∧tm.get 10=some (ptrV r)∧tm.get 14=some (.int .i64 (i:Nat))∧Two A G p r φ φ.rf∧Inv φ (402+i)) ?_ 60 _ ?_
          · clear t8 t10 hTG hIG hIN;rintro k st ⟨tm,G,j,φ,rfl,rfl,hj,t8,t10,t14,hTG,hIG⟩;have t10':tm.get 10=some (.pointer (some ⟨r,0,none⟩)):=t10;obtain⟨f',l',hr'⟩:=hTG.r;have q:=row8 hr'.obj;by_cases h3:(j:Int) < φ.rf.next
            · have d3:decide ((j:Int) < φ.rf.next)=true:=decide_eq_true h3;by_cases h4:j < 60
              · have d4:decide ((j:Int) < 60)=true:=decide_eq_true (by omega);have hw1:IntKind.i64.wrap ((j:Int)+1)=((j+1:Nat):Int):=by rw[z0f]<;>omega
                repeat' (first|refine EvC.seq ?_|refine EvC.block ?_|(refine EvC.skip ?_;try simp only[z00])|(refine EvC.reg ?_;simp (config := { maxSteps := 2000000 }) (disch:=first|omega|rfl) only[sB,Za,Zb,Value.cells,one,Zh,layC,cl9,zcj,ld3,bd36,t8,t10',t14,q,d3,d4,z01,z04])|(refine EvC.condT ?_ ?_;simp (config := { maxSteps := 2000000 }) (disch:=first|omega|rfl) only[sB,Za];refine z02 ?_))
                refine(zpk (kd:=12) (id:=j) (nn:=0) (eof:=0) (nm:=Zg) (al:=Zg) (bin:=false) (rep:=false) (pk:=false) hTG hIG (by omega) (by unfold i64;omega) (by unfold i64;omega) (by decide) (by decide)).mono ?_;rintro v G2 ⟨rfl,φ2,hT2,hI2⟩
                repeat' (first|refine EvC.seq ?_|(refine EvC.skip ?_;try simp only[sA])|(refine EvC.reg ?_;simp (config := { maxSteps := 2000000 }) (disch:=first|omega|rfl) only[sB,Za,t14,hw1,Zn])|(refine EvC.condF ?_ ?_;simp (config := { maxSteps := 2000000 }) (disch:=first|omega|rfl) only[sB,Za];refine z02 ?_))
                exact⟨_,by omega,_,_,j+1,φ2,rfl,rfl,by omega,(by simp only[sG,Za,t8]),(by simp only[sG,Za,t10]),(by simp only[sG,Za]),hT2,hI2.up (by omega)⟩
              · have d4:decide ((j:Int) < 60)=false:=decide_eq_false (by omega)
                repeat' (first|refine EvC.seq ?_|(refine EvC.exit ?_;try simp only[sB])|(refine EvC.reg ?_;simp (config := { maxSteps := 2000000 }) (disch:=first|omega|rfl) only[sB,Za,zcj,ld3,cl10,t8,t10',t14,q,d3,d4,z01,z04])|(refine EvC.condF ?_ ?_;simp (config := { maxSteps := 2000000 }) (disch:=first|omega|rfl) only[sB,Za];refine z02 ?_))
                refine(zbd hTG hIG (by omega)).mono ?_;rintro v G2 ⟨rfl,hx2⟩
                repeat' (first|(refine EvC.ret ?_))
                exact z06 rfl (by simp only[sG,Za]) rfl
            · have d3:decide ((j:Int) < φ.rf.next)=false:=decide_eq_false h3
              repeat' (first|refine EvC.seq ?_|(refine EvC.exit ?_;try simp only[sB])|(refine EvC.reg ?_;simp (config := { maxSteps := 2000000 }) (disch:=first|omega|rfl) only[sB,Za,zcj,ld3,cl10,t8,t10',t14,q,d3,z01,z04,Zc])|(refine EvC.condF ?_ ?_;simp (config := { maxSteps := 2000000 }) (disch:=first|omega|rfl) only[sB,Za];refine z02 ?_))
              refine(zbd hTG hIG (by omega)).mono ?_;rintro v G2 ⟨rfl,hx2⟩
              repeat' (first|(refine EvC.ret ?_))
              exact z06 rfl (by simp only[sG,Za]) rfl
          · exact⟨_,_,0,φ,rfl,rfl,by omega,(by simp only[sG,Za,t8]),(by simp only[sG,Za,t10]),(by simp only[sB,Za];rfl),hTG,hIN⟩)
    · exact⟨_,_,0,fs0 L u,rfl,rfl,by omega,(by simp only[sG,Za,reduceCtorEq]),(by simp only[sG,Za,reduceCtorEq]),(by simp only[sG,Za,reduceCtorEq]),(by simp only[sB,Za,reduceCtorEq];rfl),hT,hI⟩
  · rcases hv1 with ⟨-,rfl⟩|⟨h0,-⟩
    · repeat' (first|refine EvC.seq ?_|(refine EvC.reg ?_;simp (config := { maxSteps := 2000000 }) (disch:=first|omega|rfl) only[sB,Za,reduceCtorEq,cl8])|(refine z0a ?_;simp (config := { maxSteps := 2000000 }) (disch:=first|omega|rfl) only[sB,Za,reduceCtorEq]))
      refine(zg9 (hR.keep hx1 hw) w1).mono ?_;rintro v H2 ⟨hx2,hv2⟩;rcases hv2 with ⟨-,rfl⟩|⟨h0,-⟩
      · have z0:(newE L u != newE L u)=false:=z16 rfl
        repeat' (first|refine EvC.seq ?_|(refine EvC.skip ?_;try simp only[z00])|(refine EvC.ret ?_;try simp only[z05,z03])|(refine EvC.reg ?_;simp (config := { maxSteps := 2000000 }) (disch:=first|omega|rfl) only[sB,Za,reduceCtorEq,z0,zpm,zpn,zpo,Zc,Zn])|(refine z0a ?_;simp (config := { maxSteps := 2000000 }) (disch:=first|omega|rfl) only[sB,Za,reduceCtorEq])|(refine EvC.condT ?_ ?_;simp (config := { maxSteps := 2000000 }) (disch:=first|omega|rfl) only[sB,Za,reduceCtorEq];refine z02 ?_)|(refine EvC.condF ?_ ?_;simp (config := { maxSteps := 2000000 }) (disch:=first|omega|rfl) only[sB,Za,reduceCtorEq];refine z02 ?_))
        exact z06 rfl (by simp only[sG,Za,reduceCtorEq]) rfl
      · exact absurd h0 hE
    · exact absurd h0 hE
end Go.Proofs.hq
end

section
namespace Go.Hb
open Go Go.RowKit
section
variable {P:Program}
def okVal (mask:Nat) (fv:FuncId):Ok:=⟨mask,fun f args H=>if f=fv then (match args with|[.string s]=>if s.size≤9223372036854775807 then some (.ret (.bool (Lib.validD s.data.toList)),H) else none|_=>none) else none⟩
theorem zk7 {N mask:Nat}{w0:World}{fv:FuncId}(hok:((Zj P.funcs.size).all fun f=>!mask.testBit f || okFn P f)=true)
  (hv:∀(s:ByteArray) w,s.size≤9223372036854775807→Below N w0 w→Calls P fv #[.string s] w fun e w'=>e=.returned (.bool (Lib.validD s.data.toList))∧Below w.heap.size w w'):OkFns P N w0 (okVal mask fv):=by
 refine⟨z6j hok,fun τ f args args' H en H' w σ _ hk hl hH _=>?_⟩;simp only[okVal] at hk;split at hk
 ·rename_i hf;subst hf;split at hk
  ·rename_i s;split at hk
   ·rename_i hs;cases hk;have hlen:args'.size=1:=by have:=hl.1;simpa using this.symm
    obtain⟨v,rfl⟩:∃v,args'=#[v]:=by
     match args',hlen with
     |⟨[v]⟩,_=>exact⟨v,rfl⟩
    have hvr:=hl.2 0 (.string s) v rfl rfl;rw[VR.flat_eq hvr rfl];exact zch rfl (hv s w hs hH.below) hH
   ·cases hk
  ·cases hk
 ·cases hk
theorem ze8 {ok:Ok}{n nx:Nat}{f:FuncId}{args:List Value}{args':Array Value}{τ:Nat→Value}(hτ:∀j,(τ j).oneCell'=true) (hm:P.follows .mixedOrders=true) (W:World)
  (hOK:OkFns P W.heap.size W ok) (hnx:P.globals.size≤nx) (hrun:retTrue (dcall P ok n f args ⟨nx,.nil⟩)=true) (hl:LR (sig0 nx) τ args args'.toList) :
  Calls P f args' W fun e W'=>e=.returned (.bool true)∧Below W.heap.size W W':=by
 obtain⟨H',h⟩:=zdl hrun;refine(z74 hτ hm hOK h hl (HR.start nx W) (GR.start hnx)).mono fun e w' he=>?_
 obtain⟨σ',hen,hH,_⟩:=he;cases e with
 |returned v'=>exact⟨by rw[show v'=.bool true from VR.flat_eq hen rfl],hH.below⟩
 |panicked _=>exact hen.elim
 |outgrown=>exact hen.elim
end
end Go.Hb
end

section
namespace Go.Hb
open Go Go.RowKit
section
variable {H:Type}{enc:TypeId × Value→H}{P:Program}{W:World}{sp:Nat→Bool}{fuel:Nat}{t e:TypeId}{cs:List Value}{d:DataW H}{ps:List MemPlace}
theorem z7s {k:IntKind}(ht:P.underlying t=some (.int k)) (h:DataW.trod enc P W 0 sp true fuel t cs=some (d,ps)):∃n,cs=[.int k n]∧(Lit.int k n).wf=true:=by
 cases fuel with
 |zero=>simp [DataW.trod] at h
 |succ m =>
  unfold DataW.trod at h;rw[ht] at h;split at h<;>simp_all
theorem trod_slice (ht:P.underlying t=some (.slice e)) (h:DataW.trod enc P W 0 sp true fuel t cs=some (d,ps)) :
  cs=[.slice none 0 0]∨∃a len cap m,fuel=m+1∧cs=[.slice (some a) len cap]∧len≤cap∧cap≤maxLen ∧
   ∀i,i < len→∃es d' ps',W.cells? 0 (a.add (i*P.cellsOf e)) (P.cellsOf e)=some es∧DataW.trod enc P W 0 sp true m e es=some (d',ps'):=by
 cases fuel with
 |zero=>simp [DataW.trod] at h
 |succ m =>
  unfold DataW.trod at h;rw[ht] at h;split at h<;>simp_all
  obtain⟨⟨hl,hc⟩,h⟩:=h;simp only[Option.bind_eq_some_iff,Option.map_eq_some_iff] at h;obtain⟨elems,he,_⟩:=h;refine⟨_,_,_,⟨rfl,rfl,rfl⟩,hl,hc,fun i hi=>?_⟩;have hlen:=mapM_some_length he;have:=mapM_some_get he i i (by simp [hi]);rw[Zd (by rw[hlen];simpa using hi)] at this;simp only[Option.bind_eq_some_iff] at this;obtain⟨es,h1,h2⟩:=this;exact⟨es,h1,_,_,h2⟩
theorem zol (a:Addr) (i:Nat):(a.add i).block=a.block:=by unfold Addr.add;split<;>rfl
theorem zd1 {a:Addr}{s i:Nat}{es:List Value}(hs:0 < s) (h:W.cells? 0 (a.add (i*s)) s=some es) (hsp:a.spot=none):(heapW P W).load ⟨a.block,a.off+i*s,none⟩ s=some (es.map (ab P W))∧es.length=s∧a.block < W.heap.size:=by
 obtain⟨_,hl,hc⟩:=World.cells?_some h;obtain⟨b,o,sp⟩:=a;obtain rfl:sp=none:=hsp;have hb:=World.cells?_block h hs;rw[zol] at hb;refine⟨zgs hs hl fun j v hj=>?_,hl,hb⟩;have hjl:j < es.length:=(List.getElem?_eq_some_iff.1 hj).1;have:=hc j (by omega);rw[add0,add0] at this;rw[this];exact hj
theorem zhh {a:Addr}{s:Nat}{es:List Value}(hs:0 < s) (h:W.cells? 0 (a.add (0*s)) s=some es):a.spot=none:=by
 obtain⟨_,hl,hc⟩:=World.cells?_some h;have e0:∀a:Addr,a.add 0=a:=fun a=>by unfold Addr.add;simp
 have:=hc 0 hs;rw[Nat.zero_mul,e0,e0,Zd (by omega)] at this;unfold World.cell? at this;split at this
 ·split at this
  ·cases this
  ·rename_i hn;simpa using hn
 ·cases this
end
section
variable {H:Type}{enc:TypeId × Value→H}{P:Program}{W:World}{sp:Nat→Bool}
structure TermTypes (P:Program) (tT tS tI tG tU:TypeId):Prop where
 fields:∃fs:Array Field,P.underlying tT=some (.struct fs)∧(fs.toList.map fun f=>(f.offset,f.type))=[(0,tI),(1,tG),(2,tG),(3,tU),(4,tI),(5,tS)]
 slice:P.underlying tS=some (.slice tT)
 int:P.underlying tI=some (.int .i64)
 str:P.underlying tG=some .string
 u64:P.underlying tU=some (.int .u64)
 cT:P.cellsOf tT=6
 cS:P.cellsOf tS=1
 cI:P.cellsOf tI=1
 cG:P.cellsOf tG=1
 cU:P.cellsOf tU=1
theorem zn6 {n:Int}(h:(Lit.int .i64 n).wf=true):i64 n:=by
 unfold i64;unfold Lit.wf at h;simp [IntKind.min,IntKind.max,IntKind.bits,IntKind.signed] at h;exact h
end
end Go.Hb
end

section
namespace Go.Hb
open Go Go.RowKit
theorem zk8:∀{l:List Nat}{a:Nat},a∈l→a≤l.sum
 |b :: l,a,h=>by
  rw[List.sum_cons];rcases List.mem_cons.1 h with rfl|h
  ·omega
  ·have:=zk8 h;omega
section
variable {H:Type}{enc:TypeId × Value→H}{P:Program}{W:World}{sp:Nat→Bool}
theorem z3d {fuel:Nat}{t:TypeId}{cs:List Value}{d:DataW H}{ps:List MemPlace}(ht:P.underlying t=some .string) (h:DataW.trod enc P W 0 sp true fuel t cs=some (d,ps)):∃s:ByteArray,cs=[.string s]∧s.size≤maxLen∧d=.lit (.string s.data.toList):=by
 cases fuel with
 |zero=>simp [DataW.trod] at h
 |succ m =>
  unfold DataW.trod at h;rw[ht] at h;split at h<;>simp_all
end
end Go.Hb
end

section
namespace Go.Hb
open Go Go.RowKit
section
variable {H:Type}{enc:TypeId × Value→H}{P:Program}{W:World}{sp:Nat→Bool}
theorem ze9 {fuel:Nat}{t:TypeId}{cs:List Value}{d:DataW H}{ps:List MemPlace}{fs:Array Field}(ht:P.underlying t=some (.struct fs)) (h:DataW.trod enc P W 0 sp true fuel t cs=some (d,ps)) :
  ∃(m:Nat) (xs:List (DataW H × List MemPlace)),fuel=m+1∧cs.length=P.cellsOf t∧d=.agg (xs.map (·.1))∧∀(i:Nat) (f:Field),fs[i]?=some f→∃x,xs[i]?=some x∧DataW.trod enc P W 0 sp true m f.type ((cs.drop f.offset).take (P.cellsOf f.type))=some x:=by
 cases fuel with
 |zero=>simp [DataW.trod] at h
 |succ m =>
  unfold DataW.trod at h;rw[ht] at h;have h':(if cs.length=P.cellsOf t then (fs.toList.mapM fun f=>DataW.trod enc P W 0 sp true m f.type ((cs.drop f.offset).take (P.cellsOf f.type))).map fun xs=>(DataW.agg (xs.map (·.1)),xs.flatMap (·.2)) else none)=some (d,ps):=by
   split at h<;>first|exact h|simp_all
  split at h'
  ·rename_i hl;rw[Option.map_eq_some_iff] at h';obtain⟨xs,hx,he⟩:=h';cases he;refine⟨m,xs,rfl,hl,rfl,fun i f hf=>?_⟩;have hlen:=mapM_some_length hx;have:=mapM_some_get hx i f (by simpa using hf);have hi:=(Array.getElem?_eq_some_iff.1 hf).1;have hix:i < xs.length:=by rw[hlen];simpa using hi
   rw[Zd hix] at this;exact⟨xs[i],Zd hix,this⟩
  ·cases h'
theorem fldA {m:Nat}{cs:List Value}{xs:List (DataW H × List MemPlace)}{fs:Array Field}{L:List (Nat × TypeId)}(hfs:(fs.toList.map fun f=>(f.offset,f.type))=L)
  (hall:∀(i:Nat) (f:Field),fs[i]?=some f→∃x,xs[i]?=some x∧DataW.trod enc P W 0 sp true m f.type ((cs.drop f.offset).take (P.cellsOf f.type))=some x) (i o:Nat) (u:TypeId) (hi:L[i]?=some (o,u)) :
  ∃x,xs[i]?=some x∧DataW.trod enc P W 0 sp true m u ((cs.drop o).take (P.cellsOf u))=some x:=by
 rw[←hfs,Zr,Option.map_eq_some_iff] at hi;obtain⟨f,hf1,hf2⟩:=hi;obtain⟨x,hx,hd⟩:=hall i f (by simpa using hf1);cases hf2;exact⟨x,hx,hd⟩
theorem z5q {fuel:Nat}{t:TypeId}{cs:List Value}{d:DataW H}{ps:List MemPlace}(ht:P.underlying t=some .bool) (h:DataW.trod enc P W 0 sp true fuel t cs=some (d,ps)):∃b:Bool,cs=[.bool b]:=by
 cases fuel with
 |zero=>simp [DataW.trod] at h
 |succ m =>
  unfold DataW.trod at h;rw[ht] at h;split at h<;>simp_all
theorem zga {α:Type}{tS tE:TypeId}{K:Nat}{row:α→List Value}{G:α→Nat→Prop}(hG:∀x m n,m≤n→G x m→G x n) (hS:P.underlying tS=some (.slice tE)) (hc:P.cellsOf tE=K) (hK:0 < K) {w:DataW H→Nat}(hws:∀es rest,(es.map w).sum≤w (.slice es rest))
  (hE:∀fuel es d ps,DataW.trod enc P W 0 sp true fuel tE es=some (d,ps)→∃x:α,es.map (ab P W)=row x∧G x (w d)) (z:α)
  {v:Value}{fuel:Nat}{d:DataW H}{ps:List MemPlace}(h:DataW.trod enc P W 0 sp true fuel tS v.cells.toList=some (d,ps)) (hv:∀cs,v≠.agg cs) :
  ∃(L:List α) (a:Option Addr) (c:Nat),abV P W v=.slice a L.length c∧L.length≤c∧c≤maxLen∧(∀(i:Nat) (hi:i < L.length),∃b o,a=some ⟨b,o,none⟩∧(heapW P W).load ⟨b,o+i*K,none⟩ K=some (row L[i]))∧∀x∈L,G x (w d):=by
 have hcv:v.cells.toList=[v]:=by
  unfold Value.cells;split
  ·rename_i cs;exact absurd rfl (hv cs)
  ·rfl
 rw[hcv] at h;have hab:abV P W v=ab P W v:=by
  unfold abV;split
  ·rename_i cs;exact absurd rfl (hv _)
  ·rfl
 rw[hab];rcases DataW.trod_slice hS h with ⟨h1,-⟩|⟨a,len,cap,elems,rest,n,rfl,he,hx,-,hl,hm,rfl,hel,-⟩
 ·cases h1;exact⟨[],none,0,rfl,Ze _,ZD _,fun i hi=>by simp at hi,fun p hp=>by simp at hp⟩
 ·cases he;cases hx;rw[hc] at hel;have hl':elems.length≤cap:=hl;have hget:∀i x,elems[i]?=some x→∃es,W.cells? 0 (a.add (i*K)) K=some es∧DataW.trod enc P W 0 sp true n tE es=some x:=fun i x hx=>by
   have hi:=(List.getElem?_eq_some_iff.1 hx).1;have:=hel i hi;rw[hx,Option.bind_eq_some_iff] at this;exact this
  have key:∀i,∃s:α,i < elems.length→a.spot=none→(heapW P W).load ⟨a.block,a.off+i*K,none⟩ K=some (row s)∧G s (w (.slice (elems.map (·.1)) (rest.map (·.1)))):=fun i=>by
   by_cases hi:i < elems.length
   ·obtain⟨es,h1,h2⟩:=hget i elems[i] (Zd hi);obtain⟨s,h0,h3⟩:=hE _ _ elems[i].1 elems[i].2 h2;refine⟨s,fun _ hsp=>⟨?_,?_⟩⟩
    ·have:=(zd1 (P:=P) hK h1 hsp).1;rw[h0] at this;exact this
    ·have h4:=hws (elems.map (·.1)) (rest.map (·.1));have h5:w elems[i].1≤((elems.map (·.1)).map w).sum:=zk8 (List.mem_map.2 ⟨elems[i].1,List.mem_map.2 ⟨elems[i],ZF hi,rfl⟩,rfl⟩);exact hG _ _ _ (by omega) h3
   ·exact⟨z,fun h=>absurd h hi⟩
  obtain⟨f,hf⟩:=Classical.axiomOfChoice key;have hlen:((Zj elems.length).map f).length=elems.length:=by simp
  by_cases hn:0 < elems.length
  ·obtain⟨es0,h1,-⟩:=hget 0 elems[0] (Zd hn);have hsp:a.spot=none:=zhh hK h1;have hbl:a.block < W.heap.size:=(zd1 (P:=P) hK h1 hsp).2.2;have hab2:ab P W (.slice (some a) elems.length cap)=.slice (some a) ((Zj elems.length).map f).length cap:=by
    unfold ab;rw[hlen];simp only;rw[if_pos ⟨hl',hm⟩,if_pos ⟨hsp,hbl⟩]
   refine⟨(Zj elems.length).map f,some a,cap,hab2,by rw[hlen];exact hl',hm,fun i hi=>⟨a.block,a.off,?_,?_⟩,fun p hp=>?_⟩
   ·obtain⟨b,o,sp⟩:=a;obtain rfl:sp=none:=hsp;rfl
   ·rw[hlen] at hi;rw[(hf i hi hsp).1];simp
   ·obtain⟨i,hi,rfl⟩:=List.mem_map.1 hp;exact(hf i (List.mem_range.1 hi) hsp).2
  ·have hn0:elems.length=0:=by omega
   obtain⟨a',hab2⟩:∃a',ab P W (.slice (some a) elems.length cap)=.slice (some a') 0 cap:=by
    rw[hn0] at hl' ⊢;unfold ab;simp only;rw[if_pos ⟨hl',hm⟩];split
    ·exact⟨_,rfl⟩
    ·exact⟨_,rfl⟩
   exact⟨[],some a',cap,hab2,ZD _,hm,fun i hi=>by simp at hi,fun p hp=>by simp at hp⟩
end
end Go.Hb
namespace Go.Proofs.hq
open Go Go.RowKit Go.Hb
section
variable {H:Type}{enc:TypeId × Value→H}{P:Program}{W:World}{sp:Nat→Bool}
theorem zk9 {tS tE tG:TypeId}{fs:Array Field}(hS:P.underlying tS=some (.slice tE)) (hf:P.underlying tE=some (.struct fs)) (hfs:(fs.toList.map fun f=>(f.offset,f.type))=[(0,tG),(1,tG)]) (hc:P.cellsOf tE=2) (hg:P.underlying tG=some .string) (hcg:P.cellsOf tG=1)
  {w:DataW H→Nat}(hws:∀es rest,(es.map w).sum≤w (.slice es rest)) {v:Value}{fuel:Nat}{d:DataW H}{ps:List MemPlace}(h:DataW.trod enc P W 0 sp true fuel tS v.cells.toList=some (d,ps)) (hv:∀cs,v≠.agg cs) :
  ∃L a c,abV P W v=.slice a L.length c∧RdF (heapW P W) L a c:=by
 obtain⟨L,a,c,h1,h2,h3,h4,-⟩:=zga (α:=ByteArray × ByteArray) (row:=fun x=>[.string x.1,.string x.2]) (G:=fun _ _=>True) (fun _ _ _ _ _=>trivial) hS hc (by omega) hws (fun fuel es d ps ht=>by
  obtain⟨m,xs,rfl,hl,rfl,hall⟩:=ze9 hf ht;rw[hc] at hl;have fld:=fldA hfs hall;obtain⟨⟨d0,p0⟩,x0,t0⟩:=fld 0 0 tG rfl;obtain⟨⟨d1,p1⟩,x1,t1⟩:=fld 1 1 tG rfl;rw[hcg] at t0 t1;obtain⟨a,ha,-⟩:=z3d hg t0;obtain⟨b,hb,-⟩:=z3d hg t1
  match es,hl with
  |[u,v],_ =>
   simp only[List.drop_zero,List.drop_succ_cons,List.take_succ_cons,List.take_zero] at ha hb;cases ha;cases hb;exact⟨(a,b),rfl,trivial⟩) (Zg,Zg) h hv
 exact⟨L,a,c,h1,h2,h3,h4⟩
structure CalG (c:Cal) (n:Nat):Prop where
 id:i64 c.id
 nn:i64 c.nn
 nm:c.nm.size≤n
 al:c.al.size≤n
theorem zka {w:DataW H→Nat}{xs:List (DataW H × List MemPlace)}{i:Nat}{x:DataW H × List MemPlace}(h:xs[i]?=some x):w x.1≤((xs.map (·.1)).map w).sum:=zk8 (List.mem_map.2 ⟨x.1,List.mem_map.2 ⟨x,List.mem_of_getElem? h,rfl⟩,rfl⟩)
theorem zkb {tS tE tG tI tO tB:TypeId}{fs gs:Array Field}(hS:P.underlying tS=some (.slice tE)) (hf:P.underlying tE=some (.struct fs)) (hfs:(fs.toList.map fun f=>(f.offset,f.type))=[(0,tI),(1,tI),(2,tI),(3,tG),(4,tO),(8,tB)])
  (ho:P.underlying tO=some (.struct gs)) (hgs:(gs.toList.map fun f=>(f.offset,f.type))=[(0,tB),(1,tG),(2,tI),(3,tB)])
  (hc:P.cellsOf tE=9) (hcO:P.cellsOf tO=4) (hg:P.underlying tG=some .string) (hcg:P.cellsOf tG=1) (hi:P.underlying tI=some (.int .i64)) (hci:P.cellsOf tI=1) (hb:P.underlying tB=some .bool) (hcb:P.cellsOf tB=1)
  {w:DataW H→Nat}(hws:∀es rest,(es.map w).sum≤w (.slice es rest)) (hwa:∀es,(es.map w).sum≤w (.agg es)) (hwl:∀b,b.length≤w (.lit (.string b)))
  {v:Value}{fuel:Nat}{d:DataW H}{ps:List MemPlace}(h:DataW.trod enc P W 0 sp true fuel tS v.cells.toList=some (d,ps)) (hv:∀cs,v≠.agg cs) :
  ∃L a c,abV P W v=.slice a L.length c∧RdC (heapW P W) L a c∧∀x∈L,CalG x (w d):=by
 obtain⟨L,a,c,h1,h2,h3,h4,h5⟩:=zga (α:=Cal) (row:=fun x=>x.row) (G:=CalG) (fun x m n hmn g=>⟨g.id,g.nn,Zy g.nm hmn,Zy g.al hmn⟩) hS hc (by omega) hws (fun fuel es d ps ht=>by
  obtain⟨m,xs,rfl,hl,rfl,hall⟩:=ze9 hf ht;rw[hc] at hl;have fld:=fldA hfs hall;obtain⟨⟨d0,p0⟩,x0,t0⟩:=fld 0 0 tI rfl;obtain⟨⟨d1,p1⟩,x1,t1⟩:=fld 1 1 tI rfl;obtain⟨⟨d2,p2⟩,x2,t2⟩:=fld 2 2 tI rfl;obtain⟨⟨d3,p3⟩,x3,t3⟩:=fld 3 3 tG rfl;obtain⟨⟨d4,p4⟩,x4,t4⟩:=fld 4 4 tO rfl;obtain⟨⟨d5,p5⟩,x5,t5⟩:=fld 5 8 tB rfl;rw[hci] at t0 t1 t2;rw[hcg] at t3;rw[hcO] at t4;rw[hcb] at t5;obtain⟨kd,e0,-⟩:=z7s hi t0;obtain⟨id,e1,w1⟩:=z7s hi t1;obtain⟨nn,e2,w2⟩:=z7s hi t2;obtain⟨nm,e3,-,hd3⟩:=z3d hg t3;obtain⟨pk,e5⟩:=z5q hb t5;obtain⟨m',ys,rfl,hl4,rfl,hall4⟩:=ze9 ho t4;have fld4:=fldA hgs hall4;obtain⟨⟨q0,r0⟩,y0,s0⟩:=fld4 0 0 tB rfl;obtain⟨⟨q1,r1⟩,y1,s1⟩:=fld4 1 1 tG rfl;obtain⟨⟨q2,r2⟩,y2,s2⟩:=fld4 2 2 tI rfl;obtain⟨⟨q3,r3⟩,y3,s3⟩:=fld4 3 3 tB rfl;rw[hcb] at s0 s3;rw[hcg] at s1;rw[hci] at s2;obtain⟨bin,f0⟩:=z5q hb s0;obtain⟨al,f1,-,hq1⟩:=z3d hg s1;obtain⟨eof,f2,-⟩:=z7s hi s2;obtain⟨rep,f3⟩:=z5q hb s3;have n3:=zka (w:=w) x3;have n4:=zka (w:=w) x4;have n1:=zka (w:=w) y1;have b1:=hwa (xs.map (·.1));have b2:=hwa (ys.map (·.1));have l3:=hwl nm.data.toList;have l1:=hwl al.data.toList;have z3:nm.data.toList.length=nm.size:=by simp
  have z1:al.data.toList.length=al.size:=by simp
  simp only at n3 n4 n1;rw[hd3] at n3;rw[hq1] at n1
  match es,hl with
  |[u0,u1,u2,u3,u4,u5,u6,u7,u8],_ =>
   simp only[List.drop_zero,List.drop_succ_cons,List.take_succ_cons,List.take_zero] at e0 e1 e2 e3 e5 f0 f1 f2 f3;cases e0;cases e1;cases e2;cases e3;cases e5;cases f0;cases f1;cases f2;cases f3;exact⟨⟨kd,id,nn,nm,bin,al,eof,rep,pk⟩,rfl,⟨zn6 w1,zn6 w2,by show nm.size≤_;omega,by show al.size≤_;omega⟩⟩) ⟨0,0,0,Zg,false,Zg,0,false,false⟩ h hv
 exact⟨L,a,c,h1,⟨h2,h3,h4⟩,h5⟩
end
end Go.Proofs.hq
end
