import Derived.Test.YtlmjnikipfbenaaGreatDoorM2
import Derived.Lib.ValidLaws
import Derived.DataReads
import Derived.Sort.KeysCollected
import Derived.Test.YtlmjnikipfbenaaGreatDoorProg
import Derived.KernelRfl
import Derived.Lib.ItoaNum
import Derived.Lib.Bytealg
/- Lemmas on the program's own code, towards the laws of this folder, part 3. Conditions: as each lemma says. -/
open Bool renaming and_eq_true → Zi, false_eq_true → Zc, not_eq_true → ZB, not_false → Zm, not_true → Zn
open ByteArray renaming empty → Zg, size → Zf
open List renaming ext_getElem? → ZD, find?_cons → ZH, getElem?_eq_getElem → Zd, getElem?_eq_none → Zw, getElem?_map → Zr, length_append → Zu, length_cons → ZF, length_map → Zv, map_append → ZI, map_cons → Zs, map_map → ZJ, mem_cons_of_mem → Zl, range → Zj, take_of_length_le → Zx
open Nat renaming beq → Zk, beq_eq → Zp, beq_refl → Zy, le_refl → Ze, le_trans → ZA, lt_of_lt_of_le → Zt, reduceAdd → Zb, reduceEqDiff → Za, reduceLeDiff → Zh, zero_le → Zz
open Option renaming bind_some → Zq, map_some → Zo
section
namespace Go.Hb
open Go Go.RowKit
section
variable {P:Program}{ok:Ok}{x:Ctx}{ops:Array Oper}{os:List Oper}{tm:Tr Value}{ds:List Deferred}{H H':Heap}{K:Tr Value→List Deferred→Heap→Prop}{w:Bool}
theorem z02 {c:Code}{st:St}{Q:Ex→St→Prop}(h:EvC P ok x c st Q):EvC P ok x c st Q:=h
theorem z08 {d:Option Tmp}{r:Option Dr}(h:LX P ok x ops d os tm ds H K r):LX P ok x ops d os tm ds H K r:=h
theorem zhg {o:Oper}{g:Option Value}(h:LG P ok x ops o os tm ds H K w g):LG P ok x ops o os tm ds H K w g:=h
theorem z09 {fn:Func}{r q:Tmp}{v u:Value}{KK:Value→Heap→Prop}(h:fn.results.toList=[.tmp r,.tmp q]) (hv:tm.get r=some v) (hu:tm.get q=some u) (hk:KK (.tuple ⟨[v,u]⟩) H):Ex.leave P ok fn KK .ret ⟨tm,[],H⟩ :=
 EvV.now (v:=.tuple ⟨[v,u]⟩) (by rw[zlf h,hv,hu];rfl) hk
theorem z8o {fn:Func}{r q p:Tmp}{v u y:Value}{KK:Value→Heap→Prop}(h:fn.results.toList=[.tmp r,.tmp q,.tmp p]) (hv:tm.get r=some v) (hu:tm.get q=some u) (hy:tm.get p=some y) (hk:KK (.tuple ⟨[v,u,y]⟩) H) :
  Ex.leave P ok fn KK .ret ⟨tm,[],H⟩ :=
 EvV.now (v:=.tuple ⟨[v,u,y]⟩) (by rw[zhc h,hv,hu,hy];rfl) hk
end
section
variable {P:Program}{d:Option Tmp}{ty:TypeId}{pos:String}{af:Array Edge}{g:Option (Nat × Bool)}{ρ:Operand→Value}{H:Heap}
theorem z9z {o:Oper}{v:Value}:sameOn P o ρ v []=true:=by unfold sameOn;rfl
theorem z8p {o n:Nat}{cs:List Value}{e:TypeId}:(H.new (some (.row cs e))).load ⟨H.next,o,none⟩ n=cutC cs o n:=by rw[zb5,if_pos rfl]
theorem z4f {b:Nat}{B:Option Blk}(h:b < H.next):(H.new B).get b=H.get b:=by rw[get_new,if_neg (by omega)]
theorem z4g {B:Option Blk}:(H.new B).get H.next=B:=by rw[get_new,if_pos rfl]
theorem zit {b i:Nat}{B:Option Blk}(h:b≠i):(H.put i B).get b=H.get b:=by rw[get_put,if_neg h]
theorem ziu {b:Nat}{B:Option Blk}:(H.put b B).get b=B:=by rw[get_put,if_pos rfl]
theorem z2a {t:TypeId}{n:Nat}(h:isAgg? P t=some true) (hn:P.cellsOf t=n) {ad:Addr}:dLoad P t (.pointer (some ad)) H=dloadA n (H.load ad n) H:=by rw[ziq h,hn]
theorem z2n {t:TypeId}{n:Nat}(h:(P.info? t).isSome=true) (hn:P.cellsOf t=n) {b o:Nat}{cs:List Value} :
  dStore P t (.pointer (some ⟨b,o,none⟩)) (.agg ⟨cs⟩) H=dStoreIf (Zk cs.length n) ⟨b,o,none⟩ cs H (H.get b):=by rw[zhe h,hn]
def dGet1 (v:Option Value) (H:Heap):Option Dr:=v.map (.val · H)
theorem za0 {v:Value}:dGet1 (some v) H=some (.val v H):=_root_.id rfl
theorem z1i {t e:TypeId}{b o n c s:Nat}{k:IntKind}{i:Nat}(hu:P.underlying t=some (.slice e)) (hi:(P.info? e).isSome=true) (hs:P.cellsOf e=s) (h:i < n) :
  dIndexAddr P t (.slice (some ⟨b,o,none⟩) n c) (.int k (i:Int)) H=some (.val (.pointer (some ⟨b,o+i*s,none⟩)) H):=by rw[z7n hu hi h,hs]
def layC (pl:List (Nat × Nat)):List Value→List (Nat × List Value)→Option (List Value)
 |cells,[]=>some cells
 |cells,(i,v) :: rest=>match pl[i]? with
  |some (off,size)=>if v.length=size∧off+v.length≤cells.length then layC pl (splice cells off v) rest else none
  |none=>none
theorem zfc:∀(vs:List Value) (off j:Nat) (cells:Array Value),off+j+vs.length≤cells.size →
  ((vs.zipIdx j).foldl (fun cs (p:Value × Nat)=>cs.setIfInBounds (off+p.2) p.1) cells).toList=splice cells.toList (off+j) vs
 |[],off,j,cells,h=>by
  rw[z2i _ _ _ (by simp at h ⊢;omega)];simp
 |v :: vs,off,j,cells,h=>by
  have h':off+j+(vs.length+1)≤cells.size:=by simpa using h
  rw[List.zipIdx_cons,List.foldl_cons];have ih:=zfc vs off (j+1) (cells.setIfInBounds (off+j) v) (by simp;omega);rw[ih,z2i _ _ _ (by simp;omega),z2i _ _ _ (by simp;omega)];simp only[Array.toList_setIfInBounds,ZF];rw[List.set_eq_take_append_cons_drop,if_pos (by simp;omega)];apply ZD;intro k;simp only[List.getElem?_append,List.getElem?_take,List.getElem?_drop,List.length_take,Zu,ZF,List.length_drop,Array.length_toList,List.getElem?_cons]
  grind
theorem zb8 {place:Nat→Option (Nat × Nat)}{pl:List (Nat × Nat)}(hp:∀i,place i=pl[i]?):∀(parts:List (Nat × Value)) (cells:Array Value),(Instr.fill place cells parts).map (·.toList)=layC pl cells.toList (parts.map fun p=>(p.1,p.2.cells.toList))
 |[],cells=>rfl
 |(i,v) :: rest,cells=>by
  rw[Instr.fill,hp i,Zs,layC];cases hi:pl[i]? with
  |none=>rfl
  |some os =>
   obtain⟨off,size⟩:=os;simp only;by_cases hc:v.cells.size=size∧off+v.cells.size≤cells.size
   ·obtain⟨h1,h2⟩:=hc;rw[if_neg (by simp [h1];omega),if_pos ⟨by simpa using h1,by simpa using h2⟩,zb8 hp rest];congr 1;have:=zfc v.cells.toList off 0 cells (by simpa using h2);rw[←Array.foldl_toList,Array.toList_zipIdx];exact this
   ·rw[if_pos (by
     simp;by_cases h:v.cells.size=size
     ·exact .inr (by omega)
     ·exact .inl h),if_neg (by simpa using hc)]
    rfl
def bdPl (P:Program) (t:TypeId):Option (List (Nat × Nat)) :=
 match P.underlying t with
 |some (.struct fs)=>(pureRun P (fs.mapM fun f=>do pure (f.offset,←sizeOf f.type))).map (·.toList)
 |_=>none
def dBuild (P:Program) (t:TypeId) (vs:List (Nat × Value)) (H:Heap):Option Dr :=
 if vs.all (fun p=>p.2.cells.toList.all one) && zflat P t then
  match pureRun P (Instr.build t ⟨vs⟩) with
  |some v=>some (.val v H)
  |none=>none
 else none
theorem zcd {t:TypeId}{parts:Array (Nat × Operand)}:dop P ⟨d,.build t parts,ty,pos,af,g⟩ ρ H=dBuild P t (parts.toList.map fun p=>(p.1,ρ p.2)) H:=by
 have e1:(parts.toList.all fun p=>(ρ p.2).cells.toList.all one)=((parts.toList.map fun p=>(p.1,ρ p.2)).all fun p=>p.2.cells.toList.all one):=by rw[List.all_map];rfl
 have e2:(parts.map fun (i,x)=>(i,ρ x))=⟨parts.toList.map fun p=>(p.1,ρ p.2)⟩:=by
  apply Array.ext';simp
 simp only[dop,dBuild,e1,e2];rfl
def dBd (c:Bool) (r:Option (List Value)) (H:Heap):Option Dr:=match c,r with|true,some cs=>some (.val (.agg ⟨cs⟩) H)|_,_=>none
theorem zfd {cs:List Value}:dBd true (some cs) H=some (.val (.agg ⟨cs⟩) H):=_root_.id rfl
theorem z2b {t:TypeId}{pl:List (Nat × Nat)}{zs:List Value}{vs:List (Nat × Value)}(hp:bdPl P t=some pl) (hz:zerosOf P t=some zs) :
  dBuild P t vs H=dBd (vs.all fun p=>p.2.cells.toList.all one) (layC pl zs (vs.map fun p=>(p.1,p.2.cells.toList))) H:=by
 unfold zerosOf at hz;split at hz
 ·rename_i z hzv;split at hz
  ·rename_i hfl;cases hz;rw[Zi] at hfl;have hzf:zflat P t=true:=by unfold zflat;rw[hzv];exact hfl.1
   unfold dBuild;rw[hzf,Bool.and_true];cases hall:(vs.all fun p=>p.2.cells.toList.all one) with
   |false=>rfl
   |true =>
    rw[if_pos rfl];unfold bdPl at hp;split at hp
    ·rename_i fs hu;cases hm:pureRun P (fs.mapM fun f=>do pure (f.offset,←sizeOf f.type)) with
     |none=>rw[hm] at hp;cases hp
     |some places =>
      rw[hm] at hp;cases hp;have hf:=zb8 (place:=(places[·]?)) (pl:=places.toList) (fun i=>by simp) vs z.cells;simp only[Instr.build,z0a,hzv,z0n hu,Zq,hm];rw[←hf];cases Instr.fill (places[·]?) z.cells vs with
      |none=>rfl
      |some cells=>rfl
    ·cases hp
  ·cases hz
 ·cases hz
def dBuildS (P:Program) (t:TypeId) (len:Nat) (vs:List (Nat × Value)) (H:Heap):Option Dr :=
 match P.underlying t with
 |some (.slice e)=>match P.info? e with
  |some i=>match i.zero with
   |some z =>
    let size:=i.size
    if len≤most∧len*size≤most∧flat z=true∧z.cells.size=size∧z.cells.toList.all one=true∧vs.all (fun p=>p.2.cells.toList.all one)=true then
     match Instr.fill (fun i=>some (i*size,size)) ((Array.range (len*size)).map (z.cells[· % z.cells.size]!)) vs with
     |some cells=>some (.val (.slice (some ⟨H.next,0,none⟩) len len) (H.new (some (.row cells.toList e))))
     |none=>none
    else none
   |none=>none
  |none=>none
 |_=>none
theorem z5g {t:TypeId}{len:Nat}{parts:Array (Nat × Operand)}:dop P ⟨d,.buildSlice t len parts,ty,pos,af,g⟩ ρ H=dBuildS P t len (parts.toList.map fun p=>(p.1,ρ p.2)) H:=by
 have e1:(parts.toList.all fun p=>(ρ p.2).cells.toList.all one)=((parts.toList.map fun p=>(p.1,ρ p.2)).all fun p=>p.2.cells.toList.all one):=by rw[List.all_map];rfl
 simp only[dop,dBuildS,e1];rfl
def bsZs (P:Program) (t:TypeId) (len:Nat):Option (TypeId × Nat × List Value) :=
 match P.underlying t with
 |some (.slice e)=>match P.info? e with
  |some i=>match i.zero with
   |some z=>if len≤most∧len*i.size≤most∧flat z=true∧z.cells.size=i.size∧z.cells.toList.all one=true then some (e,i.size,(Zj (len*i.size)).map (z.cells[· % z.cells.size]!)) else none
   |none=>none
  |none=>none
 |_=>none
def placesN (size:Nat):Nat→Nat→List (Nat × Nat)
 |0,_=>[]
 |n+1,o=>(o,size) :: placesN size n (o+size)
theorem z8q (size:Nat):∀(n o i:Nat),(placesN size n o)[i]?=if i < n then some (o+i*size,size) else none
 |0,o,i=>by simp [placesN]
 |n+1,o,0=>by simp [placesN]
 |n+1,o,i+1=>by
  rw[placesN,List.getElem?_cons_succ,z8q size n (o+size) i];by_cases h:i < n
  ·rw[if_pos h,if_pos (by omega),Nat.succ_mul];congr 2;omega
  ·rw[if_neg h,if_neg (by omega)]
def dBs (e:TypeId) (n:Nat) (c:Bool) (r:Option (List Value)) (H:Heap):Option Dr:=match c,r with|true,some cs=>some (.val (.slice (some ⟨H.next,0,none⟩) n n) (H.new (some (.row cs e))))|_,_=>none
theorem zfe {e:TypeId}{n:Nat}{cs:List Value}:dBs e n true (some cs) H=some (.val (.slice (some ⟨H.next,0,none⟩) n n) (H.new (some (.row cs e)))):=_root_.id rfl
theorem ziv {size n:Nat}:∀(parts:List (Nat × Value)) (cells:Array Value),parts.all (fun p=>Nat.blt p.1 n)=true →
  Instr.fill (fun i=>some (i*size,size)) cells parts=Instr.fill (fun i=>(placesN size n 0)[i]?) cells parts
 |[],cells,_=>rfl
 |(i,v) :: rest,cells,h=>by
  simp only[List.all_cons,Zi] at h;have hi:i < n:=of_eq_true (by rw[←Nat.blt_eq,h.1];simp);rw[Instr.fill,Instr.fill,z8q,if_pos hi,Nat.zero_add];simp only;split
  ·rfl
  ·exact ziv rest _ h.2
theorem z1g {t e:TypeId}{len size:Nat}{zs:List Value}{vs:List (Nat × Value)}(h:bsZs P t len=some (e,size,zs)) (hv:vs.all (fun p=>Nat.blt p.1 len)=true) :
  dBuildS P t len vs H=dBs e len (vs.all fun p=>p.2.cells.toList.all one) (layC (placesN size len 0) zs (vs.map fun p=>(p.1,p.2.cells.toList))) H:=by
 unfold bsZs at h;split at h
 ·rename_i e' h1;split at h
  ·rename_i i h2;split at h
   ·rename_i z h3;split at h
    ·rename_i hc;obtain⟨h5,h6,h7,h8,h9⟩:=hc;simp only[Option.some.injEq,Prod.mk.injEq] at h;obtain⟨rfl,rfl,rfl⟩:=h;simp only[dBuildS,h1,h2,h3];cases hall:(vs.all fun p=>p.2.cells.toList.all one) with
     |false=>rw[if_neg (by simp)];rfl
     |true =>
      rw[if_pos ⟨h5,h6,h7,h8,h9,rfl⟩,ziv vs _ hv];have hf:=zb8 (place:=((placesN i.size len 0)[·]?)) (pl:=placesN i.size len 0) (fun i=>rfl) vs ((Array.range (len*i.size)).map (z.cells[· % z.cells.size]!));rw[Array.toList_map,Array.toList_range] at hf;rw[←hf];cases Instr.fill ((placesN i.size len 0)[·]?) ((Array.range (len*i.size)).map (z.cells[· % z.cells.size]!)) vs with
      |none=>rfl
      |some cells=>rfl
    ·cases h
   ·cases h
  ·cases h
 ·cases h
def dSl (P:Program) (t:TypeId) (v:Value) (lo hi mx:Option Value) (H:Heap):Option Dr :=
 match v with
 |.string s=>dOut ((lo.toList++(hi.toList++mx.toList)).all flat) (pureRun P (do let r ←Instr.sliceAt t (.string s) lo hi mx;pure (Next.value r))) H
 |v=>dslice P t v lo hi mx H
theorem zhh {t:TypeId}{s:ByteArray}{k:IntKind}{l:Nat}(hu:P.underlying t=some .string) (h:l≤s.size):dSl P t (.string s) (some (.int k (l:Int))) none none H=some (.val (.string (s.extract l s.size)) H):=by
 have hb:(0:Int)≤(l:Int)∧(l:Int)≤(s.size:Int):=⟨by omega,by omega⟩
 simp only[dSl,Instr.sliceAt,Instr.slice,z0a,z0n hu,Zq];simp [Instr.sliceBounds,Instr.sliceBound,asIntOf,z3d,hb,h,dOut,flat]
theorem z58 {t:TypeId}{s:ByteArray}{k':IntKind}{m:Nat}(hu:P.underlying t=some .string) (h':m≤s.size):dSl P t (.string s) none (some (.int k' (m:Int))) none H=some (.val (.string (s.extract 0 m)) H):=by
 simp only[dSl,Instr.sliceAt,Instr.slice,z0a,z0n hu,Zq];simp [Instr.sliceBounds,Instr.sliceBound,asIntOf,z3d,h',dOut,flat]
theorem z2k {k:IntKind}{n m:Nat}(h:n≤m):intBetween (.int k (n:Int)) m=some n:=by
 unfold intBetween;simp only;rw[if_pos ⟨by omega,by omega⟩];simp
def slcOk (P:Program) (t e:TypeId) (s:Nat):Prop:=P.underlying t=some (.slice e)∧(P.info? e).isSome=true∧P.cellsOf e=s
theorem ziw {t e:TypeId}{s:Nat}{a:Option Addr}{n c m:Nat}{k:IntKind}(h:slcOk P t e s) (hm:m≤c):dSl P t (.slice a n c) none (some (.int k (m:Int))) none H=some (.val (.slice a m c) H):=by
 obtain⟨h1,h2,_⟩:=h;obtain⟨i,hi⟩:=Option.isSome_iff_exists.1 h2;simp only[dSl,dslice,h1,hi,bound,z2k hm];rfl
theorem zpb {t e:TypeId}{s b o n c l:Nat}{k:IntKind}{B:Blk}(h:slcOk P t e s) (hl:l≤n) (h0:0 < l) (hc:l < c) (hb:H.get b=some B) (hB:(∃cs,B=.row cs e)∨∃cs e',B=.ro cs e') :
  dSl P t (.slice (some ⟨b,o,none⟩) n c) (some (.int k (l:Int))) none none H=some (.val (.slice (some ⟨b,o+l*s,none⟩) (n - l) (c - l)) H):=by
 obtain⟨h1,h2,h3⟩:=h;obtain⟨i,hi⟩:=Option.isSome_iff_exists.1 h2;have e0:Zk l 0=false:=by rw[←ZB,Zp];omega
 have e1:Zk l c=false:=by rw[←ZB,Zp];omega
 simp only[dSl,dslice,h1,hi,bound,z2k hl,e0,e1,hb];rcases hB with ⟨cs,rfl⟩|⟨cs,e',rfl⟩
 ·simp [h3]
 ·simp [h3]
theorem zce {t:TypeId}{v:Operand}{lo hi mx:Option Operand}:dop P ⟨d,.slice t v lo hi mx,ty,pos,af,g⟩ ρ H=dSl P t (ρ v) (lo.map ρ) (hi.map ρ) (mx.map ρ) H:=by
 cases h:ρ v with
 |string s =>
  have e:dop P ⟨d,.slice t v lo hi mx,ty,pos,af,g⟩ ρ H=dflat P ⟨d,.slice t v lo hi mx,ty,pos,af,g⟩ ρ H:=by simp only[dop,h]
  rw[e,z8m];have e1:allFlat ρ ⟨d,.slice t v lo hi mx,ty,pos,af,g⟩=(((lo.map ρ).toList++((hi.map ρ).toList++(mx.map ρ).toList)).all flat):=by
   unfold allFlat;cases lo<;>cases hi<;>cases mx<;>simp [Op.operands,h,flat]
  have e2:execOp ρ ⟨d,.slice t v lo hi mx,ty,pos,af,g⟩=(do let r ←Instr.sliceAt t (.string s) (lo.map ρ) (hi.map ρ) (mx.map ρ);pure (Next.value r)):=by rw[←h];rfl
  rw[e1,e2];rfl
 |_=>simp only[dop,h,dSl]
def dAp (P:Program) (ts:Array TypeId) (s v:Value) (H:Heap):Option Dr :=
 match ts.toList with
 |[t,xt]=>match dzeros P t xt s v H with
  |some r=>some r
  |none=>dappend P ts s v H
 |_=>none
theorem za1 {s v:Operand}{ts:Array TypeId}:dop P ⟨d,.call ⟨.builtin .append,#[s,v],ts⟩,ty,pos,af,g⟩ ρ H=dAp P ts (ρ s) (ρ v) H:=_root_.id rfl
def apSz (P:Program) (t:TypeId):Option (TypeId × Nat) :=
 match P.underlying t with
 |some (.slice e)=>match P.info? e with
  |some i=>if i.bytes≤4096∧0 < i.size∧zsize i=i.size then some (e,i.size) else none
  |none=>none
 |_=>none
def apOk (P:Program) (t e:TypeId) (s:Nat):Prop:=∃i,P.underlying t=some (.slice e)∧P.info? e=some i∧i.size=s∧i.bytes≤4096∧0 < s∧zsize i=s
theorem z6u {t e:TypeId}{s:Nat}(h:apSz P t=some (e,s)):apOk P t e s:=by
 unfold apSz at h;split at h
 ·rename_i e' h1;split at h
  ·rename_i i h2;split at h
   ·rename_i hc;simp only[Option.some.injEq,Prod.mk.injEq] at h;obtain⟨rfl,rfl⟩:=h;exact⟨i,h1,h2,rfl,hc.1,hc.2.1,hc.2.2⟩
   ·cases h
  ·cases h
 ·cases h
theorem z4x {t xt:TypeId}{s:Value}{a:Option Addr}{n c:Nat}:dzeros P t xt s (.slice a n c) H=none:=by
 unfold dzeros;split
 ·rename_i h;simp [intBetween] at h
 ·rfl
theorem zo0 {t e:TypeId}{s:Nat}{a a':Option Addr}{n c c':Nat}(h:apOk P t e s):dAp P #[t,t] (.slice a n c) (.slice a' 0 c') H=some (.val (.slice a n c) H):=by
 obtain⟨i,h1,h2,_⟩:=h;simp [dAp,z4x,dappend,h1,h2]
theorem z8r {t e:TypeId}{s:Nat}{ad:Addr}{m c':Nat}{news:List Value}(h:apOk P t e s) (hm:0 < m) (hmost:m≤most) (hl:H.load ad (m*s)=some news) (hone:news.all one=true) :
  dAp P #[t,t] (.slice none 0 0) (.slice (some ad) m c') H=some (.val (.slice (some ⟨H.next,0,none⟩) m m) (H.new (some (.row news e)))):=by
 obtain⟨i,h1,h2,h3,h4,h5,h6⟩:=h;subst h3;have e0:Zk m 0=false:=by rw[←ZB,Zp];omega
 have hlen:news.length=m*i.size:=by
  unfold Heap.load at hl;split at hl
  ·simp only at hl;split at hl
   ·rename_i hh;cases hl;rw[Zp] at hh;exact hh
   ·cases hl
  ·cases hl
 simp only[dAp,z4x,dappend,h1,h2,Zy,e0,dsource,hl];simp [hmost,h4,h5,h6,hlen,hone]
theorem z5u {t e:TypeId}{s b:Nat}{ad:Addr}{n c m c':Nat}{cs news:List Value}(h:apOk P t e s) (hm:0 < m) (hmost:n+m≤most) (hl:H.load ad (m*s)=some news) (hone:news.all one=true)
  (hb:H.get b=some (.row cs e)) (hn:n*s≤cs.length) (hone':(cs.take (n*s)).all one=true) :
  dAp P #[t,t] (.slice (some ⟨b,0,none⟩) n c) (.slice (some ad) m c') H=some (.val (.slice (some ⟨H.next,0,none⟩) (n+m) (n+m)) ((H.put b none).new (some (.row (cs.take (n*s)++news) e)))):=by
 obtain⟨i,h1,h2,h3,h4,h5,h6⟩:=h;subst h3;have e0:Zk m 0=false:=by rw[←ZB,Zp];omega
 have hlen:news.length=m*i.size:=by
  unfold Heap.load at hl;split at hl
  ·simp only at hl;split at hl
   ·rename_i hh;cases hl;rw[Zp] at hh;exact hh
   ·cases hl
  ·cases hl
 simp only[dAp,z4x,dappend,h1,h2,Zy,e0,dsource,hl,hb];simp [hmost,h4,h5,h6,hlen,hone,hn,hone']
def repL (n:Nat) (zs:List Value):List Value:=(List.replicate n zs).flatten
def dMk (P:Program) (t:TypeId) (l c:Value) (H:Heap):Option Dr :=
 match P.underlying t with
 |some (.slice e)=>match P.info? e,intBetween c most with
  |some i,some cap=>match i.zero,intBetween l cap with
   |some z,some len =>
    let size:=i.size
    if flat z=true∧z.cells.size=size∧i.bytes≤4096∧z.cells.toList.all one=true then
     some (.val (.slice (some ⟨H.next,0,none⟩) len cap) (H.new (some (.row ((Zj (cap*size)).map (z.cells[· % z.cells.size]!)) e))))
    else none
   |_,_=>none
  |_,_=>none
 |_=>none
theorem z6e {t:TypeId}{l c:Operand}:dop P ⟨d,.makeSlice t l c,ty,pos,af,g⟩ ρ H=dMk P t (ρ l) (ρ c) H:=_root_.id rfl
def mkZs (P:Program) (t:TypeId):Option (TypeId × List Value) :=
 match P.underlying t with
 |some (.slice e)=>match P.info? e with
  |some i=>match i.zero with
   |some z=>if flat z=true∧z.cells.size=i.size∧i.bytes≤4096∧z.cells.toList.all one=true∧0 < i.size then some (e,z.cells.toList) else none
   |none=>none
  |none=>none
 |_=>none
def mkOk (P:Program) (t e:TypeId) (zs:List Value):Prop:=∃i z,P.underlying t=some (.slice e)∧P.info? e=some i∧i.zero=some z∧flat z=true∧z.cells.size=i.size∧i.bytes≤4096∧z.cells.toList.all one=true∧z.cells.toList=zs∧0 < i.size
theorem zo1 {t e:TypeId}{zs:List Value}(h:mkZs P t=some (e,zs)):mkOk P t e zs:=by
 unfold mkZs at h;split at h
 ·rename_i e' h1;split at h
  ·rename_i i h2;split at h
   ·rename_i z h3;split at h
    ·rename_i hc;simp only[Option.some.injEq,Prod.mk.injEq] at h;obtain⟨rfl,rfl⟩:=h;exact⟨i,z,h1,h2,h3,hc.1,hc.2.1,hc.2.2.1,hc.2.2.2.1,rfl,hc.2.2.2.2⟩
    ·cases h
   ·cases h
  ·cases h
 ·cases h
theorem zcf {zs:Array Value}(hz:0 < zs.size):∀n,(Zj (n*zs.size)).map (zs[· % zs.size]!)=repL n zs.toList
 |0=>by simp [repL]
 |n+1=>by
  have ih:=zcf hz n;unfold repL at ih ⊢;rw[Nat.succ_mul,List.range_add,ZI,ih,List.replicate_succ',List.flatten_append];congr 1;simp only[ZJ,List.flatten_cons,List.flatten_nil,List.append_nil];apply ZD;intro k;by_cases hk:k < zs.size
  ·simp [hk,Nat.add_mod,Nat.mod_eq_of_lt hk]
  ·simp [hk]
theorem zo2 {t e:TypeId}{zs:List Value}{n:Nat}{k k':IntKind}(h:mkOk P t e zs) (hn:n≤most):dMk P t (.int k (n:Int)) (.int k' (n:Int)) H=some (.val (.slice (some ⟨H.next,0,none⟩) n n) (H.new (some (.row (repL n zs) e)))):=by
 obtain⟨i,z,h1,h2,h3,h4,h5,h6,h7,h8,h9⟩:=h;subst h8;simp only[dMk,h1,h2,h3,z2k hn,z2k (Ze n)];rw[if_pos ⟨h4,h5,h6,h7⟩,←h5,zcf (by omega)]
theorem zlg {n:Nat}{v:Value}:repL n [v]=List.replicate n v:=by
 unfold repL
 induction n with
 |zero=>rfl
 |succ n ih=>rw[List.replicate_succ,List.flatten_cons,ih,List.replicate_succ];rfl
def dCp (P:Program) (ts:Array TypeId) (a b:Value) (H:Heap):Option Dr:=dcopy P ts a b H
theorem zff {a b:Operand}{ts:Array TypeId}:dop P ⟨d,.call ⟨.builtin .copy,#[a,b],ts⟩,ty,pos,af,g⟩ ρ H=dCp P ts (ρ a) (ρ b) H:=_root_.id rfl
def dClr (P:Program) (ts:Array TypeId) (a:Value) (H:Heap):Option Dr:=dclear P ts a H
theorem z7f {f:FuncId}{a b:Array Operand}:dop P ⟨d,.makeFunc (.func f) a b,ty,pos,af,g⟩ ρ H=some (.val (.func (.func f) (a.map ρ) (b.map ρ)) H):=_root_.id rfl
def dCallV (P:Program) (o:Oper) (ρ:Operand→Value) (f:Value) (args:List Value) (H:Heap):Option Dr :=
 match f with
 |.func (.func f) first captured =>
  match dcall1 P f (first.toList++args++captured.toList) with
  |some r=>some r
  |none=>dflat P o ρ H
 |.func (.yield l) first _=>some (.yield l (first.toList++args))
 |_=>none
theorem zix {t:Tmp}{args:Array Operand}{ats:Array TypeId} :
  dop P ⟨d,.call ⟨.value (.tmp t),args,ats⟩,ty,pos,af,g⟩ ρ H=dCallV P ⟨d,.call ⟨.value (.tmp t),args,ats⟩,ty,pos,af,g⟩ ρ (ρ (.tmp t)) (args.toList.map ρ) H:=by
 simp only[dop,dCallV];cases ρ (.tmp t) with
 |func f a b=>cases f<;>rfl
 |_=>rfl
theorem ze1 {o:Oper}{f:FuncId}{a b:Array Value}{args:List Value}(h:callable P f=true):dCallV P o ρ (.func (.func f) a b) args H=some (.call f (a.toList++args++b.toList)):=by
 unfold callable at h;simp only[dCallV];cases hf:P.funcs[f]? with
 |none=>rw[hf] at h;cases h
 |some fn =>
  rw[hf] at h;simp only at h;simp [dcall1,hf,h]
end
end Go.Hb
end

section
namespace Go.Hb
open Go Go.RowKit
section
variable {P:Program}{H:Heap}{ρ:Operand→Value}{d:Option Tmp}{ty:TypeId}{pos:String}{af:Array Edge}{g:Option (Nat × Bool)}
def byteAt (s:ByteArray) (i:Nat):Nat:=(s.data.toList.getD i 0).toNat
theorem z3f (s:ByteArray) (i:Nat):byteAt s i < 256:=UInt8.toNat_lt _
theorem z2o (s:ByteArray) (i:Nat) (h:i < s.size):byteAt s i=(s[i]'h).toNat:=by
 have h':i < s.data.toList.length:=by simpa using h
 unfold byteAt;rw[List.getD_eq_getElem?_getD,Zd h'];rfl
def dIdx (P:Program) (t:TypeId) (v i:Value) (H:Heap):Option Dr :=
 match P.underlying t,v with
 |some (.array n e),.agg cs=>match intBetween i (n - 1),Zk n 0 with
  |some i,false=>(dpart P e cs (i*P.cellsOf e)).map (.val · H)
  |_,_=>none
 |_,v=>dOut (flat v && (flat i && true)) (pureRun P (do let r ←Instr.index t v i;pure (Next.value r))) H
theorem zcg {t:TypeId}{x i:Operand}:dop P ⟨d,.index t x i,ty,pos,af,g⟩ ρ H=dIdx P t (ρ x) (ρ i) H:=by
 have e:dflat P ⟨d,.index t x i,ty,pos,af,g⟩ ρ H=dOut (flat (ρ x) && (flat (ρ i) && true)) (pureRun P (do let r ←Instr.index t (ρ x) (ρ i);pure (Next.value r))) H:=rfl;show (match P.underlying t,ρ x with|some (.array n e),.agg cs=>_|_,_=>_)=_;rw[e];unfold dIdx;split<;>rfl
theorem ze2 {t:TypeId}{s:ByteArray}{k:IntKind}{i:Nat}(hu:P.underlying t=some .string) (h:i < s.size):dIdx P t (.string s) (.int k i) H=some (.val (.int .u8 (s[i]'h).toNat) H):=by
 have hs:s[i]?=some (s[i]'h):=getElem?_pos s i h;simp only[dIdx,hu,Instr.index];simp [z0a,z0n hu,z3d,asIntOf,dOut,flat,hs]
theorem zch {t:TypeId}{s:ByteArray}{k:IntKind}{i:Nat}(hu:P.underlying t=some .string) (h:i < s.size):dIdx P t (.string s) (.int k (i:Int)) H=some (.val (.int .u8 (byteAt s i:Nat)) H):=by
 rw[ze2 hu h,z2o s i h]
def dCon (P:Program) (src dst:TypeId) (v:Value) (H:Heap):Option Dr :=
 match P.underlying src,P.underlying dst,v with
  |some (.slice e),some .string,.slice a n c=>match P.underlying e with
   |some (.int .u8)=>(dbytes (.slice a n c) H).map (.val · H)
   |_=>none
  |_,some (.slice _),_=>none
  |_,_,v=>dOut (flat v && true) (pureRun P (do let r ←convert src dst v;pure (Next.value r))) H
theorem z8s {src dst:TypeId}{x:Operand}:dop P ⟨d,.convert src dst x,ty,pos,af,g⟩ ρ H=dCon P src dst (ρ x) H:=by
 have e:dflat P ⟨d,.convert src dst x,ty,pos,af,g⟩ ρ H=dOut (flat (ρ x) && true) (pureRun P (do let r ←convert src dst (ρ x);pure (Next.value r))) H:=rfl;show (match P.underlying src,P.underlying dst,ρ x with|some (.slice e),some .string,.slice a n c=>_|_,some (.slice _),_=>_|_,_,_=>_)=_;rw[e];unfold dCon;split<;>rfl
theorem zb9 {src dst:TypeId}{k k' k2:IntKind}{n:Int}(hs:P.underlying src=some (.int k)) (hd:P.underlying dst=some (.int k')):dCon P src dst (.int k2 n) H=some (.val (.int k' (k'.wrap n)) H):=by
 simp only[dCon,hs,hd];simp [z0a,z0n hs,z0n hd,z3d,convert,Conv.intToInt,dOut,flat]
theorem z6v {src dst e:TypeId}{a:Option Addr}{n c:Nat}{v:Value}(hs:P.underlying src=some (.slice e)) (hd:P.underlying dst=some .string) (he:P.underlying e=some (.int .u8)) (h:dbytes (.slice a n c) H=some v) :
  dCon P src dst (.slice a n c) H=some (.val v H):=by
 simp only[dCon,hs,hd,he,h];rfl
def kAnd (k:IntKind) (a b:Int):Int:=k.wrap (BitVec.ofInt k.bits a &&& BitVec.ofInt k.bits b).toNat
def kOr (k:IntKind) (a b:Int):Int:=k.wrap (BitVec.ofInt k.bits a ||| BitVec.ofInt k.bits b).toNat
theorem bQuo {t:TypeId}{x y:Operand}{k:IntKind}{a b:Int}(h:b≠0):dBin P .quo t x y (.int k a) (.int k b) H=some (.val (.int k (k.wrap (a.tdiv b))) H):=by
 simp [dBin,dnil,flat,eqGuard,binOp,Op.intDiv,h,Sem.bind];rfl
theorem bRem {t:TypeId}{x y:Operand}{k:IntKind}{a b:Int}(h:b≠0):dBin P .rem t x y (.int k a) (.int k b) H=some (.val (.int k (a.tmod b)) H):=by
 simp [dBin,dnil,flat,eqGuard,binOp,Op.intDiv,h,Sem.bind];rfl
theorem zqe {k:IntKind}{a:Int}:dUn P .neg (.int k a) H=some (.val (.int k (k.wrap (0 - a))) H):=by
 simp [dUn,Op.unary,Op.intArith,flat,dOut,z0a];rfl
theorem zpc {t:TypeId}{x y:Operand}{a b:ByteArray}:dBin P .lss t x y (.string a) (.string b) H=some (.val (.bool (Op.bytesLess a.toList b.toList)) H):=by
 simp [dBin,dnil,flat,eqGuard,binOp,Op.stringOp,Sem.bind];rfl
end
theorem z19 {a b:Int}(h:a=b):(a == b)=true:=by simp [h]
theorem z0r {a b:Int}(h:a≠b):(a == b)=false:=by simp [h]
theorem z3i {a b:Int}(h:a≠b):(a != b)=true:=by simp [h]
theorem z17 {a b:Int}(h:a=b):(a != b)=false:=by simp [h]
section
open IntWalk
theorem ziy {n:Int}(h1:0≤n) (h2:n≤255):IntKind.u8.wrap n=n:=u8_in n ⟨h1,h2⟩
end
def bytesV (l:List Nat):List Value:=l.map fun n:Nat=>Value.int .u8 (n:Int)
theorem z8t:∀l:List Nat,bytesOf (bytesV l)=some (l.map fun (n:Nat)=>(n:Int))
 |[]=>rfl
 |n :: l=>by
  have h:=z8t l;show bytesOf (Value.int .u8 (n:Int) :: bytesV l)=_;rw[bytesOf,h];rfl
theorem ze3 (b:ByteArray) (x:UInt8):(b.push x).data.toList=b.data.toList++[x]:=by
 cases b;simp [ByteArray.push]
theorem zci:∀(l:List Int) (b:ByteArray),(l.foldl (fun r n=>r.push (UInt8.ofNat n.toNat)) b).data.toList=b.data.toList++l.map fun n=>UInt8.ofNat n.toNat
 |[],b=>by simp
 |n :: l,b=>by
  rw[List.foldl_cons,zci l,ze3];simp
theorem z6w {H:Heap}{a:Addr}{n c:Nat}{l:List Nat}(hl:H.load a n=some (bytesV l)) (h0:n≠0) :
  ∃s:ByteArray,dbytes (.slice (some a) n c) H=some (.string s)∧s.data.toList=l.map UInt8.ofNat:=by
 have e0:Zk n 0=false:=by rw[←ZB,Zp];exact h0
 refine⟨_,by simp only[dbytes,e0,hl,z8t,Zc,if_false];rfl,?_⟩;rw[zci];simp only[Zg,ByteArray.emptyWithCapacity,ZJ];show []++_=_;rw[List.nil_append];apply List.map_congr_left;intro x _;simp
end Go.Hb
end

section
namespace Go.Hb
open Go Go.RowKit
structure OwnS (H:Heap) (e:TypeId) (s base:Nat) (L:List (List Value)) (b c:Nat):Prop where
 lo:base≤b
 hi:b < H.next
 row:∃cs,H.get b=some (.row cs e)∧L.length*s≤cs.length∧cs.take (L.length*s)=L.flatten
 len:L.length≤c
 cap:c≤maxLen
 sz:∀x∈L,x.length=s
 all:∀x∈L,x.all one=true
def RepO (H:Heap) (e:TypeId) (s base:Nat) (L:List (List Value)) (v:Value):Prop :=
 (L=[]∧v=.slice none 0 0)∨∃b c,OwnS H e s base L b c∧v=.slice (some ⟨b,0,none⟩) L.length c
theorem z59 {s:Nat}:∀(L:List (List Value)),(∀x∈L,x.length=s)→L.flatten.length=L.length*s
 |[],_=>by simp
 |x :: L,h=>by
  rw[List.flatten_cons,Zu,h x (by simp),z59 L fun y hy=>h y (Zl _ hy),ZF,Nat.succ_mul];omega
theorem z6x {s:Nat}:∀(L:List (List Value)) (i:Nat) (x:List Value),(∀x∈L,x.length=s)→L[i]?=some x→(L.flatten.drop (i*s)).take s=x
 |[],i,x,_,h=>by simp at h
 |y :: L,0,x,hs,h=>by
  simp at h;subst h;rw[Nat.zero_mul,List.drop_zero,List.flatten_cons,List.take_append_of_le_length (by rw[hs y (by simp)];exact Ze _),Zx (by rw[hs y (by simp)];exact Ze _)]
 |y :: L,i+1,x,hs,h=>by
  simp at h;have hy:y.length=s:=hs y (by simp);rw[List.flatten_cons,Nat.succ_mul,Nat.add_comm,←List.drop_drop,List.drop_left' hy];exact z6x L i x (fun z hz=>hs z (Zl _ hz)) h
theorem zfg {s:Nat}:∀(L:List (List Value)) (i:Nat) (x:List Value),(∀x∈L,x.length=s)→x.length=s→i < L.length→splice L.flatten (i*s) x=(L.set i x).flatten
 |[],i,x,_,_,h=>by simp at h
 |y :: L,0,x,hs,hx,h=>by
  have hy:y.length=s:=hs y (by simp);rw[Nat.zero_mul,z5t,List.flatten_cons,List.set_cons_zero,List.flatten_cons,hx,←hy,List.drop_left]
 |y :: L,i+1,x,hs,hx,h=>by
  have hy:y.length=s:=hs y (by simp);have hs':∀z∈L,z.length=s:=fun z hz=>hs z (Zl _ hz)
  have hi:i < L.length:=by simpa using h
  have hL:=z59 L hs';have hb:i*s+s≤L.length*s:=by rw[←Nat.succ_mul];exact Nat.mul_le_mul_right _ hi
  rw[List.set_cons_succ,List.flatten_cons,List.flatten_cons,←zfg L i x hs' hx hi,z2i _ _ _ (by rw[Zu,hy,hL,Nat.succ_mul];omega),z2i _ _ _ (by rw[hL];omega),Nat.succ_mul];rw[List.take_append,List.drop_append,hy];have e1:i*s+s - s=i*s:=by omega
  have e2:i*s+s+x.length - s=i*s+x.length:=by omega
  rw[e1,e2,Zx (by omega),List.drop_eq_nil_of_le (by omega)];simp
theorem ze4 {cs vs:List Value}{o n:Nat}(h:o+vs.length≤n) (hn:n≤cs.length):(splice cs o vs).take n=splice (cs.take n) o vs:=by
 rw[z2i _ _ _ (by omega),z2i _ _ _ (by rw[List.length_take];omega)];apply ZD;intro k;simp only[List.getElem?_append,List.getElem?_take,List.getElem?_drop,List.length_take,Zu,List.length_drop]
 grind
theorem za2 {cs vs:List Value}{o:Nat}(h:o+vs.length≤cs.length):(splice cs o vs).length=cs.length:=by
 rw[z2i _ _ _ (by omega)];simp;omega
section
variable {H:Heap}{e:TypeId}{s base b c:Nat}{L:List (List Value)}
theorem OwnS.load (h:OwnS H e s base L b c) {i:Nat}{x:List Value}(hx:L[i]?=some x):H.load ⟨b,i*s,none⟩ s=some x:=by
 obtain⟨cs,hg,hl,ht⟩:=h.row;have hi:i < L.length:=(List.getElem?_eq_some_iff.1 hx).1;have hle:i*s+s≤L.length*s:=by rw[←Nat.succ_mul];exact Nat.mul_le_mul_right _ hi
 have hc:H.cells b=some cs:=by unfold Heap.cells;rw[hg]
 have e1:(cs.drop (i*s)).take s=x:=by
  rw[←z6x L i x h.sz hx,←ht,List.drop_take,List.take_take];congr 1;omega
 unfold Heap.load;simp only[hc,e1];rw[if_pos (by rw[Zp];exact h.sz x (List.mem_of_getElem? hx))]
theorem OwnS.part (h:OwnS H e s base L b c) {i j n:Nat}{x:List Value}(hx:L[i]?=some x) (hj:j+n≤s):H.load ⟨b,i*s+j,none⟩ n=some ((x.drop j).take n):=by
 obtain⟨cs,hg,hl,ht⟩:=h.row;have hi:i < L.length:=(List.getElem?_eq_some_iff.1 hx).1;have hle:i*s+s≤L.length*s:=by rw[←Nat.succ_mul];exact Nat.mul_le_mul_right _ hi
 have hc:H.cells b=some cs:=by unfold Heap.cells;rw[hg]
 have e1:(cs.drop (i*s+j)).take n=(x.drop j).take n:=by
  rw[←z6x L i x h.sz hx,←ht,List.drop_take,List.drop_take,List.take_take,List.drop_take,List.take_take,List.drop_drop];congr 1;omega
 have hxl:=h.sz x (List.mem_of_getElem? hx);unfold Heap.load;simp only[hc,e1];rw[if_pos (by rw[Zp];simp;omega)]
theorem OwnS.set (h:OwnS H e s base L b c) {cs:List Value}(hg:H.get b=some (.row cs e)) {i:Nat}{y:List Value}(hi:i < L.length) (hy:y.length=s) (ha:y.all one=true) :
  OwnS (H.put b (some (.row (splice cs (i*s) y) e))) e s base (L.set i y) b c:=by
 obtain⟨cs',hg',hl,ht⟩:=h.row;rw[hg] at hg';cases hg';have hle:i*s+s≤L.length*s:=by rw[←Nat.succ_mul];exact Nat.mul_le_mul_right _ hi
 refine⟨h.lo,h.hi,⟨_,by rw[ziu],by rw[List.length_set,za2 (by omega)];exact hl,?_⟩,by rw[List.length_set];exact h.len,h.cap,fun x hx=>?_,fun x hx=>?_⟩
 ·rw[List.length_set,ze4 (by omega) hl,ht,zfg L i y h.sz hy hi]
 ·rcases List.mem_or_eq_of_mem_set hx with h1|h1
  ·exact h.sz x h1
  ·rw[h1];exact hy
 ·rcases List.mem_or_eq_of_mem_set hx with h1|h1
  ·exact h.all x h1
  ·rw[h1];exact ha
theorem OwnS.heap (h:OwnS H e s base L b c) {H':Heap}(hg:H'.get b=H.get b) (hn:H.next≤H'.next):OwnS H' e s base L b c:=by
 obtain⟨cs,h1,h2,h3⟩:=h.row;exact⟨h.lo,Zt h.hi hn,⟨cs,hg.trans h1,h2,h3⟩,h.len,h.cap,h.sz,h.all⟩
theorem OwnS.keep (h:OwnS H e s base L b c) {H':Heap}(hx:HX H H'):OwnS H' e s base L b c:=h.heap (hx.keep b h.hi) hx.next
theorem OwnS.take (h:OwnS H e s base L b c) {m:Nat}(hm:m≤L.length):OwnS H e s base (L.take m) b c:=by
 obtain⟨cs,h1,h2,h3⟩:=h.row;have hl:(L.take m).length=m:=by rw[List.length_take];omega
 have hle:m*s≤L.length*s:=Nat.mul_le_mul_right _ hm;refine⟨h.lo,h.hi,⟨cs,h1,by rw[hl];omega,?_⟩,by rw[hl];exact ZA hm h.len,h.cap,fun x hx=>h.sz x (List.mem_of_mem_take hx),fun x hx=>h.all x (List.mem_of_mem_take hx)⟩;rw[hl];have h4:(cs.take (L.length*s)).take (m*s)=L.flatten.take (m*s):=by rw[h3]
 rw[List.take_take,Nat.min_eq_left hle] at h4;rw[h4];have h5:L.flatten=(L.take m).flatten++(L.drop m).flatten:=by rw[←List.flatten_append,List.take_append_drop]
 have h6:=z59 (L.take m) fun x hx=>h.sz x (List.mem_of_mem_take hx)
 rw[hl] at h6;rw[h5,List.take_left' h6]
theorem OwnS.push (h:OwnS H e s base L b c) {cs:List Value}(hg:H.get b=some (.row cs e)) {y:List Value}(hy:y.length=s) (ha:y.all one=true) (hm:L.length+1≤maxLen) (hb:base≤H.next) :
  OwnS ((H.put b none).new (some (.row (cs.take (L.length*s)++y) e))) e s base (L++[y]) H.next (L.length+1):=by
 obtain⟨cs',h1,h2,h3⟩:=h.row;rw[hg] at h1;cases h1;refine⟨hb,Nat.lt_succ_self _,⟨_,z4g,?_,?_⟩,by simp,hm,fun x hx=>?_,fun x hx=>?_⟩
 ·rw[Zu,Zu,List.length_take,hy,List.length_singleton,Nat.succ_mul];omega
 ·rw[h3,Zx,List.flatten_append]
  ·simp
  ·rw[Zu,z59 L h.sz,hy,Zu,List.length_singleton,Nat.succ_mul];exact Ze _
 ·rcases List.mem_append.1 hx with h5|h5
  ·exact h.sz x h5
  ·simp at h5;rw[h5];exact hy
 ·rcases List.mem_append.1 hx with h5|h5
  ·exact h.all x h5
  ·simp at h5;rw[h5];exact ha
theorem OwnS.first {y:List Value}(hy:y.length=s) (ha:y.all one=true) (hb:base≤H.next):OwnS (H.new (some (.row y e))) e s base [y] H.next 1 :=
 ⟨hb,Nat.lt_succ_self _,⟨_,z4g,by simp [hy],by simp [←hy]⟩,by simp,by simp [maxLen],by simpa using hy,by simpa using ha⟩
end
structure RdS (H:Heap) (vs:List Value) (a:Option Addr) (c:Nat):Prop where
 len:vs.length≤c
 cap:c≤maxLen
 get:∀i v,vs[i]?=some v→∃b o,a=some ⟨b,o,none⟩∧H.load ⟨b,o+i,none⟩ 1=some [v]
theorem RdS.keep {H H':Heap}{vs:List Value}{a:Option Addr}{c:Nat}(h:RdS H vs a c) (hx:HX H H') (hw:H.wf):RdS H' vs a c :=
 ⟨h.len,h.cap,fun i v hv=>let ⟨b,o,ha,hl⟩:=h.get i v hv;⟨b,o,ha,hx.load hw hl⟩⟩
theorem RdS.take {H:Heap}{vs:List Value}{a:Option Addr}{c:Nat}(h:RdS H vs a c) (m:Nat):RdS H (vs.take m) a c :=
 ⟨by have:=h.len;simp;omega,h.cap,fun i v hv=>h.get i v (by rw[List.getElem?_take] at hv;split at hv;exact hv;cases hv)⟩
theorem OwnS.rds {H:Heap}{e:TypeId}{base b c:Nat}{vs:List Value}(h:OwnS H e 1 base (vs.map fun v=>[v]) b c):RdS H vs (some ⟨b,0,none⟩) c :=
 ⟨by simpa using h.len,h.cap,fun i v hv=>⟨b,0,rfl,by have:=h.load (i:=i) (x:=[v]) (by simp [hv]);simpa using this⟩⟩
theorem RdS.nil {H:Heap}:RdS H [] none 0:=⟨Ze _,Zz _,fun i v hv=>by simp at hv⟩
end Go.Hb
end

section
namespace Go.Hb
open Go Go.RowKit
section
variable {P:Program}{ok:Ok}{tm:Tr Value}{H:Heap}{fn:Func}{K:Value→Heap→Prop}
theorem z0f {a:Tmp}{t:TypeId}{ad:Addr}{v:Value}(h:fn.results.toList=[.cell a t]) (hv:tm.get a=some (.pointer (some ad))) (hd:dLoad P t (.pointer (some ad)) H=some (.val v H)) (hk:K v H):Ex.leave P ok fn K .ret ⟨tm,[],H⟩:=by
 refine EvV.now (v:=v) ?_ hk;have hd':dload P t ad H=some v:=by
  simp only[dLoad] at hd;cases hx:dload P t ad H with
  |none=>rw[hx] at hd;cases hd
  |some u=>rw[hx] at hd;simp only[Zo,Option.some.injEq,Dr.val.injEq] at hd;rw[hd.1]
 simp only[dres,h,dresL,dres1,hv,hd']
theorem z1l {a q:Tmp}{t:TypeId}{ad:Addr}{v u:Value}(h:fn.results.toList=[.cell a t,.tmp q]) (hv:tm.get a=some (.pointer (some ad))) (hd:dLoad P t (.pointer (some ad)) H=some (.val v H)) (hu:tm.get q=some u)
  (hk:K (.tuple ⟨[v,u]⟩) H):Ex.leave P ok fn K .ret ⟨tm,[],H⟩:=by
 refine EvV.now (v:=.tuple ⟨[v,u]⟩) ?_ hk;have hd':dload P t ad H=some v:=by
  simp only[dLoad] at hd;cases hx:dload P t ad H with
  |none=>rw[hx] at hd;cases hd
  |some u=>rw[hx] at hd;simp only[Zo,Option.some.injEq,Dr.val.injEq] at hd;rw[hd.1]
 simp only[dres,h,dresL,dres1,hv,hd',hu,Option.getD_some]
theorem zlh {a:Addr}{n:Nat}{l:List Value}(h:H.load a n=some l):l.length=n:=by
 unfold Heap.load at h;split at h
 ·simp only at h;split at h
  ·rename_i hh;cases h;rw[Zp] at hh;exact hh
  ·cases h
 ·cases h
theorem RdS.all {vs:List Value}{a:Option Addr}{c:Nat}(h:RdS H vs a c) (h0:vs≠[]):∃b o,a=some ⟨b,o,none⟩∧H.load ⟨b,o,none⟩ vs.length=some vs:=by
 match vs,h0,h with
 |v :: r,_,h =>
  obtain⟨b,o,ha,hl⟩:=h.get 0 v rfl;refine⟨b,o,ha,?_⟩;have key:∃cs,H.cells b=some cs∧∀i v',(v :: r)[i]?=some v'→cs[o+i]?=some v':=by
   cases hc:H.cells b with
   |none=>unfold Heap.load at hl;simp only[hc] at hl;cases hl
   |some cs =>
    refine⟨cs,rfl,fun i v' hi=>?_⟩;obtain⟨b',o',ha',hl'⟩:=h.get i v' hi;rw[ha] at ha';cases ha';have hll:=zlh hl';unfold Heap.load at hl';simp only[hc] at hl';split at hl'
    ·simp only[Option.some.injEq] at hl';have:((cs.drop (o+i)).take 1)[0]?=some v':=by rw[hl'];rfl
     simpa [List.getElem?_take,List.getElem?_drop] using this
    ·cases hl'
  obtain⟨cs,hc,hg⟩:=key;have e:(cs.drop o).take (v :: r).length=v :: r:=by
   apply ZD;intro k;rw[List.getElem?_take];by_cases hk:k < (v :: r).length
   ·rw[if_pos hk,List.getElem?_drop,Zd hk,hg k _ (Zd hk)]
   ·rw[if_neg hk,Zw (by omega)]
  unfold Heap.load;simp only[hc,e];rw[if_pos (by rw[Zp])]
theorem OwnS.ones {e:TypeId}{base b c:Nat}{vs:List Value}(hg:H.get b=some (.row vs e)) (lo:base≤b) (hi:b < H.next) (hc:vs.length≤c) (hm:c≤maxLen) (ho:vs.all one=true):OwnS H e 1 base (vs.map fun v=>[v]) b c:=by
 have hf:(vs.map fun v=>[v]).flatten=vs:=by
  clear hg hc ho
  induction vs with
  |nil=>rfl
  |cons v vs ih=>rw[Zs,List.flatten_cons,ih];rfl
 refine⟨lo,hi,⟨vs,hg,by simp,?_⟩,by simpa using hc,hm,by simp,fun x hx=>?_⟩
 ·rw[hf,Zx (by simp)]
 ·obtain⟨v,hv,rfl⟩:=List.mem_map.1 hx;simpa using List.all_eq_true.1 ho v hv
end
end Go.Hb
end

section
namespace Go.Hb
open Go Go.RowKit
section
variable {P:Program}{H:Heap}{e:TypeId}{s base b c:Nat}{L:List (List Value)}{v:Value}
theorem RepO.empty:RepO H e s base [] (.slice none 0 0):=.inl ⟨rfl,rfl⟩
theorem RepO.own (h:RepO H e s base L v) (h0:L≠[]):∃b c,OwnS H e s base L b c∧v=.slice (some ⟨b,0,none⟩) L.length c:=by
 rcases h with ⟨h1,_⟩|h
 ·exact absurd h1 h0
 ·exact h
theorem RepO.slice (h:RepO H e s base L v):∃a c,v=.slice a L.length c∧L.length≤c∧c≤maxLen:=by
 rcases h with ⟨rfl,rfl⟩|⟨b,c,h,rfl⟩
 ·exact⟨_,0,rfl,Ze _,Zz _⟩
 ·exact⟨_,c,rfl,h.len,h.cap⟩
theorem RepO.keep (h:RepO H e s base L v) {H':Heap}(hx:HX H H'):RepO H' e s base L v:=by
 rcases h with h|⟨b,c,h,hv⟩
 ·exact .inl h
 ·exact .inr ⟨b,c,h.keep hx,hv⟩
theorem RepO.before (h:RepO H e s base L v) {H':Heap}{lo:Nat}(hk:∀i,i < lo→H'.get i=H.get i) (hn:H.next≤H'.next) (hlo:∀b c,OwnS H e s base L b c→b < lo):RepO H' e s base L v:=by
 rcases h with h|⟨b,c,h,hv⟩
 ·exact .inl h
 ·exact .inr ⟨b,c,h.heap (hk b (hlo b c h)) hn,hv⟩
section
variable {ok:Ok}{x:Ctx}{d:Option Tmp}{tm:Tr Value}{ds:List Deferred}{H':Heap}{KK:Tr Value→List Deferred→Heap→Prop}
end
def sameK (v:Value) (G:Heap):Option Dr→Bool
 |some (.val u H')=>veq u v && Zk H'.next G.next
 |_=>false
theorem z8u {o:Oper}{ρ:Operand→Value}{hs:List Heap}:sameOn P o ρ v (H :: hs)=(sameK v H (dop P o ρ H) && sameOn P o ρ v hs):=by
 rw[sameOn];unfold sameK;cases dop P o ρ H with
 |none=>rfl
 |some r=>cases r<;>rfl
theorem zcj {u:Value}{H':Heap}:sameK v H (some (.val u H'))=(veq u v && Zk H'.next H.next):=_root_.id rfl
theorem zck {H:Heap}{n k:Nat}{a:Addr}:Heap.load ⟨n,H.t⟩ a k=H.load a k:=_root_.id rfl
theorem zfh {H:Heap}{n i:Nat}:Heap.get ⟨n,H.t⟩ i=H.get i:=_root_.id rfl
theorem RepO.low (h:RepO H e s base L v) {base':Nat}(hb:base'≤base):RepO H e s base' L v:=by
 rcases h with h|⟨b,c,h,hv⟩
 ·exact .inl h
 ·exact .inr ⟨b,c,⟨ZA hb h.lo,h.hi,h.row,h.len,h.cap,h.sz,h.all⟩,hv⟩
theorem RepO.rds {vs:List Value}(h:RepO H e 1 base (vs.map fun v=>[v]) v):∃a c,v=.slice a vs.length c∧RdS H vs a c:=by
 rcases h with ⟨h1,rfl⟩|⟨b,c,h,rfl⟩
 ·have:vs=[]:=by simpa using h1
  subst this;exact⟨_,0,rfl,RdS.nil⟩
 ·exact⟨_,c,by simp,h.rds⟩
theorem RepO.push {t:TypeId}(h:RepO H e s base L v) (hp:apOk P t e s) {y:List Value}(hy:y.length=s) (ha:y.all one=true) (hn:L.length+1≤most) (hb:base≤H.next) :
  ∃H2 v2,dAp P #[t,t] v (.slice (some ⟨H.next,0,Option.none⟩) 1 1) (H.new (some (.row y e)))=some (.val v2 H2)∧RepO H2 e s base (L++[y]) v2∧H2.next=H.next+2∧(∀A,HX A H→A.next≤base→HX A H2)∧(∀i,i < H.next→(∀cs,H.get i≠some (.row cs e))→H2.get i=H.get i):=by
 have hs0:0 < s:=by obtain⟨i,_,_,_,_,h0,_⟩:=hp;exact h0
 have hmax:most≤maxLen:=by simp [most,maxLen]
 have hl:(H.new (some (.row y e))).load ⟨H.next,0,Option.none⟩ (1*s)=some y:=by
  rw[z8p,Nat.one_mul];unfold cutC;simp [←hy]
 rcases h with ⟨rfl,rfl⟩|⟨b,c,h,rfl⟩
 ·refine⟨_,_,z8r hp (by omega) (by simp [most]) hl ha,.inr ⟨_,1,OwnS.first hy ha (Nat.le_succ_of_le hb),rfl⟩,rfl,fun A hx _=>(hx.new _).new _,fun i hi _=>by rw[z4f (Nat.lt_succ_of_lt hi),z4f hi]⟩
 ·obtain⟨cs,hg,hle,ht⟩:=h.row;have hbn:b < H.next:=h.hi;have h1:OwnS (H.new (some (.row y e))) e s base L b c:=h.heap (by rw[z4f hbn]) (Nat.le_succ _);have hg1:(H.new (some (.row y e))).get b=some (.row cs e):=by rw[z4f hbn];exact hg
  have hone:(cs.take (L.length*s)).all one=true:=by
   rw[ht,List.all_eq_true];intro z hz;obtain⟨l,hl1,hl2⟩:=List.mem_flatten.1 hz;exact List.all_eq_true.1 (h.all l hl1) z hl2
  refine⟨_,_,z5u hp (by omega) hn hl ha hg1 hle hone,.inr ⟨_,_,h1.push hg1 hy ha (ZA hn hmax) (Nat.le_succ_of_le hb),by simp⟩,rfl,fun A hx hA=>?_,fun i hi hne=>?_⟩;rotate_left
  ·have hib:i≠b:=fun h=>hne cs (h ▸ hg)
   rw[z4f (by rw[z1b];exact Nat.lt_succ_of_lt hi),zit hib,z4f hi]
  have hx1:=hx.new (some (.row y e));have hx2:=hx1.put (i:=b) (by have:=h.lo;omega) (Nat.lt_succ_of_lt hbn) Option.none;exact hx2.new _
end
theorem z8v (b:ByteArray):∀(k i:Nat) (r:List UInt8),b.size - i=k→ByteArray.toList.loop b i r=r.reverse++b.data.toList.drop i
 |0,i,r,h=>by
  rw[ByteArray.toList.loop,if_neg (by omega),List.drop_of_length_le (by simp;omega),List.append_nil]
 |k+1,i,r,h=>by
  have hi:i < b.data.toList.length:=by simp;omega
  rw[ByteArray.toList.loop,if_pos (by omega),z8v b k (i+1) _ (by omega),List.reverse_cons,List.append_assoc,List.drop_eq_getElem_cons hi];congr 1;have hi':i < b.data.size:=by simpa using hi
  have:b.get! i=b.data.toList[i]:=by
   unfold ByteArray.get!;simp;rw[getElem!_pos b.data i hi']
  rw[this];rfl
theorem z1m (b:ByteArray):b.toList=b.data.toList:=by
 unfold ByteArray.toList;rw[z8v b _ 0 [] rfl];rfl
theorem z7r {P:Program}{H:Heap}{t:TypeId}{x y:Operand}{a:ByteArray}:dBin P .eql t x y (.string a) (.string ⟨#[]⟩) H=some (.val (.bool (decide (a.size=0))) H):=by
 rw[z6d,z1m,z1m];congr 3;by_cases h:a.size=0
 ·have:a.data.toList=[]:=List.length_eq_zero_iff.1 (by simpa using h);rw[this,decide_eq_true h];rfl
 ·rw[decide_eq_false h];cases hd:a.data.toList with
  |nil=>exact absurd (by have:=congrArg List.length hd;simpa using this) h
  |cons b l=>rfl
theorem z16 {P:Program}{H:Heap}{t:TypeId}{x y:Operand}{a b:ByteArray}:dBin P .eql t x y (.string a) (.string b) H=some (.val (.bool (a.data.toList == b.data.toList)) H):=by
 rw[z6d,z1m,z1m]
end Go.Hb
end

section
namespace Go.Hb
open Go Go.RowKit
section
variable (P:Program) (ok:Ok) (x:Ctx) (ops:Array Oper) (base:Nat)
def STK (e:Option Nat) (S:List (List (Nat × Nat) × Option Nat)) (G:Heap) (gs:List Heap) (ds:List Deferred) (K:Tr Value→List Deferred→Heap→Prop) (tm:Tr Value) (H:Heap):Prop :=
 match e with
 |none=>K tm ds H
 |some e=>ES1 P ok x ops tm ds H (fun tm ds H=>ES P ok x ops base S H (G :: gs) tm ds K) ops.toList[e]?
def STG (L:List (Nat × Nat)) (e:Option Nat) (S:List (List (Nat × Nat) × Option Nat)) (G:Heap) (gs:List Heap) (ds:List Deferred) (K:Tr Value→List Deferred→Heap→Prop) (tm:Tr Value) (H:Heap):Prop:=EN P ops base G gs L tm H (STK P ok x ops base e S G gs ds K)
def SGO (i k:Nat) (L:List (Nat × Nat)) (e:Option Nat) (S:List (List (Nat × Nat) × Option Nat)) (G:Heap) (gs:List Heap) (ds:List Deferred) (K:Tr Value→List Deferred→Heap→Prop) (o:Oper) (tm:Tr Value) (H:Heap) (al:Bool):Prop :=
 match al with
 |true=>AK base i tm H (fun tm H=>STG P ok x ops base L e S G gs ds K tm H) o.dst (dalloc P o (ev tm))
 |false=>NK P k o tm gs (fun tm=>STG P ok x ops base L e S G gs ds K tm H) o.dst G.next (dop P o (ev tm) G)
def SAL (i:Nat) (L:List (Nat × Nat)) (e:Option Nat) (S:List (List (Nat × Nat) × Option Nat)) (G:Heap) (gs:List Heap) (ds:List Deferred) (K:Tr Value→List Deferred→Heap→Prop) (d:Option Tmp) (tm:Tr Value) (H:Heap) (r:Option (Blk × (Nat→Value))):Prop:=AK base i tm H (fun tm H=>STG P ok x ops base L e S G gs ds K tm H) d r
def SRD (k:Nat) (L:List (Nat × Nat)) (e:Option Nat) (S:List (List (Nat × Nat) × Option Nat)) (G:Heap) (gs:List Heap) (ds:List Deferred) (K:Tr Value→List Deferred→Heap→Prop) (o:Oper) (tm:Tr Value) (H:Heap) (r:Option Dr):Prop:=NK P k o tm gs (fun tm=>STG P ok x ops base L e S G gs ds K tm H) o.dst G.next r
def SOP (i k:Nat) (L:List (Nat × Nat)) (e:Option Nat) (S:List (List (Nat × Nat) × Option Nat)) (G:Heap) (gs:List Heap) (ds:List Deferred) (K:Tr Value→List Deferred→Heap→Prop) (tm:Tr Value) (H:Heap) (o:Option Oper):Prop:=EN1 P ops base G gs i k tm H (fun tm H=>STG P ok x ops base L e S G gs ds K tm H) o
def SGD (i k:Nat) (L:List (Nat × Nat)) (e:Option Nat) (S:List (List (Nat × Nat) × Option Nat)) (G:Heap) (gs:List Heap) (ds:List Deferred) (K:Tr Value→List Deferred→Heap→Prop) (o:Oper) (tm:Tr Value) (H:Heap) (w:Bool) (g:Option Value):Prop:=GK o.dst tm (SGO P ok x ops base i k L e S G gs ds K o tm H (isAlloc o)) (STG P ok x ops base L e S G gs ds K (putD tm o.dst undef) H) w g
def SLK (S:List (List (Nat × Nat) × Option Nat)) (G:Heap) (gs:List Heap) (ds:List Deferred) (K:Tr Value→List Deferred→Heap→Prop) (d:Option Tmp) (tm:Tr Value) (H:Heap) (r:Option Dr):Prop :=
 LK P ok x d tm ds H (fun tm ds H=>ES P ok x ops base S H (G :: gs) tm ds K) r
def SEF (S:List (List (Nat × Nat) × Option Nat)) (G:Heap) (gs:List Heap) (ds:List Deferred) (K:Tr Value→List Deferred→Heap→Prop) (tm:Tr Value) (H:Heap) (o:Option Oper):Prop :=
 ES1 P ok x ops tm ds H (fun tm ds H=>ES P ok x ops base S H (G :: gs) tm ds K) o
def SEG (S:List (List (Nat × Nat) × Option Nat)) (G:Heap) (gs:List Heap) (ds:List Deferred) (K:Tr Value→List Deferred→Heap→Prop) (o:Oper) (tm:Tr Value) (H:Heap) (w:Bool) (g:Option Value):Prop :=
 GK o.dst tm (SLK P ok x ops base S G gs ds K o.dst tm H (dop P o (ev tm) H)) (ES P ok x ops base S H (G :: gs) (putD tm o.dst undef) ds K) w g
def SCK (S:List (List (Nat × Nat) × Option Nat)) (G:Heap) (gs:List Heap) (ds:List Deferred) (K:Tr Value→List Deferred→Heap→Prop) (d:Option Tmp) (tm:Tr Value) (v:Value) (H':Heap):Prop :=
 ES P ok x ops base S H' (G :: gs) (putD tm d v) ds K
end
section
variable {P:Program}{ok:Ok}{x:Ctx}{ops:Array Oper}{base i k n j:Nat}{L:List (Nat × Nat)}{e:Option Nat}{S:List (List (Nat × Nat) × Option Nat)}{G H H' G':Heap}{gs:List Heap}{ds:List Deferred}{K:Tr Value→List Deferred→Heap→Prop}{tm:Tr Value}{w b:Bool}{v:Value}
 {d:Option Tmp}{op:Op}{ty:TypeId}{pos:String}{af:Array Edge}{gd:Option (Nat × Bool)}{o:Oper}
theorem ziz:ES P ok x ops base ((L,none) :: S) G gs tm ds K=STG P ok x ops base L none S G gs ds K tm G:=_root_.id rfl
theorem zj0:ES P ok x ops base ((L,some n) :: S) G gs tm ds K=STG P ok x ops base L (some n) S G gs ds K tm G:=_root_.id rfl
theorem zn1:STG P ok x ops base ((i,k) :: L) e S G gs ds K tm H=SOP P ok x ops base i k L e S G gs ds K tm H ops.toList[i]?:=_root_.id rfl
theorem zj1:STG P ok x ops base [] (some n) S G gs ds K tm H=SEF P ok x ops base S G gs ds K tm H ops.toList[n]?:=_root_.id rfl
theorem zj2:STG P ok x ops base [] none S G gs ds K tm H=K tm ds H:=_root_.id rfl
theorem zfi:SOP P ok x ops base i k L e S G gs ds K tm H (some ⟨d,op,ty,pos,af,none⟩)=SGO P ok x ops base i k L e S G gs ds K ⟨d,op,ty,pos,af,none⟩ tm H (isAlloc ⟨d,op,ty,pos,af,none⟩):=by
 simp only[SOP,EN1,SGO]<;>rfl
theorem zcl:SOP P ok x ops base i k L e S G gs ds K tm H (some ⟨d,op,ty,pos,af,some (j,w)⟩)=SGD P ok x ops base i k L e S G gs ds K ⟨d,op,ty,pos,af,some (j,w)⟩ tm H w (guardOf ops tm j):=by
 simp only[SOP,EN1,SGD,SGO]<;>rfl
theorem zn2:SGD P ok x ops base i k L e S G gs ds K o tm H true (some (.bool true))=SGO P ok x ops base i k L e S G gs ds K o tm H (isAlloc o):=by simp [SGD,GK]
theorem zn3:SGD P ok x ops base i k L e S G gs ds K o tm H false (some (.bool false))=SGO P ok x ops base i k L e S G gs ds K o tm H (isAlloc o):=by simp [SGD,GK]
theorem zn4:SGD P ok x ops base i k L e S G gs ds K o tm H true (some (.bool false))=STG P ok x ops base L e S G gs ds K (putD tm o.dst undef) H:=by simp [SGD,GK]
theorem zn5:SGD P ok x ops base i k L e S G gs ds K o tm H false (some (.bool true))=STG P ok x ops base L e S G gs ds K (putD tm o.dst undef) H:=by simp [SGD,GK]
theorem zcm:SGD P ok x ops base i k L e S G gs ds K o tm H w (some undef)=STG P ok x ops base L e S G gs ds K (putD tm o.dst undef) H:=_root_.id rfl
theorem zcn:SGO P ok x ops base i k L e S G gs ds K o tm H true=SAL P ok x ops base i L e S G gs ds K o.dst tm H (dalloc P o (ev tm)):=_root_.id rfl
theorem zfj:SGO P ok x ops base i k L e S G gs ds K o tm H false=SRD P ok x ops base k L e S G gs ds K o tm H (dop P o (ev tm) G):=_root_.id rfl
theorem zfk {B:Blk}{mk:Nat→Value}:SAL P ok x ops base i L e S G gs ds K d tm H (some (B,mk))=STG P ok x ops base L e S G gs ds K (putD tm d (mk (base+i))) (H.put (base+i) (some B)):=_root_.id rfl
theorem zj3:SRD P ok x ops base k L e S G gs ds K ⟨d,op,ty,pos,af,gd⟩ tm H (some (.val v G'))=((isRead ⟨d,op,ty,pos,af,gd⟩=false∨(G'.next=G.next∧sameOn P ⟨d,op,ty,pos,af,gd⟩ (ev tm) v (gs.take (gs.length - k))=true))∧STG P ok x ops base L e S G gs ds K (putD tm d v) H):=_root_.id rfl
theorem zfl:SEF P ok x ops base S G gs ds K tm H (some ⟨d,op,ty,pos,af,none⟩)=SLK P ok x ops base S G gs ds K d tm H (dop P ⟨d,op,ty,pos,af,none⟩ (ev tm) H):=_root_.id rfl
theorem zco:SEF P ok x ops base S G gs ds K tm H (some ⟨d,op,ty,pos,af,some (j,w)⟩)=SEG P ok x ops base S G gs ds K ⟨d,op,ty,pos,af,some (j,w)⟩ tm H w (guardOf ops tm j):=_root_.id rfl
theorem zn6:SEG P ok x ops base S G gs ds K ⟨d,op,ty,pos,af,gd⟩ tm H true (some (.bool true))=SLK P ok x ops base S G gs ds K d tm H (dop P ⟨d,op,ty,pos,af,gd⟩ (ev tm) H):=by simp [SEG,GK]
theorem zn7:SEG P ok x ops base S G gs ds K ⟨d,op,ty,pos,af,gd⟩ tm H false (some (.bool false))=SLK P ok x ops base S G gs ds K d tm H (dop P ⟨d,op,ty,pos,af,gd⟩ (ev tm) H):=by simp [SEG,GK]
theorem zn8:SEG P ok x ops base S G gs ds K o tm H true (some (.bool false))=ES P ok x ops base S H (G :: gs) (putD tm o.dst undef) ds K:=by simp [SEG,GK]
theorem zn9:SEG P ok x ops base S G gs ds K o tm H false (some (.bool true))=ES P ok x ops base S H (G :: gs) (putD tm o.dst undef) ds K:=by simp [SEG,GK]
theorem zcp:SEG P ok x ops base S G gs ds K o tm H w (some undef)=ES P ok x ops base S H (G :: gs) (putD tm o.dst undef) ds K:=_root_.id rfl
theorem zj4:SLK P ok x ops base S G gs ds K d tm H (some (.val v H'))=ES P ok x ops base S H' (G :: gs) (putD tm d v) ds K:=_root_.id rfl
theorem zfm {f:FuncId}{args:List Value}:SLK P ok x ops base S G gs ds K d tm H (some (.call f args))=EvF P ok f args H (SCK P ok x ops base S G gs ds K d tm):=_root_.id rfl
theorem z2t (h:ES P ok x ops base S H' (G :: gs) (putD tm d v) ds K):SCK P ok x ops base S G gs ds K d tm v H':=h
theorem zna {r:Option Dr}(h:SRD P ok x ops base k L e S G gs ds K o tm H r):SRD P ok x ops base k L e S G gs ds K o tm H r:=h
end
end Go.Hb
end

section
namespace Go.Hb
open Go Go.RowKit
theorem znb {k:IntKind}{n:Int}:veq (.int k n) (.int k n)=true:=by simp [veq]
theorem zfn {s:ByteArray}:veq (.string s) (.string s)=true:=by simp [veq]
theorem zj5 {b:Bool}:veq (.bool b) (.bool b)=true:=by simp [veq]
theorem zfo {k:FloatKind}{n:Nat}:veq (.float k n) (.float k n)=true:=by simp [veq]
theorem zj6 {a:Option Addr}:veq (.pointer a) (.pointer a)=true:=by simp [veq]
theorem znc {a:Option Nat}:veq (.map a) (.map a)=true:=by simp [veq]
theorem zfp {a:Option Addr}{n c:Nat}:veq (.slice a n c) (.slice a n c)=true:=by simp [veq]
theorem znd {a b:List Value}:veq (.agg ⟨a⟩) (.agg ⟨b⟩)=veqL a b:=by simp [veq]
theorem zfq {a b:List Value}:veq (.tuple ⟨a⟩) (.tuple ⟨b⟩)=veqL a b:=by simp [veq]
theorem zj7 {x y:Value}{a b:List Value}:veqL (x :: a) (y :: b)=(veq x y && veqL a b):=by simp [veqL]
theorem zne:veqL [] []=true:=by simp [veqL]
end Go.Hb
end

section
namespace Go.Hb
open Go Go.RowKit
theorem sA:type_of% (And.intro (And.intro (And.intro (And.intro (And.intro (And.intro (@zim) (And.intro (@zmu) (@zex))) (And.intro (@zmv) (And.intro (@zin) (@zey)))) (And.intro (And.intro (@zp7) (And.intro (@zp8) (@zp9))) (And.intro (And.intro (@zpa) (@zez)) (And.intro (@zir) (@z9v))))) (And.intro (And.intro (And.intro (@zf0) (And.intro (@zf1) (@z9w))) (And.intro (And.intro (@zf2) (@zca)) (And.intro (@zcb) (@z6b)))) (And.intro (And.intro (@z6c) (And.intro (@zio) (@zf3))) (And.intro (And.intro (@zf4) (@zf5)) (And.intro (@zcc) (@zeu)))))) (And.intro (And.intro (And.intro (And.intro (@zmt) (And.intro (@zil) (@zc9))) (And.intro (@Tr.get_put) (And.intro (@zev) (@zew)))) (And.intro (And.intro (@Option.getD_some.{0}) (And.intro (@Nat.add_zero) (@Nat.zero_add))) (And.intro (And.intro (@List.all_cons.{0}) (@List.all_nil.{0})) (And.intro (@Bool.and_self) (@zb5))))) (And.intro (And.intro (And.intro (@z0b) (And.intro (@zb6) (@z1b))) (And.intro (And.intro (@get_new) (@get_put)) (And.intro (@z8j) (@z8k)))) (And.intro (And.intro (@List.drop_succ_cons.{0}) (And.intro (@List.drop_zero.{0}) (@List.take_succ_cons.{0}))) (And.intro (And.intro (@List.take_zero.{0}) (@List.length_cons.{0})) (And.intro (@List.length_nil.{0}) (@Zy))))))) (And.intro (And.intro (And.intro (And.intro (And.intro (@List.map_cons.{0,0}) (And.intro (@List.map_nil.{0,0}) (@z4m))) (And.intro (@z8l) (And.intro (@z5t) (@z3s)))) (And.intro (And.intro (@List.cons_append.{0}) (And.intro (@List.nil_append.{0}) (@List.append_nil.{0}))) (And.intro (And.intro (@Ze) (@and_self)) (And.intro (@and_true) (@true_and))))) (And.intro (And.intro (And.intro (@List.drop_nil.{0}) (And.intro (@z00) (@z7e))) (And.intro (And.intro (@z0h) (@z9t)) (And.intro (@z05) (@z03)))) (And.intro (And.intro (@z9u) (And.intro (@z6a) (@List.getElem?_cons_succ.{0}))) (And.intro (And.intro (@List.getElem?_cons_zero.{0}) (@zf6)) (And.intro (@zf7) (@zf8)))))) (And.intro (And.intro (And.intro (And.intro (@zf9) (And.intro (@zfa) (@zfb))) (And.intro (And.intro (@zmw) (@zmx)) (And.intro (@z8n) (@zmy)))) (And.intro (And.intro (@zmz) (And.intro (@zn0) (@zis))) (And.intro (And.intro (@zcd) (@zfd)) (And.intro (@z5g) (@zfe))))) (And.intro (And.intro (And.intro (@zce) (And.intro (@za1) (@z6e))) (And.intro (And.intro (@z7f) (@zcg)) (And.intro (@z8s) (@zff)))) (And.intro (And.intro (@za0) (And.intro (@Option.map_some.{0,0}) (@Option.map_none.{0,0}))) (And.intro (And.intro (@List.getElem?_nil.{0}) (@Option.some.injEq.{0})) (And.intro (@Nat.mul_one) (@Int.toNat_natCast)))))))):=And.intro (And.intro (And.intro (And.intro (And.intro (And.intro (@zim) (And.intro (@zmu) (@zex))) (And.intro (@zmv) (And.intro (@zin) (@zey)))) (And.intro (And.intro (@zp7) (And.intro (@zp8) (@zp9))) (And.intro (And.intro (@zpa) (@zez)) (And.intro (@zir) (@z9v))))) (And.intro (And.intro (And.intro (@zf0) (And.intro (@zf1) (@z9w))) (And.intro (And.intro (@zf2) (@zca)) (And.intro (@zcb) (@z6b)))) (And.intro (And.intro (@z6c) (And.intro (@zio) (@zf3))) (And.intro (And.intro (@zf4) (@zf5)) (And.intro (@zcc) (@zeu)))))) (And.intro (And.intro (And.intro (And.intro (@zmt) (And.intro (@zil) (@zc9))) (And.intro (@Tr.get_put) (And.intro (@zev) (@zew)))) (And.intro (And.intro (@Option.getD_some.{0}) (And.intro (@Nat.add_zero) (@Nat.zero_add))) (And.intro (And.intro (@List.all_cons.{0}) (@List.all_nil.{0})) (And.intro (@Bool.and_self) (@zb5))))) (And.intro (And.intro (And.intro (@z0b) (And.intro (@zb6) (@z1b))) (And.intro (And.intro (@get_new) (@get_put)) (And.intro (@z8j) (@z8k)))) (And.intro (And.intro (@List.drop_succ_cons.{0}) (And.intro (@List.drop_zero.{0}) (@List.take_succ_cons.{0}))) (And.intro (And.intro (@List.take_zero.{0}) (@List.length_cons.{0})) (And.intro (@List.length_nil.{0}) (@Zy))))))) (And.intro (And.intro (And.intro (And.intro (And.intro (@List.map_cons.{0,0}) (And.intro (@List.map_nil.{0,0}) (@z4m))) (And.intro (@z8l) (And.intro (@z5t) (@z3s)))) (And.intro (And.intro (@List.cons_append.{0}) (And.intro (@List.nil_append.{0}) (@List.append_nil.{0}))) (And.intro (And.intro (@Ze) (@and_self)) (And.intro (@and_true) (@true_and))))) (And.intro (And.intro (And.intro (@List.drop_nil.{0}) (And.intro (@z00) (@z7e))) (And.intro (And.intro (@z0h) (@z9t)) (And.intro (@z05) (@z03)))) (And.intro (And.intro (@z9u) (And.intro (@z6a) (@List.getElem?_cons_succ.{0}))) (And.intro (And.intro (@List.getElem?_cons_zero.{0}) (@zf6)) (And.intro (@zf7) (@zf8)))))) (And.intro (And.intro (And.intro (And.intro (@zf9) (And.intro (@zfa) (@zfb))) (And.intro (And.intro (@zmw) (@zmx)) (And.intro (@z8n) (@zmy)))) (And.intro (And.intro (@zmz) (And.intro (@zn0) (@zis))) (And.intro (And.intro (@zcd) (@zfd)) (And.intro (@z5g) (@zfe))))) (And.intro (And.intro (And.intro (@zce) (And.intro (@za1) (@z6e))) (And.intro (And.intro (@z7f) (@zcg)) (And.intro (@z8s) (@zff)))) (And.intro (And.intro (@za0) (And.intro (@Option.map_some.{0,0}) (@Option.map_none.{0,0}))) (And.intro (And.intro (@List.getElem?_nil.{0}) (@Option.some.injEq.{0})) (And.intro (@Nat.mul_one) (@Int.toNat_natCast)))))))
theorem sD:type_of% (And.intro (And.intro (And.intro (And.intro (And.intro (@ziz) (@zj0)) (And.intro (@zn1) (@zj1))) (And.intro (And.intro (@zj2) (@zfi)) (And.intro (@zcl) (And.intro (@zn2) (@zn3))))) (And.intro (And.intro (And.intro (@zn4) (@zn5)) (And.intro (@zcm) (@zcn))) (And.intro (And.intro (@zfj) (@zfk)) (And.intro (@zj3) (And.intro (@zfl) (@zco)))))) (And.intro (And.intro (And.intro (And.intro (@zn6) (@zn7)) (And.intro (@zn8) (@zn9))) (And.intro (And.intro (@zcp) (@zj4)) (And.intro (@zfm) (And.intro (@true_or) (@or_true))))) (And.intro (And.intro (And.intro (@false_or) (@z9z)) (And.intro (@Nat.sub_self) (@Nat.sub_zero))) (And.intro (And.intro (@zck) (@zfh)) (And.intro (@List.size_toArray.{0}) (And.intro (@z8u) (@zcj))))))):=And.intro (And.intro (And.intro (And.intro (And.intro (@ziz) (@zj0)) (And.intro (@zn1) (@zj1))) (And.intro (And.intro (@zj2) (@zfi)) (And.intro (@zcl) (And.intro (@zn2) (@zn3))))) (And.intro (And.intro (And.intro (@zn4) (@zn5)) (And.intro (@zcm) (@zcn))) (And.intro (And.intro (@zfj) (@zfk)) (And.intro (@zj3) (And.intro (@zfl) (@zco)))))) (And.intro (And.intro (And.intro (And.intro (@zn6) (@zn7)) (And.intro (@zn8) (@zn9))) (And.intro (And.intro (@zcp) (@zj4)) (And.intro (@zfm) (And.intro (@true_or) (@or_true))))) (And.intro (And.intro (And.intro (@false_or) (@z9z)) (And.intro (@Nat.sub_self) (@Nat.sub_zero))) (And.intro (And.intro (@zck) (@zfh)) (And.intro (@List.size_toArray.{0}) (And.intro (@z8u) (@zcj))))))
theorem sV:type_of% (And.intro (And.intro (And.intro (@znb) (@zfn)) (And.intro (@zj5) (And.intro (@zfo) (@zj6)))) (And.intro (And.intro (@znc) (And.intro (@zfp) (@znd))) (And.intro (@zfq) (And.intro (@zj7) (@zne))))):=And.intro (And.intro (And.intro (@znb) (@zfn)) (And.intro (@zj5) (And.intro (@zfo) (@zj6)))) (And.intro (And.intro (@znc) (And.intro (@zfp) (@znd))) (And.intro (@zfq) (And.intro (@zj7) (@zne))))
theorem sB:type_of% (And.intro (@sA) (And.intro (@if_true.{1}) (@if_false.{1}))):=And.intro (@sA) (And.intro (@if_true.{1}) (@if_false.{1}))
theorem sG:type_of% (And.intro (@Tr.get_put) (And.intro (@if_true.{1}) (@if_false.{1}))):=And.intro (@Tr.get_put) (And.intro (@if_true.{1}) (@if_false.{1}))
end Go.Hb
end

section
namespace Go.Hb
open Go Go.RowKit
section
variable {P:Program}
theorem zcq {N:Nat}{w0:World}{τ:Nat→Value}{σ:Nat→Loc}{H:Heap}{w:World}{f:FuncId}{args:Array Value}{v:Value}(hv:flat v=true)
  (h:Calls P f args w fun e w'=>e=.returned v∧Below w.heap.size w w') (hH:HR P N w0 τ σ H w) :
  Calls P f args w fun e w'=>∃ σ',EnR σ' τ (.ret v) e∧HR P N w0 τ σ' H w'∧Step σ H w σ' H w':=by
 refine h.mono fun e w' ⟨he,hB⟩=>?_
 subst he;have hlt:=hH.lt;refine⟨σ,.flat _ hv,⟨hH.below.trans (hB.mono hH.size),ZA hH.size hB.size,hH.fresh,fun i B hi=>(hH.blk i B hi).world fun b S es hb=>hB.block b (hlt i b S es hb),hH.inj,
  fun i b S es hi=>Zt (hlt i b S es hi) hB.size⟩,Ze _,Ext.refl σ,fun i b S es hi=>.inr (.inl ⟨S,es,hi⟩),fun b hb _=>hB.block b hb,hB.size,fun _ _ hg=>⟨rfl,hg⟩⟩
def kLaw (fa fv:FuncId) (f:FuncId) (args:List Value) (H:Heap):Option (En × Heap) :=
 if f=fa then (match args with|[]=>some (.ret (.bool true),H)|_=>none)
 else if f=fv then (match args with|[.string s]=>if s.size≤9223372036854775807 then some (.ret (.bool (Lib.validD s.data.toList)),H) else none|_=>none)
 else none
def okLaw (mask:Nat) (fa fv:FuncId):Ok:=⟨mask,kLaw fa fv⟩
end
end Go.Hb
end

section
namespace Go.Hb
open Go Go.RowKit
section
variable {P:Program}
abbrev Known:=FuncId × (List Value→Option Value)
def kKs (L:List Known) (f:FuncId) (args:List Value) (H:Heap):Option (En × Heap) :=
 match L.find? fun p=>Zk p.1 f with
 |some p=>(p.2 args).map fun v=>(.ret v,H)
 |none=>none
def okKs (mask:Nat) (L:List Known):Ok:=⟨mask,kKs L⟩
theorem LR.flat_eq {σ:Nat→Loc}{τ:Nat→Value}:∀{l l':List Value},LR σ τ l l'→flatL l=true→l'=l
 |[],l',h,_=>h.nil_inv
 |v :: l,l',h,hf=>by
  obtain⟨v',r',rfl,hv,hr⟩:=h.cons_inv;simp only[flatL,Zi] at hf;rw[VR.flat_eq hv hf.1,LR.flat_eq hr hf.2]
theorem zli {N mask:Nat}{w0:World}{L:List Known}(hok:((Zj P.funcs.size).all fun f=>!mask.testBit f || okFn P f)=true)
  (hL:∀p∈L,∀args v,p.2 args=some v→flat v=true∧flatL args=true∧∀w,Below N w0 w→Calls P p.1 args.toArray w fun e w'=>e=.returned v∧Below w.heap.size w w'):OkFns P N w0 (okKs mask L):=by
 refine⟨z6s hok,fun τ f args args' H en H' w σ _ hk hl hH _=>?_⟩;simp only[okKs,kKs] at hk;split at hk
 case h_2=>cases hk
 rename_i p hp;rw[Option.map_eq_some_iff] at hk;obtain⟨v,hv,h2⟩:=hk;cases h2;have hm:=List.mem_of_find?_eq_some hp;have hf:p.1=f:=by have:=List.find?_some hp;simpa using this
 subst hf;obtain⟨k1,k2,k3⟩:=hL p hm args v hv;have he:args'=args.toArray:=by
  have:=hl.flat_eq k2;cases args';simp only at this;rw[this]
 subst he;exact zcq k1 (k3 w hH.below) hH
end
def knAw:List Value→Option Value
 |[]=>some (.bool true)
 |_=>none
def knValid:List Value→Option Value
 |[.string s]=>if s.size≤9223372036854775807 then some (.bool (Lib.validD s.data.toList)) else none
 |_=>none
end Go.Hb
end

section
namespace Go.Hb
open Go Go.RowKit
def keyL:List MapEntry→Option (List (List UInt8))
 |[]=>some []
 |e :: es=>match e.key,keyL es with
  |.string s,some l=>if s.size≤maxLen then some (s.data.toList :: l) else none
  |_,_=>none
def srt (T:TypeId) (ks:List (List UInt8)) (H:Heap):En × Heap:=match ks with
 |[]=>(.ret (.slice none 0 0),H)
 |k :: r=>(.ret (.slice (some ⟨H.next,0,none⟩) (r.length+1) (r.length+1)),H.new (some (.row (((k :: r).mergeSort leB).map Go.Proofs.encStr) T)))
def kSort (g T:Nat) (args:List Value) (H:Heap):Option (En × Heap):=match args with
 |[.func (.func g') ⟨[]⟩ ⟨[.pointer (some ⟨c,0,none⟩)]⟩]=>if Zk g' g then match H.get c with
  |some (.row [.map (some m)] _)=>match H.get m with
   |some (.map es clk)=>match keyL es with
    |some ks=>if es.length≤most∧(∀e∈es,e.born < clk)∧(es.map (·.born)).Nodup∧ks.Nodup then some (srt T ks H) else none
    |none=>none
   |_=>none
  |_=>none
  else none
 |_=>none
def okKs2 (mask:Nat) (L:List Known) (fS g T:Nat):Ok:=⟨mask,fun f args H=>if Zk f fS then kSort g T args H else kKs L f args H⟩
def keyI:List MapEntry→Option (List Int)
 |[]=>some []
 |e :: es=>match e.key,keyI es with
  |.int .i64 n,some l=>if -9223372036854775808≤n∧n≤9223372036854775807 then some (n :: l) else none
  |_,_=>none
abbrev leI:Int→Int→Bool:=fun a b=>decide (a≤b)
def srtI (T:TypeId) (ks:List Int) (H:Heap):En × Heap:=match ks with
 |[]=>(.ret (.slice none 0 0),H)
 |k :: r=>(.ret (.slice (some ⟨H.next,0,none⟩) (r.length+1) (r.length+1)),H.new (some (.row (((k :: r).mergeSort leI).map (Value.int .i64)) T)))
def kSortI (g T:Nat) (args:List Value) (H:Heap):Option (En × Heap):=match args with
 |[.func (.func g') ⟨[]⟩ ⟨[.pointer (some ⟨c,0,none⟩)]⟩]=>if Zk g' g then match H.get c with
  |some (.row [.map (some m)] _)=>match H.get m with
   |some (.map es clk)=>match keyI es with
    |some ks=>if es.length≤most∧(∀e∈es,e.born < clk)∧(es.map (·.born)).Nodup∧ks.Nodup then some (srtI T ks H) else none
    |none=>none
   |_=>none
  |_=>none
  else none
 |_=>none
def okKs3 (mask:Nat) (L:List Known) (fS g T fI gI TI:Nat):Ok:=⟨mask,fun f args H=>if Zk f fI then kSortI gI TI args H else if Zk f fS then kSort g T args H else kKs L f args H⟩
section
variable {P:Program}
theorem z6f {mask fS g T fI gI TI:Nat}{L:List Known}{p:Known}{f:FuncId}{args:List Value}{v:Value}{H:Heap}(hn:Zk f fS=false) (hp:(L.find? fun p=>Zk p.1 f)=some p) (hv:p.2 args=some v) (hw:H.wf) (hi:Zk f fI=false:=by rfl) :
  EvF P (okKs3 mask L fS g T fI gI TI) f args H fun u H'=>u=v∧H'=H :=
 EvF.know (v:=v) (H':=H) (by simp only[okKs3,hn,hi,kKs,hp,hv,Zo,Zc,if_false]) ⟨rfl,rfl⟩
theorem zj8 {mask fS g T fI gI TI c m clk:Nat}{L:List Known}{T':TypeId}{es:List MapEntry}{k:List UInt8}{r:List (List UInt8)}{H:Heap}(hc:H.get c=some (.row [.map (some m)] T')) (hm:H.get m=some (.map es clk)) (hk:keyL es=some (k :: r))
  (h1:es.length≤most) (h2:∀e∈es,e.born < clk) (h3:(es.map (·.born)).Nodup) (h4:(k :: r).Nodup) (hi:Zk fS fI=false:=by rfl) :
  EvF P (okKs3 mask L fS g T fI gI TI) fS [.func (.func g) #[] #[.pointer (some ⟨c,0,none⟩)]] H fun v H'=>v=.slice (some ⟨H.next,0,none⟩) (r.length+1) (r.length+1)∧H'=H.new (some (.row (((k :: r).mergeSort leB).map Go.Proofs.encStr) T)):=by
 refine EvF.know (v:=.slice (some ⟨H.next,0,none⟩) (r.length+1) (r.length+1)) (H':=H.new (some (.row (((k :: r).mergeSort leB).map Go.Proofs.encStr) T))) ?_ ⟨rfl,rfl⟩;have hb:Zk fS fS=true:=Zy fS;have hg:Zk g g=true:=Zy g;simp only[okKs3,hi,hb,if_true,Zc,if_false,kSort,hg,hc,hm,hk];rw[if_pos ⟨h1,h2,h3,h4⟩];rfl
theorem zba {mask fS g T fI gI TI c m clk:Nat}{L:List Known}{T':TypeId}{H:Heap}(hc:H.get c=some (.row [.map (some m)] T')) (hm:H.get m=some (.map [] clk)) (hi:Zk fS fI=false:=by rfl) :
  EvF P (okKs3 mask L fS g T fI gI TI) fS [.func (.func g) #[] #[.pointer (some ⟨c,0,none⟩)]] H fun v H'=>v=.slice none 0 0∧H'=H:=by
 refine EvF.know (v:=.slice none 0 0) (H':=H) ?_ ⟨rfl,rfl⟩;have hb:Zk fS fS=true:=Zy fS;have hg:Zk g g=true:=Zy g;simp only[okKs3,hi,hb,if_true,Zc,if_false,kSort,hg,hc,hm,keyL];rw[if_pos ⟨Zz _,by simp,by simp,by simp⟩];rfl
theorem zhi {mask fS g T fI gI TI c m clk:Nat}{L:List Known}{T':TypeId}{es:List MapEntry}{ks:List Int}{H:Heap}(hc:H.get c=some (.row [.map (some m)] T')) (hm:H.get m=some (.map es clk)) (hk:keyI es=some ks)
  (h1:es.length≤most) (h2:∀e∈es,e.born < clk) (h3:(es.map (·.born)).Nodup) (h4:ks.Nodup) :
  EvF P (okKs3 mask L fS g T fI gI TI) fI [.func (.func gI) #[] #[.pointer (some ⟨c,0,none⟩)]] H fun v H'=>(En.ret v,H')=srtI TI ks H:=by
 have hs:∃v H',srtI TI ks H=(.ret v,H'):=by cases ks<;>exact⟨_,_,rfl⟩
 obtain⟨v,H',hs⟩:=hs;refine EvF.know (v:=v) (H':=H') ?_ hs.symm;have hb:Zk fI fI=true:=Zy fI;have hg:Zk gI gI=true:=Zy gI;simp only[okKs3,hb,if_true,kSortI,hg,hc,hm,hk];rw[if_pos ⟨h1,h2,h3,h4⟩,hs]
end
end Go.Hb
end

section
namespace Go.Hb
open Go Go.RowKit
abbrev six (t:Tm) (a:Option Addr) (c:Nat):List Value:=[.int .i64 t.kind,.string t.name,.string t.num,.int .u64 t.bits,.int .i64 t.var,.slice a t.args.length c]
theorem row6 {H:Heap}{p:Nat}{T:TypeId}{x0 x1 x2 x3 x4 x5:Value}(h:H.get p=some (Blk.row [x0,x1,x2,x3,x4,x5] T)) :
  H.load ⟨p,0,none⟩ 1=some [x0]∧H.load ⟨p,1,none⟩ 1=some [x1]∧H.load ⟨p,2,none⟩ 1=some [x2]∧H.load ⟨p,3,none⟩ 1=some [x3]∧H.load ⟨p,4,none⟩ 1=some [x4]∧H.load ⟨p,5,none⟩ 1=some [x5] ∧
  H.load ⟨p,0,none⟩ 6=some [x0,x1,x2,x3,x4,x5]:=by
 refine⟨?_,?_,?_,?_,?_,?_,?_⟩<;>simp only[Heap.load,Heap.cells,h]<;>rfl
theorem new1 {H:Heap}(hw:H.wf) (A:Blk):∃H2,H.new (some A)=H2∧HX H H2∧H2.get H.next=some A∧H2.next=H.next+1∧H2.wf:=by
 have hx:=(HX.refl hw).new (some A);exact⟨_,rfl,hx,z4g,rfl,hx.wf⟩
theorem new2 {H:Heap}(hw:H.wf) (A B:Blk):∃H2,(H.new (some A)).new (some B)=H2∧HX H H2∧H2.get H.next=some A∧H2.get (H.next+1)=some B∧H2.next=H.next+2∧H2.wf:=by
 have hx:=((HX.refl hw).new (some A)).new (some B);refine⟨_,rfl,hx,?_,?_,rfl,hx.wf⟩
 ·rw[get_new,if_neg (by show H.next≠H.next+1;omega),get_new,if_pos rfl]
 ·rw[get_new];exact if_pos rfl
theorem zo3 {H:Heap}(hw:H.wf) (n i:Nat) (hi:i < n) (A:Blk):∃H2,Heap.put ⟨H.next+n,H.t⟩ (H.next+i) (some A)=H2∧HX H H2∧H2.get (H.next+i)=some A∧H2.wf:=by
 have hx:=((HX.refl hw).bump n).put (i:=H.next+i) (Nat.le_add_right _ _) (show H.next+i < H.next+n by omega) (some A);exact⟨_,rfl,hx,by rw[get_put,if_pos rfl],hx.wf⟩
theorem z5e {H:Heap}(hw:H.wf) (n:Nat):∃H2,(⟨H.next+n,H.t⟩:Heap)=H2∧HX H H2∧H2.wf:=⟨_,rfl,(HX.refl hw).bump n,((HX.refl hw).bump n).wf⟩
theorem HX.get {H H':Heap}(h:HX H H') (hw:H.wf) {p:Nat}{B:Blk}(hp:H.get p=some B):H'.get p=some B:=by
 rw[h.keep p (hw p B hp)];exact hp
theorem HX.lt {H H':Heap}(h:HX H H') (hw:H.wf) {p:Nat}{B:Blk}(hp:H.get p=some B):p < H'.next:=Zt (hw p B hp) h.next
theorem RepT.six {H:Heap}{t:Tm}{cs:List Value}(r:RepT H t cs):∃a c cells,cs=six t a c∧i64 t.kind∧t.name.size≤maxLen∧t.num.size≤maxLen∧u64 t.bits∧i64 t.var∧RepL H t.args a c cells:=r.inv
theorem RepL.max {H:Heap}{l:List Tm}{a:Option Addr}{c:Nat}{cells:Nat→List Value}(r:RepL H l a c cells):l.length≤9223372036854775807:=ZA r.len r.cap
theorem RepL.el {H:Heap}{l:List Tm}{a:Option Addr}{c:Nat}{cells:Nat→List Value}(r:RepL H l a c cells) {i:Nat}(h:i < l.length) :
  ∃b o a' c',a=some ⟨b,o,none⟩∧H.load ⟨b,o+i*6,none⟩ 6=some (Hb.six l[i] a' c')∧RepT H l[i] (Hb.six l[i] a' c'):=by
 obtain⟨b,o,rfl,hl,hr⟩:=r.at (Zd h);obtain⟨a',c',cells',hc,-⟩:=hr.six;rw[hc] at hl hr;exact⟨b,o,a',c',rfl,hl,hr⟩
theorem decl {i n:Nat}(h:i < n):decide ((i:Int) < (n:Int))=true:=decide_eq_true (by omega)
theorem decn {i n:Nat}(h:¬i < n):decide ((i:Int) < (n:Int))=false:=decide_eq_false (by omega)
end Go.Hb
end

section
namespace Go.Hb
open Go Go.RowKit
theorem RepT.len {H:Heap}{t:Tm}{cs:List Value}(r:RepT H t cs):cs.length=6:=by obtain⟨a,c,cells,rfl,-⟩:=r.six;rfl
theorem RepL.of_row {H:Heap}{l:List Tm}{css:Nat→List Value}{b c:Nat}{vs:List Value}{T:TypeId}(g:H.get b=some (.row vs T)) (hv:∀i,i < l.length→(vs.drop (i*6)).take 6=css i)
  (hr:∀i t,l[i]?=some t→RepT H t (css i)) (hl:l.length≤c) (hm:c≤maxLen):RepL H l (some ⟨b,0,none⟩) c css:=by
 refine⟨hl,hm,(fun h=>by cases h),(fun i ad hi ha=>?_),hr⟩;cases ha;refine⟨rfl,?_⟩;have hlen:=(hr i l[i] (Zd hi)).len;unfold Heap.load Heap.cells;simp only[g,Nat.zero_add,hv i hi];rw[if_pos (by rw[Zp];exact hlen)]
theorem RepL.two {H:Heap}{t t':Tm}{cs cs':List Value}{b:Nat}{T:TypeId}(r:RepT H t cs) (r':RepT H t' cs') (g:H.get b=some (.row (cs++cs') T)) :
  RepL H [t,t'] (some ⟨b,0,none⟩) 2 (fun i=>if i=0 then cs else cs'):=by
 refine RepL.of_row g (fun i hi=>?_) (fun i u hu=>?_) (Ze _) (by simp [maxLen])
 ·have h1:=r.len;have h2:=r'.len
  match i,hi with
  |0,_=>simp [h1]
  |1,_=>simp [h1,h2];exact Zx (by omega)
 ·match i,hu with
  |0,hu=>cases hu;exact r
  |1,hu=>cases hu;exact r'
end Go.Hb
end

section
namespace Go.Hb
open Go Go.RowKit
def Rg (a b:Nat):Nat→Prop:=fun n=>a≤n∧n < b
structure HK (S:Nat→Prop) (H H':Heap):Prop where
 next:H.next≤H'.next
 keep:∀i,i < H.next→¬S i→H'.get i=H.get i
 wf:H'.wf
theorem HX.hk {H H':Heap}(h:HX H H') (S:Nat→Prop):HK S H H':=⟨h.next,fun i hi _=>h.keep i hi,h.wf⟩
theorem HK.refl {S:Nat→Prop}{H:Heap}(h:H.wf):HK S H H:=(HX.refl h).hk S
theorem HK.trans {S:Nat→Prop}{A B C:Heap}(h:HK S A B) (k:HK S B C):HK S A C :=
 ⟨ZA h.next k.next,fun i hi hs=>by rw[k.keep i (Zt hi h.next) hs,h.keep i hi hs],k.wf⟩
theorem HK.sub {S S':Nat→Prop}{A B:Heap}(h:HK S A B) (hs:∀n,n < A.next→S n→S' n):HK S' A B:=⟨h.next,fun i hi hn=>h.keep i hi fun q=>hn (hs i hi q),h.wf⟩
theorem HK.put {S:Nat→Prop}{A H:Heap}(h:HK S A H) {i:Nat}(hi:S i∨A.next≤i) (hl:i < H.next) (B:Option Blk):HK S A (H.put i B):=by
 refine⟨h.next,fun j hj hs=>?_,fun j C hC=>?_⟩
 ·rw[Heap.get_put,if_neg (fun e=>by subst e;rcases hi with hi|hi;exact hs hi;omega)];exact h.keep j hj hs
 ·rw[Heap.get_put] at hC;show j < H.next;by_cases hj:j=i
  ·omega
  ·rw[if_neg hj] at hC;exact h.wf j C hC
theorem HK.new {S:Nat→Prop}{A H:Heap}(h:HK S A H) (B:Option Blk):HK S A (H.new B):=h.trans (((HX.refl h.wf).new B).hk S)
theorem HK.bump {S:Nat→Prop}{A H:Heap}(h:HK S A H) (k:Nat):HK S A ⟨H.next+k,H.t⟩:=h.trans (((HX.refl h.wf).bump k).hk S)
theorem HK.get {S:Nat→Prop}{H H':Heap}(h:HK S H H') (hw:H.wf) {p:Nat}{B:Blk}(hp:H.get p=some B) (hs:¬S p):H'.get p=some B:=by
 rw[h.keep p (hw p B hp) hs];exact hp
theorem HK.hx {S:Nat→Prop}{H H':Heap}(h:HK S H H') (hs:∀n,n < H.next→¬S n):HX H H':=⟨h.next,fun i hi=>h.keep i hi (hs i hi),h.wf⟩
theorem HX.then {S:Nat→Prop}{A B C:Heap}(h:HX A B) (k:HK S B C) (hs:∀n,n < A.next→¬S n):HX A C :=
 ⟨ZA h.next k.next,fun i hi=>by rw[k.keep i (Zt hi h.next) (hs i hi),h.keep i hi],k.wf⟩
structure Bd (t:Tm):Prop where
 kind:i64 t.kind
 name:t.name.size≤maxLen
 num:t.num.size≤maxLen
 bits:u64 t.bits
 var:i64 t.var
inductive FL (H:Heap) (T:TypeId):(Nat→Prop)→List Tm→Option Addr→Nat→Prop
 |nil (S:Nat→Prop):FL H T S [] none 0
 |row (S:Nat→Prop) (l:List Tm) (b c:Nat) (cells:List Value) (Si:Nat→Nat→Prop) (ai:Nat→Option Addr) (ci:Nat→Nat):l.length≤c→c≤maxLen→H.get b=some (.row cells T)→l.length*6≤cells.length →
   (∀(i:Nat) (u:Tm),l[i]?=some u→(cells.drop (i*6)).take 6=six u (ai i) (ci i))→(∀(i:Nat) (u:Tm),l[i]?=some u→Bd u)→S b→(∀i,i < l.length→¬Si i b)→(∀i n,i < l.length→Si i n→S n) →
   (∀i j n,i < l.length→j < l.length→Si i n→Si j n→i=j)→(∀(i:Nat) (u:Tm),l[i]?=some u→FL H T (Si i) u.args (ai i) (ci i))→FL H T S l (some ⟨b,0,none⟩) c
theorem FL.sub {H:Heap}{T:TypeId}{S S':Nat→Prop}{l:List Tm}{a:Option Addr}{c:Nat}(h:FL H T S l a c) (hs:∀n,S n→S' n):FL H T S' l a c:=by
 cases h with
 |nil=>exact .nil _
 |row _ _ b c cells Si ai ci h1 h2 h3 h4 h5 h6 h7 h8 h9 h10 h11=>exact .row S' l b c cells Si ai ci h1 h2 h3 h4 h5 h6 (hs _ h7) h8 (fun i n hi hn=>hs _ (h9 i n hi hn)) h10 h11
theorem FL.heap {H H':Heap}{T:TypeId}{S:Nat→Prop}{l:List Tm}{a:Option Addr}{c:Nat}(h:FL H T S l a c):(∀n,S n→n < H.next→H'.get n=H.get n)→H.wf→FL H' T S l a c:=by
 induction h with
 |nil=>intro _ _;exact .nil _
 |row S l b c cells Si ai ci h1 h2 h3 h4 h5 h6 h7 h8 h9 h10 h11 ih =>
  intro hk hw;exact .row S l b c cells Si ai ci h1 h2 (by rw[hk b h7 (hw b _ h3)];exact h3) h4 h5 h6 h7 h8 h9 h10 (fun i u hu=>ih i u hu (fun n hn=>hk n (h9 i n (List.getElem?_eq_some_iff.1 hu).1 hn)) hw)
theorem FL.keep {H H':Heap}{T:TypeId}{S:Nat→Prop}{l:List Tm}{a:Option Addr}{c:Nat}(h:FL H T S l a c) (hx:HX H H') (hw:H.wf):FL H' T S l a c:=h.heap (fun n _ hl=>hx.keep n hl) hw
theorem FL.len {H:Heap}{T:TypeId}{S:Nat→Prop}{l:List Tm}{a:Option Addr}{c:Nat}(h:FL H T S l a c):l.length≤c∧c≤maxLen∧(a=none→l=[]∧c=0):=by
 cases h with
 |nil=>exact⟨Ze _,Zz _,fun _=>⟨rfl,rfl⟩⟩
 |row _ _ b c cells Si ai ci h1 h2=>exact⟨h1,h2,fun h=>by cases h⟩
theorem FL.rep {H:Heap}{T:TypeId}{S:Nat→Prop}{l:List Tm}{a:Option Addr}{c:Nat}(h:FL H T S l a c):∃cells,RepL H l a c cells:=by
 induction h with
 |nil=>exact⟨fun _=>[],Ze _,Zz _,fun _=>⟨rfl,rfl⟩,fun i ad hi=>by simp at hi,fun i t h=>by simp at h⟩
 |row S l b c cells Si ai ci h1 h2 h3 h4 h5 h6 h7 h8 h9 h10 h11 ih =>
  refine⟨fun i=>(cells.drop (i*6)).take 6,RepL.of_row h3 (fun i hi=>rfl) (fun i t ht=>?_) h1 h2⟩;show RepT H t ((cells.drop (i*6)).take 6);rw[h5 i t ht];obtain⟨cs,rl⟩:=ih i t ht;have hb:=h6 i t ht;obtain⟨k,s,u,bb,v,l'⟩:=t;exact .mk k s u bb v l' (ai i) (ci i) cs hb.kind hb.name hb.num hb.bits hb.var (ZA rl.len rl.cap) rl.len rl.cap rl.nil rl.load rl.rep
def RepF (H:Heap) (T:TypeId) (S:Nat→Prop) (t:Tm) (cs:List Value):Prop:=∃a c,cs=six t a c∧Bd t∧FL H T S t.args a c
theorem RepF.rep {H:Heap}{T:TypeId}{S:Nat→Prop}{t:Tm}{cs:List Value}(h:RepF H T S t cs):RepT H t cs:=by
 obtain⟨a,c,rfl,hb,hf⟩:=h;obtain⟨cells,rl⟩:=hf.rep;obtain⟨k,s,u,bb,v,l'⟩:=t;exact .mk k s u bb v l' a c cells hb.kind hb.name hb.num hb.bits hb.var (ZA rl.len rl.cap) rl.len rl.cap rl.nil rl.load rl.rep
theorem RepF.keep {H H':Heap}{T:TypeId}{S:Nat→Prop}{t:Tm}{cs:List Value}(h:RepF H T S t cs) (hx:HX H H') (hw:H.wf):RepF H' T S t cs:=by
 obtain⟨a,c,e,hb,hf⟩:=h;exact⟨a,c,e,hb,hf.keep hx hw⟩
theorem RepF.sub {H:Heap}{T:TypeId}{S S':Nat→Prop}{t:Tm}{cs:List Value}(h:RepF H T S t cs) (hs:∀n,S n→S' n):RepF H T S' t cs:=by
 obtain⟨a,c,e,hb,hf⟩:=h;exact⟨a,c,e,hb,hf.sub hs⟩
theorem RepT.bd {H:Heap}{t:Tm}{cs:List Value}(r:RepT H t cs):Bd t:=by
 obtain⟨a,c,cells,-,b1,b2,b3,b4,b5,-⟩:=r.six;exact⟨b1,b2,b3,b4,b5⟩
structure FLs (H:Heap) (T:TypeId) (S:Nat→Prop) (l:List Tm) (cells:List Value) (Si:Nat→Nat→Prop) (ai:Nat→Option Addr) (ci:Nat→Nat):Prop where
 el:∀(i:Nat) (u:Tm),l[i]?=some u→(cells.drop (i*6)).take 6=six u (ai i) (ci i)
 bd:∀(i:Nat) (u:Tm),l[i]?=some u→Bd u
 sub:∀i n,i < l.length→Si i n→S n
 one:∀i j n,i < l.length→j < l.length→Si i n→Si j n→i=j
 fl:∀(i:Nat) (u:Tm),l[i]?=some u→FL H T (Si i) u.args (ai i) (ci i)
theorem FLs.nil {H:Heap}{T:TypeId}{S:Nat→Prop}{cells:List Value}{Si:Nat→Nat→Prop}{ai:Nat→Option Addr}{ci:Nat→Nat}:FLs H T S [] cells Si ai ci :=
 ⟨fun i u h=>by simp at h,fun i u h=>by simp at h,fun i n h=>by simp at h,fun i j n h=>by simp at h,fun i u h=>by simp at h⟩
theorem FLs.heap {H H':Heap}{T:TypeId}{S:Nat→Prop}{l:List Tm}{cells:List Value}{Si:Nat→Nat→Prop}{ai:Nat→Option Addr}{ci:Nat→Nat}(h:FLs H T S l cells Si ai ci)
  (hk:∀n,S n→n < H.next→H'.get n=H.get n) (hw:H.wf):FLs H' T S l cells Si ai ci :=
 ⟨h.el,h.bd,h.sub,h.one,fun i u hu=>(h.fl i u hu).heap (fun n hn hl=>hk n (h.sub i n (List.getElem?_eq_some_iff.1 hu).1 hn) hl) hw⟩
theorem FLs.row {H:Heap}{T:TypeId}{S S':Nat→Prop}{l:List Tm}{cells:List Value}{Si:Nat→Nat→Prop}{ai:Nat→Option Addr}{ci:Nat→Nat}{b c:Nat}(h:FLs H T S l cells Si ai ci)
  (hl:l.length≤c) (hc:c≤maxLen) (hg:H.get b=some (.row cells T)) (hn:l.length*6≤cells.length) (hb:S' b) (hnb:¬S b) (hS:∀n,S n→S' n):FL H T S' l (some ⟨b,0,none⟩) c :=
 .row S' l b c cells Si ai ci hl hc hg hn h.el h.bd hb (fun i hi hs=>hnb (h.sub i b hi hs)) (fun i n hi hs=>hS n (h.sub i n hi hs)) h.one h.fl
theorem FLs.inv {H:Heap}{T:TypeId}{S:Nat→Prop}{l:List Tm}{b c:Nat}{a:Option Addr}(h:FL H T S l a c) (h0:l≠[]):∃b cells Si ai ci,a=some ⟨b,0,none⟩∧l.length≤c∧c≤maxLen∧H.get b=some (.row cells T)∧l.length*6≤cells.length ∧
  S b∧(∀i,i < l.length→¬Si i b)∧FLs H T S l cells Si ai ci:=by
 cases h with
 |nil=>exact absurd rfl h0
 |row _ _ b c cells Si ai ci h1 h2 h3 h4 h5 h6 h7 h8 h9 h10 h11=>exact⟨b,cells,Si,ai,ci,rfl,h1,h2,h3,h4,h7,h8,⟨h5,h6,h9,h10,h11⟩⟩
end Go.Hb
end

section
namespace Go.Hb
open Go Go.RowKit
section
variable (P:Program) (ok:Ok)
def EvP (f:FuncId) (args:List Value) (H:Heap) (K:List PanicEntry→Heap→Prop):Prop:=Upon (fun n=>dcall P ok n f args H) fun p=>∃ch,p.1=.panic ch∧K ch p.2
def EvM (fn:Func) (tm:Tr Value) (ds:List Deferred) (m:Option (List PanicEntry)) (H:Heap) (K:Value→Heap→Prop):Prop:=Upon (fun n=>dleave P ok n fn tm ds m H) fun p=>∃v,p.1=.ret v∧K v p.2
def EvSq (x:Ctx) (cs:List Code) (st:St) (Q:Ex→St→Prop):Prop:=Upon (fun n=>dseq P ok n x cs st) fun p=>Q p.1 p.2
end
def Ex.leaveP (K:List PanicEntry→Heap→Prop):Ex→St→Prop
 |.panic ch,st=>st.ds=[]∧K ch st.H
 |_,_=>False
def Ex.leaveM (P:Program) (ok:Ok) (fn:Func) (K:Value→Heap→Prop):Ex→St→Prop
 |.normal,st|.ret,st=>EvM P ok fn st.tm st.ds none st.H K
 |.panic ch,st=>EvM P ok fn st.tm st.ds (some ch) st.H K
 |_,_=>False
section
variable {P:Program}{ok:Ok}{x:Ctx}{ops:Array Oper}
theorem EvP.mono {f:FuncId}{args:List Value}{H:Heap}{K L:List PanicEntry→Heap→Prop}(h:EvP P ok f args H K) (k:∀v H',K v H'→L v H'):EvP P ok f args H L :=
 Upon.mono h fun _ ⟨v,e,hq⟩=>⟨v,e,k _ _ hq⟩
theorem EvP.enter {f:FuncId}{fn:Func}{c:Code}{args:List Value}{H:Heap}{K:List PanicEntry→Heap→Prop}(hK:ok.K f args H=none) (hf:P.funcs[f]?=some fn) (hm:ok.testBit f=true) (hb:fn.body=some c)
  (h:EvC P ok ⟨f,none⟩ c ⟨initTm 0 args .nil,[],H⟩ (Ex.leaveP K)):EvP P ok f args H K:=by
 refine Upon.step (fun n (r:Ex × St)=>match r with|(.normal,st)|(.ret,st)=>dleave P ok n fn st.tm st.ds none st.H|(.panic ch,st)=>dleave P ok n fn st.tm st.ds (some ch) st.H|_=>none) (fun n r hr=>?_) h ?_
 ·rw[dcall,hK];simp only[hf,hm,hb,hr];obtain⟨e,s⟩:=r;cases e<;>rfl
 ·rintro ⟨e,s⟩ hq;cases e with
  |panic ch =>
   obtain⟨h1,h2⟩:=hq;exact Upon.now (r:=(.panic ch,s.H)) (fun n=>by show dleave P ok (n+1) fn s.tm s.ds (some ch) s.H=_;rw[h1,dleave]) ⟨ch,rfl,h2⟩
  |_=>exact hq.elim
def EvG (P:Program) (ok:Ok) (f:FuncId) (args:List Value) (H:Heap) (K:En→Heap→Prop):Prop:=Upon (fun n=>dcall P ok n f args H) fun p=>K p.1 p.2
def Ex.leaveG (P:Program) (ok:Ok) (fn:Func) (K:En→Heap→Prop):Ex→St→Prop
 |.normal,st|.ret,st=>EvV P ok fn st.tm st.ds st.H fun v H=>K (.ret v) H
 |.panic ch,st=>st.ds=[]∧K (.panic ch) st.H
 |_,_=>False
theorem EvG.mono {f:FuncId}{args:List Value}{H:Heap}{K L:En→Heap→Prop}(h:EvG P ok f args H K) (k:∀v H',K v H'→L v H'):EvG P ok f args H L:=Upon.mono h fun _ hq=>k _ _ hq
theorem EvG.enter {f:FuncId}{fn:Func}{c:Code}{args:List Value}{H:Heap}{K:En→Heap→Prop}(hK:ok.K f args H=none) (hf:P.funcs[f]?=some fn) (hm:ok.testBit f=true) (hb:fn.body=some c)
  (h:EvC P ok ⟨f,none⟩ c ⟨initTm 0 args .nil,[],H⟩ (Ex.leaveG P ok fn K)):EvG P ok f args H K:=by
 refine Upon.step (fun n (r:Ex × St)=>match r with|(.normal,st)|(.ret,st)=>dleave P ok n fn st.tm st.ds none st.H|(.panic ch,st)=>dleave P ok n fn st.tm st.ds (some ch) st.H|_=>none) (fun n r hr=>?_) h ?_
 ·rw[dcall,hK];simp only[hf,hm,hb,hr];obtain⟨e,s⟩:=r;cases e<;>rfl
 ·have key:∀{s:St},EvV P ok fn s.tm s.ds s.H (fun v H=>K (.ret v) H)→Upon (fun n=>dleave P ok n fn s.tm s.ds none s.H) fun p=>K p.1 p.2:=fun h=>Upon.mono h fun r ⟨v,e,hq⟩=>by rw[e];exact hq
  rintro ⟨e,s⟩ hq;cases e with
  |normal=>exact key hq
  |ret=>exact key hq
  |panic ch =>
   obtain⟨h1,h2⟩:=hq;exact Upon.now (r:=(.panic ch,s.H)) (fun n=>by show dleave P ok (n+1) fn s.tm s.ds (some ch) s.H=_;rw[h1,dleave]) h2
  |exit _=>exact hq.elim
theorem EvM.now {fn:Func}{tm:Tr Value}{H:Heap}{v:Value}{K:Value→Heap→Prop}(hr:dres P fn tm H=some v) (h:K v H):EvM P ok fn tm [] none H K :=
 Upon.now (r:=(.ret v,H)) (fun n=>by rw[dleave,hr]) ⟨v,rfl,h⟩
theorem EvSq.nil {st:St}{Q:Ex→St→Prop}(h:Q .normal st):EvSq P ok x [] st Q:=Upon.now (fun n=>by rw[dseq]) h
theorem EvSq.cons {c:Code}{cs:List Code}{st:St}{Q:Ex→St→Prop}(h:EvC P ok x c st (Ex.thenC (fun st1=>EvSq P ok x cs st1 Q) Q)):EvSq P ok x (c :: cs) st Q:=by
 refine Upon.step (fun n (r:Ex × St)=>match r with|(.normal,st1)=>dseq P ok n x cs st1|r=>some r) (fun n r hr=>?_) h ?_
 ·rw[dseq,hr];obtain⟨e,s⟩:=r;cases e<;>rfl
 ·rintro ⟨e,s⟩ hq;cases e with
  |normal=>exact hq
  |_=>exact⟨0,_,fun n _=>rfl,hq⟩
def EPl (P:Program):List Oper→Tr Value→Heap→(Tr Value→Heap→Prop)→Prop
 |[],tm,H,K=>K tm H
 |o :: os,tm,H,K=>o.guard=none∧∃v H',dop P o (ev tm) H=some (.val v H')∧EPl P os (putD tm o.dst v) H' K
theorem zcr {K:Tr Value→Heap→Prop}:∀(l:List Nat) (os:List Oper) (tm:Tr Value) (H:Heap),l.map (fun i=>ops[i]?)=os.map some→EPl P os tm H K→∃tm1 H1,dplain P ops l tm H=some (tm1,H1)∧K tm1 H1
 |[],[],tm,H,_,h=>⟨tm,H,by rw[dplain],h⟩
 |[],_ :: _,_,_,h,_=>by simp at h
 |_ :: _,[],_,_,h,_=>by simp at h
 |i :: l,o :: os,tm,H,hl,h=>by
  simp only[Zs,List.cons.injEq] at hl;obtain⟨hg,v,H',hd,h⟩:=h;obtain⟨tm1,H1,e,hk⟩:=zcr l os _ _ hl.2 h;refine⟨tm1,H1,?_,hk⟩;rw[dplain,hl.1];simp only[hg,hd];rw[←e];cases o.dst<;>rfl
theorem zhj {o:Oper}{os:List Oper}(h:ops.toList=o :: os):((Zj ops.size).drop 1).map (fun i=>ops[i]?)=os.map some:=by
 have:=z5q ops;rw[h] at this;rw[←List.map_drop.symm] at *;rw[this];rfl
theorem EvM.recov {fn gn:Func}{tm:Tr Value}{ds:List Deferred}{m:Option (List PanicEntry)}{H:Heap}{K:Value→Heap→Prop}{g:FuncId}{captured args:Array Value}{c:Code}{rest:List Code}{o:Oper}{os:List Oper}
  (hg:P.funcs[g]?=some gn) (hm:ok.testBit g=true) (hc:callable P g=true) (hb:gn.body=some c) (hh:headRegion c=some (ops,rest)) (ho:ops.toList=o :: os) (hr:isRecover o=true) (hn:gn.results.isEmpty=true)
  (h:EPl P os (putD (initTm 0 (args.toList++captured.toList) .nil) o.dst (drecov m).1) H fun tm1 H1 =>
   EvSq P ok ⟨g,none⟩ rest ⟨tm1,[],H1⟩ fun e st=>(e=.normal∨e=.ret)∧st.ds=[]∧EvM P ok fn tm ds (dsettle (drecov m).2) st.H K) :
  EvM P ok fn tm (⟨.fn (.func g) captured,args⟩ :: ds) m H K:=by
 have hd1:(dcall1 P g []).isSome=true:=by
  unfold callable at hc;rw[hg] at hc;unfold dcall1;rw[hg];simp only at hc ⊢;rw[if_pos hc];rfl
 have ho0:ops[0]?=some o:=by
  have:ops.toList[0]?=some o:=by rw[ho];rfl
  simpa using this
 obtain⟨tm1,H1,hpl,hsq⟩:=zcr _ _ _ _ (zhj ho) h;have hst0:(St.put ⟨initTm 0 (args.toList++captured.toList) .nil,[],H⟩ o.dst (drecov m).1 H).tm=putD (initTm 0 (args.toList++captured.toList) .nil) o.dst (drecov m).1:=by cases o.dst<;>rfl
 refine Upon.step (fun n (r:Ex × St)=>match r with|(.normal,st2)|(.ret,st2)=>if st2.ds.isEmpty && gn.results.isEmpty then dleave P ok n fn tm ds (dsettle (drecov m).2) st2.H else none|_=>none) (fun n r hr2=>?_) hsq ?_
 ·rw[dleave];simp only[hg,hm,hd1,Bool.and_self,hb,hh,ho0,hr,if_true,hst0,hpl,hr2];obtain⟨e,s⟩:=r;cases e<;>rfl
 ·rintro ⟨e,s⟩ ⟨he,hds,hq⟩;simp only at he hds hq;rcases he with rfl|rfl
  ·simp only[hds,hn,List.isEmpty_nil,Bool.and_self,if_true];exact hq
  ·simp only[hds,hn,List.isEmpty_nil,Bool.and_self,if_true];exact hq
def PL (P:Program) (ok:Ok) (tm:Tr Value) (ds:List Deferred) (H:Heap) (Q:Ex→St→Prop):Option Dr→Prop
 |some (.call f args)=>EvP P ok f args H fun ch H2=>Q (.panic ch) ⟨tm,ds,H2⟩
 |some (.panic v)=>Q (.panic [{ v,recovered:=false }]) ⟨tm,ds,H⟩
 |_=>False
def PC (P:Program) (ok:Ok) (x:Ctx) (ops:Array Oper) (base:Nat) (S:List (List (Nat × Nat) × Option Nat)) (G:Heap) (d:Option Tmp) (tm1:Tr Value) (ds:List Deferred) (H1:Heap) (K:List PanicEntry→Heap→Prop):Option Dr→Prop
 |some (.call f args)=>EvP P ok f args H1 K∧ES P ok x ops base S H1 [G] (putD tm1 d (dmight P f)) ds fun _ _ _=>True
 |_=>False
end
end Go.Hb
end

section
namespace Go.Hb
open Go Go.RowKit
section
variable {P:Program}{ok:Ok}{x:Ctx}{ops:Array Oper}{os:List Oper}{tm:Tr Value}{ds:List Deferred}{H:Heap}{K:Tr Value→List Deferred→Heap→Prop}{d:Option Tmp}{ty:TypeId}{pos:String}{af:Array Edge}{g:Option (Nat × Bool)}{ρ:Operand→Value}
def mkiOk (P:Program) (t:TypeId):Bool:=match P.underlying t with|some (.interface _)=>false|some _=>true|none=>false
def dMkI (P:Program) (t:TypeId) (v:Value) (H:Heap):Option Dr:=match P.underlying t with|some (.interface _)=>none|some _=>some (.val (.iface t v) H)|none=>none
theorem z0y {t:TypeId}{a:Operand}:dop P ⟨d,.makeInterface t a,ty,pos,af,g⟩ ρ H=dMkI P t (ρ a) H:=_root_.id rfl
theorem z4y {t:TypeId}{v:Value}(h:mkiOk P t=true):dMkI P t v H=some (.val (.iface t v) H):=by
 unfold mkiOk at h;unfold dMkI;cases hu:P.underlying t with
 |none=>rw[hu] at h;cases h
 |some u =>
  rw[hu] at h;cases u<;>first|rfl|cases h
def dTa (P:Program) (xt at_:TypeId) (ok:Bool) (v:Value) (H:Heap):Option Dr :=
 match v with
 |.iface t u=>(dassert P t u at_ ok).map (.val · H)
 |v=>dOut (flat v && true) (pureRun P (do let r ←Instr.typeAssert v xt at_ ok;pure (Next.value r))) H
theorem z5h {a:Operand}{xt at_:TypeId}{o:Bool}:dop P ⟨d,.typeAssert a xt at_ o,ty,pos,af,g⟩ ρ H=dTa P xt at_ o (ρ a) H:=by
 cases h:ρ a with
 |iface t v=>simp only[dop,h,dTa]
 |_ =>
  have e:dop P ⟨d,.typeAssert a xt at_ o,ty,pos,af,g⟩ ρ H=dflat P ⟨d,.typeAssert a xt at_ o,ty,pos,af,g⟩ ρ H:=by simp only[dop,h]
  rw[e,z8m];have e1:allFlat ρ ⟨d,.typeAssert a xt at_ o,ty,pos,af,g⟩=(flat (ρ a) && true):=rfl;have e2:execOp ρ ⟨d,.typeAssert a xt at_ o,ty,pos,af,g⟩=(do let r ←Instr.typeAssert (ρ a) xt at_ o;pure (Next.value r)):=rfl;rw[e1,e2,h];rfl
def taZ (P:Program) (at_:TypeId):Option Value:=match P.underlying at_ with
 |some (.interface _)=>none
 |some _=>match pureRun P (zeroValue at_) with
  |some z=>if flat z then some z else none
  |none=>none
 |none=>none
theorem zo4 {at_:TypeId}{z:Value}(h:taZ P at_=some z):∃u,P.underlying at_=some u∧(∀w,u≠.interface w)∧pureRun P (zeroValue at_)=some z∧flat z=true:=by
 unfold taZ at h;cases hu:P.underlying at_ with
 |none=>rw[hu] at h;cases h
 |some u =>
  rw[hu] at h;have h':(∀w,u≠.interface w)∧(match pureRun P (zeroValue at_) with|some z=>if flat z then some z else none|none=>none)=some z:=by
   cases u<;>first|exact⟨fun w hw=>(by cases hw),h⟩|cases h
  obtain⟨hne,h'⟩:=h';cases hz:pureRun P (zeroValue at_) with
  |none=>rw[hz] at h';cases h'
  |some z' =>
   rw[hz] at h';simp only at h';split at h'
   ·rename_i hf;cases h';exact⟨u,rfl,hne,rfl,hf⟩
   ·cases h'
theorem zj9 {xt at_:TypeId}{v z:Value}(h:taZ P at_=some z):dTa P xt at_ true (.iface at_ v) H=some (.val (.tuple #[v,.bool true]) H):=by
 obtain⟨u,hu,hne,hz,hf⟩:=zo4 h;simp only[dTa,dassert,hu,Zy,if_true];rfl
def ifO (P:Program) (t:TypeId):Prop:=∃m,P.underlying t=some (.interface m)
def dDef (v:Value) (ags:Array Value):Option Dr:=match v with|.func (.func f) x y=>some (.dfr { target:=.fn (.func f) y,args:=x++ags })|_=>none
def dPan (v:Value):Option Dr:=match v with|.iface t u=>some (.panic (.iface t u))|_=>none
end
end Go.Hb
end

section
namespace Go.Hb
open Go Go.RowKit
def MapR (H:Heap) (r:Nat) (M:List (Int × Value)):Prop:=∃es clock,H.get r=some (.map es clock)∧es.map (fun e=>(e.key,e.val))=M.map fun p=>(Value.int .i64 p.1,p.2)
section
variable {P:Program}{H:Heap}
theorem z8w:∀(es:List MapEntry) (M:List (Int × Value)) (n:Int) (i:Nat),es.map (fun e=>(e.key,e.val))=M.map (fun p=>(Value.int .i64 p.1,p.2)) →
  Instr.findNow (.int .i64) (.int .i64 n) (keysOf es) i=some ((M.findIdx? fun p=>p.1 == n).map fun j=>(i+j,.bool false))
 |[],[],_,_,_=>rfl
 |[],_ :: _,_,_,h=>by simp at h
 |_ :: _,[],_,_,h=>by simp at h
 |e :: es,p :: M,n,i,h=>by
  simp only[Zs,List.cons.injEq,Prod.mk.injEq] at h;have hk:e.key=.int .i64 p.1:=h.1.1;have ih:=z8w es M n (i+1) h.2;unfold keysOf at ih ⊢;rw[Zs];unfold Instr.findNow;simp only[hk,Instr.sameNow,if_true,List.findIdx?_cons];by_cases he:p.1=n
  ·subst he;simp
  ·have h1:(n == p.1)=false:=by simp;omega
   have h2:(p.1 == n)=false:=by simp;omega
   simp only[h1,h2];rw[ih];cases M.findIdx? fun p=>p.1 == n with
   |none=>rfl
   |some j=>simp only[Zo,Option.some.injEq,Prod.mk.injEq,and_true,Zc,if_false];omega
theorem z6g {kt:TypeId}{emp:Bool}{es:List MapEntry}{M:List (Int × Value)}{n:Int}(hk:P.underlying kt=some (.int .i64)) (h:es.map (fun e=>(e.key,e.val))=M.map fun p=>(Value.int .i64 p.1,p.2)) :
  dfind P emp kt (.int .i64 n) es=some (M.findIdx? fun p=>p.1 == n):=by
 have hu:pureRun P (underlying kt)=some (.int .i64):=z0n hk;have h1:pureRun P (Instr.checkKey emp 10000 kt (.int .i64 n))=some ():=by
  unfold Instr.checkKey;rw[z0a,hu,Zq];rfl
 have h2:pureRun P (Instr.findKey kt (.int .i64 n) (keysOf es))=some ((M.findIdx? fun p=>p.1 == n).map fun j=>(j,.bool false)):=by
  unfold Instr.findKey;rw[z0a,hu,Zq,z8w es M n 0 h];simp only[Nat.zero_add];rfl
 unfold dfind;rw[h1,h2];simp only[flat];cases M.findIdx? fun p=>p.1 == n<;>rfl
def mGet (M:List (Int × Value)) (n:Int):Option Value:=(M.find? fun p=>p.1 == n).map (·.2)
theorem z7s {M:List (Int × Value)}{n:Int}:(M.findIdx? fun p=>p.1 == n)=none∧mGet M n=none∨∃i v,(M.findIdx? fun p=>p.1 == n)=some i∧M[i]?=some (n,v)∧mGet M n=some v:=by
 unfold mGet
 induction M with
 |nil=>left;exact⟨rfl,rfl⟩
 |cons p M ih =>
  by_cases hp:p.1=n
  ·right;have hb:(p.1 == n)=true:=by simp [hp]
   refine⟨0,p.2,by simp [List.findIdx?_cons,hb],by rw[←hp];rfl,by simp [ZH,hb]⟩
  ·have hb:(p.1 == n)=false:=by simp [hp]
   rcases ih with ⟨h1,h2⟩|⟨i,v,h1,h2,h3⟩
   ·left;exact⟨by simp [List.findIdx?_cons,hb];simpa using h1,by simpa [ZH,hb] using h2⟩
   ·right;refine⟨i+1,v,by simp [List.findIdx?_cons,hb,h1],by simpa using h2,by simpa [ZH,hb] using h3⟩
def dLk (P:Program) (t:TypeId) (m k:Value) (ok:Bool) (H:Heap):Option Dr:=dlookup P t m k ok H
def dUp (P:Program) (t:TypeId) (m k v:Value) (H:Heap):Option Dr:=dupdate P t m k v H
def mpOk (P:Program) (t kt et:TypeId) (z:Value):Prop:=P.underlying t=some (.map kt et)∧P.underlying kt=some (.int .i64)∧pureRun P (zeroValue et)=some z∧flat z=true
theorem z1p {d:Option Tmp}{t:TypeId}{m k:Operand}{ok:Bool}{ty:TypeId}{pos:String}{af:Array Edge}{g:Option (Nat × Bool)}{ρ:Operand→Value}:dop P ⟨d,.lookup t m k ok,ty,pos,af,g⟩ ρ H=dLk P t (ρ m) (ρ k) ok H:=_root_.id rfl
theorem z1j {d:Option Tmp}{t:TypeId}{m k v:Operand}{ty:TypeId}{pos:String}{af:Array Edge}{g:Option (Nat × Bool)}{ρ:Operand→Value}:dop P ⟨d,.mapUpdate t m k v,ty,pos,af,g⟩ ρ H=dUp P t (ρ m) (ρ k) (ρ v) H:=_root_.id rfl
theorem ze5 {d:Option Tmp}{t:TypeId}{ty:TypeId}{pos:String}{af:Array Edge}{g:Option (Nat × Bool)}{ρ:Operand→Value}:dop P ⟨d,.makeMap t none,ty,pos,af,g⟩ ρ H=some (.val (.map (some H.next)) (H.new (some (.map [] 0)))):=_root_.id rfl
theorem MapR.new:MapR (H.new (some (.map [] 0))) H.next []:=⟨[],0,by rw[Heap.get_new,if_pos rfl],rfl⟩
theorem MapR.heap {H':Heap}{r:Nat}{M:List (Int × Value)}(h:MapR H r M) (hk:H'.get r=H.get r):MapR H' r M:=by
 obtain⟨es,clock,hg,he⟩:=h;exact⟨es,clock,hk.trans hg,he⟩
theorem MapR.lt {r:Nat}{M:List (Int × Value)}(h:MapR H r M) (hw:H.wf):r < H.next:=by obtain⟨es,clock,hg,he⟩:=h;exact hw _ _ hg
theorem zlj {t kt et:TypeId}{z v:Value}{r:Nat}{M:List (Int × Value)}{n:Int}{ok:Bool}(h:mpOk P t kt et z) (hm:MapR H r M) (hv:mGet M n=some v) :
  dLk P t (.map (some r)) (.int .i64 n) ok H=some (.val (if ok then .tuple #[v,.bool true] else v) H):=by
 obtain⟨h1,h2,h3,h4⟩:=h;obtain⟨es,clock,hg,he⟩:=hm;rcases z7s (M:=M) (n:=n) with ⟨_,h5⟩|⟨i,u,h5,h6,h7⟩
 ·rw[h5] at hv;cases hv
 ·rw[h7] at hv;cases hv;have hi:∃e,es[i]?=some e∧e.val=v:=by
   have:=congrArg (·[i]?) he;simp only[Zr,h6,Zo,Option.map_eq_some_iff,Prod.mk.injEq] at this;obtain⟨e,h8,-,h9⟩:=this;exact⟨e,h8,h9⟩
  obtain⟨e,h8,h9⟩:=hi;simp only[dLk,dlookup,h1,hg,z6g h2 he,h5,h8,h9]
theorem zlk {t kt et:TypeId}{z:Value}{r:Nat}{M:List (Int × Value)}{n:Int}{ok:Bool}(h:mpOk P t kt et z) (hm:MapR H r M) (hv:mGet M n=none) :
  dLk P t (.map (some r)) (.int .i64 n) ok H=some (.val (if ok then .tuple #[z,.bool false] else z) H):=by
 obtain⟨h1,h2,h3,h4⟩:=h;obtain⟨es,clock,hg,he⟩:=hm;rcases z7s (M:=M) (n:=n) with ⟨h5,_⟩|⟨i,u,h5,h6,h7⟩
 ·simp only[dLk,dlookup,h1,hg,z6g h2 he,h5,h3,h4,if_true]
 ·rw[h7] at hv;cases hv
end
end Go.Hb
end

section
namespace Go.Proofs.hq
open Go Go.RowKit Go.Hb
abbrev ClF (n:Nat):Prop:=∀{d:Option Tmp}{args:Array Operand}{ats:Array TypeId}{ty:TypeId}{pos:String}{af:Array Edge}{g:Option (Nat × Bool)}{tm:Tr Value}{H:Heap},dop Tryz.prog ⟨d,.call ⟨.value (.func n),args,ats⟩,ty,pos,af,g⟩ (ev tm) H=some (.call n (args.toList.map (ev tm)))
theorem cl6:ClF 6:=z0c (by kernel_rfl)
theorem cl7:ClF 7:=z0c (by kernel_rfl)
theorem cl8:ClF 8:=z0c (by kernel_rfl)
theorem ln23 {ty:TypeId}{a:Option Addr}{n c:Nat}{H:Heap}:dLn Tryz.prog 23 ty (.slice a n c) H=some (.val (.int .i64 n) H):=z3e (e:=36) (by kernel_rfl)
theorem ia23 {b o n c i:Nat}{k:IntKind}{H:Heap}(h:i < n):dIndexAddr Tryz.prog 23 (.slice (some ⟨b,o,none⟩) n c) (.int k (i:Int)) H=some (.val (.pointer (some ⟨b,o+i*9,none⟩)) H):=z1i (e:=36) (by kernel_rfl) (by kernel_rfl) (by kernel_rfl) h
theorem ld36 {ad:Addr}{H:Heap}:dLoad Tryz.prog 36 (.pointer (some ad)) H=dloadA 9 (H.load ad 9) H:=z2a (by kernel_rfl) (by kernel_rfl)
theorem cl9:ClF 9:=z0c (by kernel_rfl)
theorem znf {b o:Nat}{H:Heap}:dFieldAddr Tryz.prog 39 (.pointer (some ⟨b,o,none⟩)) 2 H=some (.val (.pointer (some ⟨b,o+2,none⟩)) H):=z07 (u:=3) (by kernel_rfl) (by kernel_rfl)
theorem ld3 {ad:Addr}{H:Heap}:dLoad Tryz.prog 3 (.pointer (some ad)) H=dload1 (H.load ad 1) H:=z1o (by kernel_rfl)
theorem cl10:ClF 10:=z0c (by kernel_rfl)
theorem cl11:ClF 11:=z0c (by kernel_rfl)
theorem zr44:zerosOf Tryz.prog 44=some [.slice none 0 0,.slice none 0 0,.string Zg,.int .i64 0,.int .i64 0]:=by kernel_rfl
theorem st44 {b o:Nat}{H:Heap}{cs:List Value}:dStore Tryz.prog 44 (.pointer (some ⟨b,o,none⟩)) (.agg ⟨cs⟩) H=dStoreIf (Zk cs.length 5) ⟨b,o,none⟩ cs H (H.get b):=z2n (by kernel_rfl) (by kernel_rfl)
theorem z3j {b o:Nat}{H:Heap}:dFieldAddr Tryz.prog 36 (.pointer (some ⟨b,o,none⟩)) 0 H=some (.val (.pointer (some ⟨b,o+0,none⟩)) H):=z07 (u:=3) (by kernel_rfl) (by kernel_rfl)
theorem z7g {b o:Nat}{H:Heap}:dFieldAddr Tryz.prog 36 (.pointer (some ⟨b,o,none⟩)) 3 H=some (.val (.pointer (some ⟨b,o+3,none⟩)) H):=z07 (u:=9) (by kernel_rfl) (by kernel_rfl)
theorem ld9 {ad:Addr}{H:Heap}:dLoad Tryz.prog 9 (.pointer (some ad)) H=dload1 (H.load ad 1) H:=z1o (by kernel_rfl)
theorem z4p {b o:Nat}{H:Heap}:dFieldAddr Tryz.prog 36 (.pointer (some ⟨b,o,none⟩)) 2 H=some (.val (.pointer (some ⟨b,o+2,none⟩)) H):=z07 (u:=3) (by kernel_rfl) (by kernel_rfl)
theorem zja {b o:Nat}{H:Heap}:dFieldAddr Tryz.prog 36 (.pointer (some ⟨b,o,none⟩)) 4 H=some (.val (.pointer (some ⟨b,o+4,none⟩)) H):=z07 (u:=34) (by kernel_rfl) (by kernel_rfl)
theorem ld34 {ad:Addr}{H:Heap}:dLoad Tryz.prog 34 (.pointer (some ad)) H=dloadA 4 (H.load ad 4) H:=z2a (by kernel_rfl) (by kernel_rfl)
theorem cl12:ClF 12:=z0c (by kernel_rfl)
theorem z1f {b o:Nat}{H:Heap}:dFieldAddr Tryz.prog 36 (.pointer (some ⟨b,o,none⟩)) 1 H=some (.val (.pointer (some ⟨b,o+1,none⟩)) H):=z07 (u:=3) (by kernel_rfl) (by kernel_rfl)
theorem cl13:ClF 13:=z0c (by kernel_rfl)
theorem cl14:ClF 14:=z0c (by kernel_rfl)
theorem cl15:ClF 15:=z0c (by kernel_rfl)
theorem za3 {b o:Nat}{H:Heap}:dFieldAddr Tryz.prog 36 (.pointer (some ⟨b,o,none⟩)) 5 H=some (.val (.pointer (some ⟨b,o+8,none⟩)) H):=z07 (u:=4) (by kernel_rfl) (by kernel_rfl)
theorem ld4 {ad:Addr}{H:Heap}:dLoad Tryz.prog 4 (.pointer (some ad)) H=dload1 (H.load ad 1) H:=z1o (by kernel_rfl)
theorem cl16:ClF 16:=z0c (by kernel_rfl)
theorem cl17:ClF 17:=z0c (by kernel_rfl)
theorem cl18:ClF 18:=z0c (by kernel_rfl)
theorem cl19:ClF 19:=z0c (by kernel_rfl)
theorem cl20:ClF 20:=z0c (by kernel_rfl)
theorem cl21:ClF 21:=z0c (by kernel_rfl)
theorem ld44 {ad:Addr}{H:Heap}:dLoad Tryz.prog 44 (.pointer (some ad)) H=dloadA 5 (H.load ad 5) H:=z2a (by kernel_rfl) (by kernel_rfl)
theorem cl22:ClF 22:=z0c (by kernel_rfl)
theorem cl23:ClF 23:=z0c (by kernel_rfl)
theorem cl24:ClF 24:=z0c (by kernel_rfl)
theorem zr61:zerosOf Tryz.prog 61=some [.int .i64 0,.string Zg,.int .i64 0,.bool false,.string Zg,.int .i64 0,.bool false,.int .i64 0,.int .i64 0,.int .i64 0]:=by kernel_rfl
theorem st61 {b o:Nat}{H:Heap}{cs:List Value}:dStore Tryz.prog 61 (.pointer (some ⟨b,o,none⟩)) (.agg ⟨cs⟩) H=dStoreIf (Zk cs.length 10) ⟨b,o,none⟩ cs H (H.get b):=z2n (by kernel_rfl) (by kernel_rfl)
theorem cl25:ClF 25:=z0c (by kernel_rfl)
theorem ld61 {ad:Addr}{H:Heap}:dLoad Tryz.prog 61 (.pointer (some ad)) H=dloadA 10 (H.load ad 10) H:=z2a (by kernel_rfl) (by kernel_rfl)
theorem bd61 {vs:List (Nat × Value)}{H:Heap}:dBuild Tryz.prog 61 vs H=dBd (vs.all fun p=>p.2.cells.toList.all one) (layC [(0,1),(1,1),(2,1),(3,1),(4,1),(5,1),(6,1),(7,1),(8,1),(9,1)] [.int .i64 0,.string Zg,.int .i64 0,.bool false,.string Zg,.int .i64 0,.bool false,.int .i64 0,.int .i64 0,.int .i64 0] (vs.map fun p=>(p.1,p.2.cells.toList))) H:=z2b (by kernel_rfl) (by kernel_rfl)
theorem cl26:ClF 26:=z0c (by kernel_rfl)
theorem ln66 {ty:TypeId}{a:Option Addr}{n c:Nat}{H:Heap}:dLn Tryz.prog 66 ty (.slice a n c) H=some (.val (.int .i64 n) H):=z3e (e:=3) (by kernel_rfl)
theorem cl27:ClF 27:=z0c (by kernel_rfl)
theorem ln22 {ty:TypeId}{a:Option Addr}{n c:Nat}{H:Heap}:dLn Tryz.prog 22 ty (.slice a n c) H=some (.val (.int .i64 n) H):=z3e (e:=73) (by kernel_rfl)
theorem cl28:ClF 28:=z0c (by kernel_rfl)
theorem cl29:ClF 29:=z0c (by kernel_rfl)
theorem cl30:ClF 30:=z0c (by kernel_rfl)
theorem bd73 {vs:List (Nat × Value)}{H:Heap}:dBuild Tryz.prog 73 vs H=dBd (vs.all fun p=>p.2.cells.toList.all one) (layC [(0,1),(1,1)] [.string Zg,.string Zg] (vs.map fun p=>(p.1,p.2.cells.toList))) H:=z2b (by kernel_rfl) (by kernel_rfl)
theorem bd77 {vs:List (Nat × Value)}{H:Heap}:dBuild Tryz.prog 77 vs H=dBd (vs.all fun p=>p.2.cells.toList.all one) (layC [(0,1),(1,1),(2,1),(3,1),(4,1),(5,1),(6,1),(7,1)] [.map none,.map none,.int .i64 0,.string Zg,.string Zg,.int .i64 0,.int .i64 0,.int .i64 0] (vs.map fun p=>(p.1,p.2.cells.toList))) H:=z2b (by kernel_rfl) (by kernel_rfl)
theorem ia22 {b o n c i:Nat}{k:IntKind}{H:Heap}(h:i < n):dIndexAddr Tryz.prog 22 (.slice (some ⟨b,o,none⟩) n c) (.int k (i:Int)) H=some (.val (.pointer (some ⟨b,o+i*2,none⟩)) H):=z1i (e:=73) (by kernel_rfl) (by kernel_rfl) (by kernel_rfl) h
theorem ld73 {ad:Addr}{H:Heap}:dLoad Tryz.prog 73 (.pointer (some ad)) H=dloadA 2 (H.load ad 2) H:=z2a (by kernel_rfl) (by kernel_rfl)
theorem zr73:zerosOf Tryz.prog 73=some [.string Zg,.string Zg]:=by kernel_rfl
theorem st73 {b o:Nat}{H:Heap}{cs:List Value}:dStore Tryz.prog 73 (.pointer (some ⟨b,o,none⟩)) (.agg ⟨cs⟩) H=dStoreIf (Zk cs.length 2) ⟨b,o,none⟩ cs H (H.get b):=z2n (by kernel_rfl) (by kernel_rfl)
theorem z3z {b o:Nat}{H:Heap}:dFieldAddr Tryz.prog 77 (.pointer (some ⟨b,o,none⟩)) 0 H=some (.val (.pointer (some ⟨b,o+0,none⟩)) H):=z07 (u:=74) (by kernel_rfl) (by kernel_rfl)
theorem ld74 {ad:Addr}{H:Heap}:dLoad Tryz.prog 74 (.pointer (some ad)) H=dload1 (H.load ad 1) H:=z1o (by kernel_rfl)
theorem z40 {b o:Nat}{H:Heap}:dFieldAddr Tryz.prog 73 (.pointer (some ⟨b,o,none⟩)) 0 H=some (.val (.pointer (some ⟨b,o+0,none⟩)) H):=z07 (u:=9) (by kernel_rfl) (by kernel_rfl)
theorem cl31:ClF 31:=z0c (by kernel_rfl)
theorem z5i {b o:Nat}{H:Heap}:dFieldAddr Tryz.prog 73 (.pointer (some ⟨b,o,none⟩)) 1 H=some (.val (.pointer (some ⟨b,o+1,none⟩)) H):=z07 (u:=9) (by kernel_rfl) (by kernel_rfl)
theorem ln9 {ty:TypeId}{s:ByteArray}{H:Heap}:dLn Tryz.prog 9 ty (.string s) H=some (.val (.int .i64 s.size) H):=zhf (by kernel_rfl)
theorem z3t {b o:Nat}{H:Heap}:dFieldAddr Tryz.prog 77 (.pointer (some ⟨b,o,none⟩)) 1 H=some (.val (.pointer (some ⟨b,o+1,none⟩)) H):=z07 (u:=75) (by kernel_rfl) (by kernel_rfl)
theorem ld75 {ad:Addr}{H:Heap}:dLoad Tryz.prog 75 (.pointer (some ad)) H=dload1 (H.load ad 1) H:=z1o (by kernel_rfl)
theorem bd82 {vs:List (Nat × Value)}{H:Heap}:dBuild Tryz.prog 82 vs H=dBd (vs.all fun p=>p.2.cells.toList.all one) (layC [(0,10),(10,1)] [.int .i64 0,.string Zg,.int .i64 0,.bool false,.string Zg,.int .i64 0,.bool false,.int .i64 0,.int .i64 0,.int .i64 0,.bool false] (vs.map fun p=>(p.1,p.2.cells.toList))) H:=z2b (by kernel_rfl) (by kernel_rfl)
theorem zng {H:Heap}:dBuildS Tryz.prog 22 0 [] H=dBs 73 0 (([]:List (Nat × Value)).all fun p=>p.2.cells.toList.all one) (layC [] [] (([]:List (Nat × Value)).map fun p=>(p.1,p.2.cells.toList))) H:=z1g (size:=2) (by kernel_rfl) rfl
theorem bd39 {vs:List (Nat × Value)}{H:Heap}:dBuild Tryz.prog 39 vs H=dBd (vs.all fun p=>p.2.cells.toList.all one) (layC [(0,1),(1,1),(2,1),(3,1),(4,1),(5,1),(6,1),(7,1)] [.slice none 0 0,.slice none 0 0,.int .i64 0,.string Zg,.string Zg,.int .i64 0,.int .i64 0,.int .i64 0] (vs.map fun p=>(p.1,p.2.cells.toList))) H:=z2b (by kernel_rfl) (by kernel_rfl)
theorem bd84 {vs:List (Nat × Value)}{H:Heap}:dBuild Tryz.prog 84 vs H=dBd (vs.all fun p=>p.2.cells.toList.all one) (layC [(0,10)] [.int .i64 0,.string Zg,.int .i64 0,.bool false,.string Zg,.int .i64 0,.bool false,.int .i64 0,.int .i64 0,.int .i64 0] (vs.map fun p=>(p.1,p.2.cells.toList))) H:=z2b (by kernel_rfl) (by kernel_rfl)
theorem zpd {v0 v1:Value}{H:Heap}:dBuildS Tryz.prog 37 2 [(0,v0),(1,v1)] H=dBs 84 2 (([(0,v0),(1,v1)]:List (Nat × Value)).all fun p=>p.2.cells.toList.all one) (layC [(0,10),(10,10)] [.int .i64 0,.string Zg,.int .i64 0,.bool false,.string Zg,.int .i64 0,.bool false,.int .i64 0,.int .i64 0,.int .i64 0,.int .i64 0,.string Zg,.int .i64 0,.bool false,.string Zg,.int .i64 0,.bool false,.int .i64 0,.int .i64 0,.int .i64 0] (([(0,v0),(1,v1)]:List (Nat × Value)).map fun p=>(p.1,p.2.cells.toList))) H:=z1g (size:=10) (by kernel_rfl) rfl
theorem z0k {b o:Nat}{H:Heap}:dFieldAddr Tryz.prog 39 (.pointer (some ⟨b,o,none⟩)) 1 H=some (.val (.pointer (some ⟨b,o+1,none⟩)) H):=z07 (u:=37) (by kernel_rfl) (by kernel_rfl)
theorem st37 {b o:Nat}{H:Heap}{a:Option Addr}{n c:Nat}:dStore Tryz.prog 37 (.pointer (some ⟨b,o,none⟩)) (.slice a n c) H=dStoreB ⟨b,o,none⟩ [.slice a n c] H (H.get b):=z4w (by kernel_rfl) (by kernel_rfl)
theorem zr90:zerosOf Tryz.prog 90=some [.int .i64 0,.bool false,.int .i64 0,.string Zg,.string Zg,.int .u64 0,.int .i64 0,.slice none 0 0]:=by kernel_rfl
theorem cl32:ClF 32:=z0c (by kernel_rfl)
theorem st90 {b o:Nat}{H:Heap}{cs:List Value}:dStore Tryz.prog 90 (.pointer (some ⟨b,o,none⟩)) (.agg ⟨cs⟩) H=dStoreIf (Zk cs.length 8) ⟨b,o,none⟩ cs H (H.get b):=z2n (by kernel_rfl) (by kernel_rfl)
theorem cl33:ClF 33:=z0c (by kernel_rfl)
theorem cl34:ClF 34:=z0c (by kernel_rfl)
theorem cl35:ClF 35:=z0c (by kernel_rfl)
theorem cl36:ClF 36:=z0c (by kernel_rfl)
theorem ld90 {ad:Addr}{H:Heap}:dLoad Tryz.prog 90 (.pointer (some ad)) H=dloadA 8 (H.load ad 8) H:=z2a (by kernel_rfl) (by kernel_rfl)
theorem cl37:ClF 37:=z0c (by kernel_rfl)
theorem cl38:ClF 38:=z0c (by kernel_rfl)
theorem cl39:ClF 39:=z0c (by kernel_rfl)
theorem cl40:ClF 40:=z0c (by kernel_rfl)
theorem cl41:ClF 41:=z0c (by kernel_rfl)
theorem cl42:ClF 42:=z0c (by kernel_rfl)
theorem cl43:ClF 43:=z0c (by kernel_rfl)
theorem cl45:ClF 45:=z0c (by kernel_rfl)
theorem cl44:ClF 44:=z0c (by kernel_rfl)
theorem ia66 {b o n c i:Nat}{k:IntKind}{H:Heap}(h:i < n):dIndexAddr Tryz.prog 66 (.slice (some ⟨b,o,none⟩) n c) (.int k (i:Int)) H=some (.val (.pointer (some ⟨b,o+i*1,none⟩)) H):=z1i (e:=3) (by kernel_rfl) (by kernel_rfl) (by kernel_rfl) h
theorem st3 {b o:Nat}{H:Heap}{k:IntKind}{n:Int}:dStore Tryz.prog 3 (.pointer (some ⟨b,o,none⟩)) (.int k n) H=dStoreB ⟨b,o,none⟩ [.int k n] H (H.get b):=z9y (by kernel_rfl) (by kernel_rfl)
theorem cl46:ClF 46:=z0c (by kernel_rfl)
theorem za4 {b o:Nat}{H:Heap}:dFieldAddr Tryz.prog 39 (.pointer (some ⟨b,o,none⟩)) 5 H=some (.val (.pointer (some ⟨b,o+5,none⟩)) H):=z07 (u:=3) (by kernel_rfl) (by kernel_rfl)
theorem za5 {b o:Nat}{H:Heap}:dFieldAddr Tryz.prog 39 (.pointer (some ⟨b,o,none⟩)) 6 H=some (.val (.pointer (some ⟨b,o+6,none⟩)) H):=z07 (u:=3) (by kernel_rfl) (by kernel_rfl)
theorem zjb {b o:Nat}{H:Heap}:dFieldAddr Tryz.prog 39 (.pointer (some ⟨b,o,none⟩)) 4 H=some (.val (.pointer (some ⟨b,o+4,none⟩)) H):=z07 (u:=9) (by kernel_rfl) (by kernel_rfl)
theorem bd44 {vs:List (Nat × Value)}{H:Heap}:dBuild Tryz.prog 44 vs H=dBd (vs.all fun p=>p.2.cells.toList.all one) (layC [(0,1),(1,1),(2,1),(3,1),(4,1)] [.slice none 0 0,.slice none 0 0,.string Zg,.int .i64 0,.int .i64 0] (vs.map fun p=>(p.1,p.2.cells.toList))) H:=z2b (by kernel_rfl) (by kernel_rfl)
theorem zcs {b o:Nat}{H:Heap}:dFieldAddr Tryz.prog 44 (.pointer (some ⟨b,o,none⟩)) 0 H=some (.val (.pointer (some ⟨b,o+0,none⟩)) H):=z07 (u:=42) (by kernel_rfl) (by kernel_rfl)
theorem ld42 {ad:Addr}{H:Heap}:dLoad Tryz.prog 42 (.pointer (some ad)) H=dload1 (H.load ad 1) H:=z1o (by kernel_rfl)
theorem zpe {v0:Value}{H:Heap}:dBuildS Tryz.prog 42 1 [(0,v0)] H=dBs 61 1 (([(0,v0)]:List (Nat × Value)).all fun p=>p.2.cells.toList.all one) (layC [(0,10)] [.int .i64 0,.string Zg,.int .i64 0,.bool false,.string Zg,.int .i64 0,.bool false,.int .i64 0,.int .i64 0,.int .i64 0] (([(0,v0)]:List (Nat × Value)).map fun p=>(p.1,p.2.cells.toList))) H:=z1g (size:=10) (by kernel_rfl) rfl
theorem st42 {b o:Nat}{H:Heap}{a:Option Addr}{n c:Nat}:dStore Tryz.prog 42 (.pointer (some ⟨b,o,none⟩)) (.slice a n c) H=dStoreB ⟨b,o,none⟩ [.slice a n c] H (H.get b):=z4w (by kernel_rfl) (by kernel_rfl)
theorem z7h {b o:Nat}{H:Heap}:dFieldAddr Tryz.prog 34 (.pointer (some ⟨b,o,none⟩)) 1 H=some (.val (.pointer (some ⟨b,o+1,none⟩)) H):=z07 (u:=9) (by kernel_rfl) (by kernel_rfl)
theorem cl49:ClF 49:=z0c (by kernel_rfl)
theorem z2y {v0:Value}{H:Heap}:dBuildS Tryz.prog 86 1 [(0,v0)] H=dBs 88 1 (([(0,v0)]:List (Nat × Value)).all fun p=>p.2.cells.toList.all one) (layC [(0,6)] [.int .i64 0,.string Zg,.string Zg,.int .u64 0,.int .i64 0,.slice none 0 0] (([(0,v0)]:List (Nat × Value)).map fun p=>(p.1,p.2.cells.toList))) H:=z1g (size:=6) (by kernel_rfl) rfl
theorem cl48:ClF 48:=z0c (by kernel_rfl)
theorem cl47:ClF 47:=z0c (by kernel_rfl)
theorem z5j {b o:Nat}{H:Heap}:dFieldAddr Tryz.prog 34 (.pointer (some ⟨b,o,none⟩)) 3 H=some (.val (.pointer (some ⟨b,o+3,none⟩)) H):=z07 (u:=4) (by kernel_rfl) (by kernel_rfl)
theorem z7i {v0 v1:Value}{H:Heap}:dBuildS Tryz.prog 86 2 [(0,v0),(1,v1)] H=dBs 88 2 (([(0,v0),(1,v1)]:List (Nat × Value)).all fun p=>p.2.cells.toList.all one) (layC [(0,6),(6,6)] [.int .i64 0,.string Zg,.string Zg,.int .u64 0,.int .i64 0,.slice none 0 0,.int .i64 0,.string Zg,.string Zg,.int .u64 0,.int .i64 0,.slice none 0 0] (([(0,v0),(1,v1)]:List (Nat × Value)).map fun p=>(p.1,p.2.cells.toList))) H:=z1g (size:=6) (by kernel_rfl) rfl
theorem cl50:ClF 50:=z0c (by kernel_rfl)
theorem z2u {b o:Nat}{H:Heap}:dFieldAddr Tryz.prog 82 (.pointer (some ⟨b,o,none⟩)) 1 H=some (.val (.pointer (some ⟨b,o+10,none⟩)) H):=z07 (u:=4) (by kernel_rfl) (by kernel_rfl)
theorem z0l {b o:Nat}{H:Heap}:dFieldAddr Tryz.prog 82 (.pointer (some ⟨b,o,none⟩)) 0 H=some (.val (.pointer (some ⟨b,o+0,none⟩)) H):=z07 (u:=61) (by kernel_rfl) (by kernel_rfl)
theorem z3u {b o:Nat}{H:Heap}:dFieldAddr Tryz.prog 61 (.pointer (some ⟨b,o,none⟩)) 1 H=some (.val (.pointer (some ⟨b,o+1,none⟩)) H):=z07 (u:=9) (by kernel_rfl) (by kernel_rfl)
theorem z0o {b o:Nat}{H:Heap}:dFieldAddr Tryz.prog 61 (.pointer (some ⟨b,o,none⟩)) 2 H=some (.val (.pointer (some ⟨b,o+2,none⟩)) H):=z07 (u:=3) (by kernel_rfl) (by kernel_rfl)
theorem za6 {b o:Nat}{H:Heap}:dFieldAddr Tryz.prog 77 (.pointer (some ⟨b,o,none⟩)) 2 H=some (.val (.pointer (some ⟨b,o+2,none⟩)) H):=z07 (u:=3) (by kernel_rfl) (by kernel_rfl)
theorem zfr {b o:Nat}{H:Heap}:dFieldAddr Tryz.prog 34 (.pointer (some ⟨b,o,none⟩)) 0 H=some (.val (.pointer (some ⟨b,o+0,none⟩)) H):=z07 (u:=4) (by kernel_rfl) (by kernel_rfl)
theorem zfs {b o:Nat}{H:Heap}:dFieldAddr Tryz.prog 34 (.pointer (some ⟨b,o,none⟩)) 2 H=some (.val (.pointer (some ⟨b,o+2,none⟩)) H):=z07 (u:=3) (by kernel_rfl) (by kernel_rfl)
theorem z1c {b o:Nat}{H:Heap}:dFieldAddr Tryz.prog 61 (.pointer (some ⟨b,o,none⟩)) 7 H=some (.val (.pointer (some ⟨b,o+7,none⟩)) H):=z07 (u:=3) (by kernel_rfl) (by kernel_rfl)
theorem z2p {b o:Nat}{H:Heap}:dFieldAddr Tryz.prog 61 (.pointer (some ⟨b,o,none⟩)) 0 H=some (.val (.pointer (some ⟨b,o+0,none⟩)) H):=z07 (u:=3) (by kernel_rfl) (by kernel_rfl)
theorem cl51:ClF 51:=z0c (by kernel_rfl)
theorem za7 {b o:Nat}{H:Heap}:dFieldAddr Tryz.prog 77 (.pointer (some ⟨b,o,none⟩)) 5 H=some (.val (.pointer (some ⟨b,o+5,none⟩)) H):=z07 (u:=3) (by kernel_rfl) (by kernel_rfl)
theorem za8 {b o:Nat}{H:Heap}:dFieldAddr Tryz.prog 77 (.pointer (some ⟨b,o,none⟩)) 6 H=some (.val (.pointer (some ⟨b,o+6,none⟩)) H):=z07 (u:=3) (by kernel_rfl) (by kernel_rfl)
theorem cl52:ClF 52:=z0c (by kernel_rfl)
theorem cl53:ClF 53:=z0c (by kernel_rfl)
theorem cl58:ClF 58:=z0c (by kernel_rfl)
theorem cl59:ClF 59:=z0c (by kernel_rfl)
theorem z1w {b o:Nat}{H:Heap}:dFieldAddr Tryz.prog 61 (.pointer (some ⟨b,o,none⟩)) 9 H=some (.val (.pointer (some ⟨b,o+9,none⟩)) H):=z07 (u:=3) (by kernel_rfl) (by kernel_rfl)
theorem cl60:ClF 60:=z0c (by kernel_rfl)
theorem cl61:ClF 61:=z0c (by kernel_rfl)
theorem cl62:ClF 62:=z0c (by kernel_rfl)
theorem zpf {k:IntKind}{n:Int}{H:Heap}:dCon Tryz.prog 3 5 (.int k n) H=some (.val (.int .u8 (IntKind.u8.wrap n)) H):=zb9 (k:=.i64) (by kernel_rfl) (by kernel_rfl)
theorem z8x {v0:Value}{H:Heap}:dBuildS Tryz.prog 116 1 [(0,v0)] H=dBs 5 1 (([(0,v0)]:List (Nat × Value)).all fun p=>p.2.cells.toList.all one) (layC [(0,1)] [.int .u8 0] (([(0,v0)]:List (Nat × Value)).map fun p=>(p.1,p.2.cells.toList))) H:=z1g (size:=1) (by kernel_rfl) rfl
theorem za9 {b o:Nat}{H:Heap}:dFieldAddr Tryz.prog 61 (.pointer (some ⟨b,o,none⟩)) 6 H=some (.val (.pointer (some ⟨b,o+6,none⟩)) H):=z07 (u:=4) (by kernel_rfl) (by kernel_rfl)
theorem cl63:ClF 63:=z0c (by kernel_rfl)
theorem ln42 {ty:TypeId}{a:Option Addr}{n c:Nat}{H:Heap}:dLn Tryz.prog 42 ty (.slice a n c) H=some (.val (.int .i64 n) H):=z3e (e:=61) (by kernel_rfl)
theorem zft {b o:Nat}{H:Heap}:dFieldAddr Tryz.prog 44 (.pointer (some ⟨b,o,none⟩)) 1 H=some (.val (.pointer (some ⟨b,o+1,none⟩)) H):=z07 (u:=22) (by kernel_rfl) (by kernel_rfl)
theorem ld22 {ad:Addr}{H:Heap}:dLoad Tryz.prog 22 (.pointer (some ad)) H=dload1 (H.load ad 1) H:=z1o (by kernel_rfl)
theorem zpg {b o:Nat}{H:Heap}:dFieldAddr Tryz.prog 44 (.pointer (some ⟨b,o,none⟩)) 2 H=some (.val (.pointer (some ⟨b,o+2,none⟩)) H):=z07 (u:=9) (by kernel_rfl) (by kernel_rfl)
theorem zph {b o:Nat}{H:Heap}:dFieldAddr Tryz.prog 44 (.pointer (some ⟨b,o,none⟩)) 3 H=some (.val (.pointer (some ⟨b,o+3,none⟩)) H):=z07 (u:=3) (by kernel_rfl) (by kernel_rfl)
theorem zpi {b o:Nat}{H:Heap}:dFieldAddr Tryz.prog 44 (.pointer (some ⟨b,o,none⟩)) 4 H=some (.val (.pointer (some ⟨b,o+4,none⟩)) H):=z07 (u:=3) (by kernel_rfl) (by kernel_rfl)
theorem ia42 {b o n c i:Nat}{k:IntKind}{H:Heap}(h:i < n):dIndexAddr Tryz.prog 42 (.slice (some ⟨b,o,none⟩) n c) (.int k (i:Int)) H=some (.val (.pointer (some ⟨b,o+i*10,none⟩)) H):=z1i (e:=61) (by kernel_rfl) (by kernel_rfl) (by kernel_rfl) h
theorem us9:Tryz.prog.underlying 9=some .string:=by kernel_rfl
theorem cl64:ClF 64:=z0c (by kernel_rfl)
theorem zaa {b o:Nat}{H:Heap}:dFieldAddr Tryz.prog 61 (.pointer (some ⟨b,o,none⟩)) 8 H=some (.val (.pointer (some ⟨b,o+8,none⟩)) H):=z07 (u:=3) (by kernel_rfl) (by kernel_rfl)
theorem zfu {b o:Nat}{H:Heap}:dFieldAddr Tryz.prog 61 (.pointer (some ⟨b,o,none⟩)) 4 H=some (.val (.pointer (some ⟨b,o+4,none⟩)) H):=z07 (u:=9) (by kernel_rfl) (by kernel_rfl)
theorem cl66:ClF 66:=z0c (by kernel_rfl)
theorem cl65:ClF 65:=z0c (by kernel_rfl)
theorem cl68:ClF 68:=z0c (by kernel_rfl)
theorem cl67:ClF 67:=z0c (by kernel_rfl)
theorem zqf {ty:TypeId}{a:Option Addr}{n c:Nat}{H:Heap}:dLn Tryz.prog 122 ty (.slice a n c) H=some (.val (.int .i64 n) H):=z3e (e:=9) (by kernel_rfl)
theorem zqg {b o n c i:Nat}{k:IntKind}{H:Heap}(h:i < n):dIndexAddr Tryz.prog 122 (.slice (some ⟨b,o,none⟩) n c) (.int k (i:Int)) H=some (.val (.pointer (some ⟨b,o+i*1,none⟩)) H):=z1i (e:=9) (by kernel_rfl) (by kernel_rfl) (by kernel_rfl) h
theorem znh {v0:Value}{H:Heap}:dBuildS Tryz.prog 22 1 [(0,v0)] H=dBs 73 1 (([(0,v0)]:List (Nat × Value)).all fun p=>p.2.cells.toList.all one) (layC [(0,2)] [.string Zg,.string Zg] (([(0,v0)]:List (Nat × Value)).map fun p=>(p.1,p.2.cells.toList))) H:=z1g (size:=2) (by kernel_rfl) rfl
theorem zjc {b o:Nat}{H:Heap}:dFieldAddr Tryz.prog 77 (.pointer (some ⟨b,o,none⟩)) 4 H=some (.val (.pointer (some ⟨b,o+4,none⟩)) H):=z07 (u:=9) (by kernel_rfl) (by kernel_rfl)
theorem bd90 {vs:List (Nat × Value)}{H:Heap}:dBuild Tryz.prog 90 vs H=dBd (vs.all fun p=>p.2.cells.toList.all one) (layC [(0,1),(1,1),(2,6)] [.int .i64 0,.bool false,.int .i64 0,.string Zg,.string Zg,.int .u64 0,.int .i64 0,.slice none 0 0] (vs.map fun p=>(p.1,p.2.cells.toList))) H:=z2b (by kernel_rfl) (by kernel_rfl)
theorem cl69:ClF 69:=z0c (by kernel_rfl)
theorem ld37 {ad:Addr}{H:Heap}:dLoad Tryz.prog 37 (.pointer (some ad)) H=dload1 (H.load ad 1) H:=z1o (by kernel_rfl)
theorem ln37 {ty:TypeId}{a:Option Addr}{n c:Nat}{H:Heap}:dLn Tryz.prog 37 ty (.slice a n c) H=some (.val (.int .i64 n) H):=z3e (e:=84) (by kernel_rfl)
theorem ia37 {b o n c i:Nat}{k:IntKind}{H:Heap}(h:i < n):dIndexAddr Tryz.prog 37 (.slice (some ⟨b,o,none⟩) n c) (.int k (i:Int)) H=some (.val (.pointer (some ⟨b,o+i*10,none⟩)) H):=z1i (e:=84) (by kernel_rfl) (by kernel_rfl) (by kernel_rfl) h
theorem z0p {b o:Nat}{H:Heap}:dFieldAddr Tryz.prog 84 (.pointer (some ⟨b,o,none⟩)) 0 H=some (.val (.pointer (some ⟨b,o+0,none⟩)) H):=z07 (u:=61) (by kernel_rfl) (by kernel_rfl)
theorem cl72:ClF 72:=z0c (by kernel_rfl)
theorem cl71:ClF 71:=z0c (by kernel_rfl)
theorem cl70:ClF 70:=z0c (by kernel_rfl)
theorem cl73:ClF 73:=z0c (by kernel_rfl)
theorem z4z {b o:Nat}{H:Heap}:dFieldAddr Tryz.prog 39 (.pointer (some ⟨b,o,none⟩)) 0 H=some (.val (.pointer (some ⟨b,o+0,none⟩)) H):=z07 (u:=22) (by kernel_rfl) (by kernel_rfl)
theorem st22 {b o:Nat}{H:Heap}{a:Option Addr}{n c:Nat}:dStore Tryz.prog 22 (.pointer (some ⟨b,o,none⟩)) (.slice a n c) H=dStoreB ⟨b,o,none⟩ [.slice a n c] H (H.get b):=z4w (by kernel_rfl) (by kernel_rfl)
theorem st9 {b o:Nat}{H:Heap}{s:ByteArray}:dStore Tryz.prog 9 (.pointer (some ⟨b,o,none⟩)) (.string s) H=dStoreB ⟨b,o,none⟩ [.string s] H (H.get b):=zb7 (by kernel_rfl) (by kernel_rfl)
theorem zpj {v0:Value}{H:Heap}:dBuildS Tryz.prog 37 1 [(0,v0)] H=dBs 84 1 (([(0,v0)]:List (Nat × Value)).all fun p=>p.2.cells.toList.all one) (layC [(0,10)] [.int .i64 0,.string Zg,.int .i64 0,.bool false,.string Zg,.int .i64 0,.bool false,.int .i64 0,.int .i64 0,.int .i64 0] (([(0,v0)]:List (Nat × Value)).map fun p=>(p.1,p.2.cells.toList))) H:=z1g (size:=10) (by kernel_rfl) rfl
theorem cl74:ClF 74:=z0c (by kernel_rfl)
theorem cl75:ClF 75:=z0c (by kernel_rfl)
theorem zfv {H:Heap}:dBuildS Tryz.prog 37 0 [] H=dBs 84 0 (([]:List (Nat × Value)).all fun p=>p.2.cells.toList.all one) (layC [] [] (([]:List (Nat × Value)).map fun p=>(p.1,p.2.cells.toList))) H:=z1g (size:=10) (by kernel_rfl) rfl
theorem sl37:slcOk Tryz.prog 37 84 10:=⟨by kernel_rfl,by kernel_rfl,by kernel_rfl⟩
theorem cl76:ClF 76:=z0c (by kernel_rfl)
theorem cl77:ClF 77:=z0c (by kernel_rfl)
theorem cl78:ClF 78:=z0c (by kernel_rfl)
theorem ix9 {s:ByteArray}{k:IntKind}{i:Nat}{H:Heap}(h:i < s.size):dIdx Tryz.prog 9 (.string s) (.int k (i:Int)) H=some (.val (.int .u8 (byteAt s i:Nat)) H):=zch (by kernel_rfl) h
theorem z4h {k:IntKind}{n:Int}{H:Heap}:dCon Tryz.prog 5 3 (.int k n) H=some (.val (.int .i64 (IntKind.i64.wrap n)) H):=zb9 (k:=.u8) (by kernel_rfl) (by kernel_rfl)
theorem cl79:ClF 79:=z0c (by kernel_rfl)
theorem zfw {b o:Nat}{H:Heap}:dFieldAddr Tryz.prog 90 (.pointer (some ⟨b,o,none⟩)) 0 H=some (.val (.pointer (some ⟨b,o+0,none⟩)) H):=z07 (u:=26) (by kernel_rfl) (by kernel_rfl)
theorem ld26 {ad:Addr}{H:Heap}:dLoad Tryz.prog 26 (.pointer (some ad)) H=dload1 (H.load ad 1) H:=z1o (by kernel_rfl)
theorem zfx {b o:Nat}{H:Heap}:dFieldAddr Tryz.prog 90 (.pointer (some ⟨b,o,none⟩)) 1 H=some (.val (.pointer (some ⟨b,o+1,none⟩)) H):=z07 (u:=4) (by kernel_rfl) (by kernel_rfl)
theorem zo5 {b o:Nat}{H:Heap}:dFieldAddr Tryz.prog 140 (.pointer (some ⟨b,o,none⟩)) 0 H=some (.val (.pointer (some ⟨b,o+0,none⟩)) H):=z07 (u:=88) (by kernel_rfl) (by kernel_rfl)
theorem ld88 {ad:Addr}{H:Heap}:dLoad Tryz.prog 88 (.pointer (some ad)) H=dloadA 6 (H.load ad 6) H:=z2a (by kernel_rfl) (by kernel_rfl)
theorem zpk {b o:Nat}{H:Heap}:dFieldAddr Tryz.prog 90 (.pointer (some ⟨b,o,none⟩)) 2 H=some (.val (.pointer (some ⟨b,o+2,none⟩)) H):=z07 (u:=88) (by kernel_rfl) (by kernel_rfl)
theorem cl80:ClF 80:=z0c (by kernel_rfl)
theorem cl81:ClF 81:=z0c (by kernel_rfl)
theorem cl82:ClF 82:=z0c (by kernel_rfl)
theorem cl83:ClF 83:=z0c (by kernel_rfl)
theorem cl84:ClF 84:=z0c (by kernel_rfl)
theorem zjd {v0:Value}{H:Heap}:dBuildS Tryz.prog 66 1 [(0,v0)] H=dBs 3 1 (([(0,v0)]:List (Nat × Value)).all fun p=>p.2.cells.toList.all one) (layC [(0,1)] [.int .i64 0] (([(0,v0)]:List (Nat × Value)).map fun p=>(p.1,p.2.cells.toList))) H:=z1g (size:=1) (by kernel_rfl) rfl
theorem zni {v0 v1 v2:Value}{H:Heap}:dBuildS Tryz.prog 86 3 [(0,v0),(1,v1),(2,v2)] H=dBs 88 3 (([(0,v0),(1,v1),(2,v2)]:List (Nat × Value)).all fun p=>p.2.cells.toList.all one) (layC [(0,6),(6,6),(12,6)] [.int .i64 0,.string Zg,.string Zg,.int .u64 0,.int .i64 0,.slice none 0 0,.int .i64 0,.string Zg,.string Zg,.int .u64 0,.int .i64 0,.slice none 0 0,.int .i64 0,.string Zg,.string Zg,.int .u64 0,.int .i64 0,.slice none 0 0] (([(0,v0),(1,v1),(2,v2)]:List (Nat × Value)).map fun p=>(p.1,p.2.cells.toList))) H:=z1g (size:=6) (by kernel_rfl) rfl
theorem zr88:zerosOf Tryz.prog 88=some [.int .i64 0,.string Zg,.string Zg,.int .u64 0,.int .i64 0,.slice none 0 0]:=by kernel_rfl
theorem bd88 {vs:List (Nat × Value)}{H:Heap}:dBuild Tryz.prog 88 vs H=dBd (vs.all fun p=>p.2.cells.toList.all one) (layC [(0,1),(1,1),(2,1),(3,1),(4,1),(5,1)] [.int .i64 0,.string Zg,.string Zg,.int .u64 0,.int .i64 0,.slice none 0 0] (vs.map fun p=>(p.1,p.2.cells.toList))) H:=z2b (by kernel_rfl) (by kernel_rfl)
theorem st88 {b o:Nat}{H:Heap}{cs:List Value}:dStore Tryz.prog 88 (.pointer (some ⟨b,o,none⟩)) (.agg ⟨cs⟩) H=dStoreIf (Zk cs.length 6) ⟨b,o,none⟩ cs H (H.get b):=z2n (by kernel_rfl) (by kernel_rfl)
theorem zqh {vs:List (Nat × Value)}{H:Heap}:dBuild Tryz.prog 140 vs H=dBd (vs.all fun p=>p.2.cells.toList.all one) (layC [(0,6)] [.int .i64 0,.string Zg,.string Zg,.int .u64 0,.int .i64 0,.slice none 0 0] (vs.map fun p=>(p.1,p.2.cells.toList))) H:=z2b (by kernel_rfl) (by kernel_rfl)
theorem cl55:ClF 55:=z0c (by kernel_rfl)
theorem cl56:ClF 56:=z0c (by kernel_rfl)
theorem zje {k:IntKind}{n:Int}{H:Heap}:dCon Tryz.prog 21 3 (.int k n) H=some (.val (.int .i64 (IntKind.i64.wrap n)) H):=zb9 (k:=.i32) (by kernel_rfl) (by kernel_rfl)
theorem cl85:ClF 85:=z0c (by kernel_rfl)
theorem z1x {b o:Nat}{H:Heap}:dFieldAddr Tryz.prog 61 (.pointer (some ⟨b,o,none⟩)) 3 H=some (.val (.pointer (some ⟨b,o+3,none⟩)) H):=z07 (u:=4) (by kernel_rfl) (by kernel_rfl)
theorem z7j {b o:Nat}{H:Heap}:dFieldAddr Tryz.prog 61 (.pointer (some ⟨b,o,none⟩)) 5 H=some (.val (.pointer (some ⟨b,o+5,none⟩)) H):=z07 (u:=3) (by kernel_rfl) (by kernel_rfl)
theorem zpl {b o:Nat}{H:Heap}:dFieldAddr Tryz.prog 77 (.pointer (some ⟨b,o,none⟩)) 3 H=some (.val (.pointer (some ⟨b,o+3,none⟩)) H):=z07 (u:=9) (by kernel_rfl) (by kernel_rfl)
theorem ld5 {ad:Addr}{H:Heap}:dLoad Tryz.prog 5 (.pointer (some ad)) H=dload1 (H.load ad 1) H:=z1o (by kernel_rfl)
theorem zfy {b o:Nat}{H:Heap}:dFieldAddr Tryz.prog 77 (.pointer (some ⟨b,o,none⟩)) 7 H=some (.val (.pointer (some ⟨b,o+7,none⟩)) H):=z07 (u:=3) (by kernel_rfl) (by kernel_rfl)
theorem cl87:ClF 87:=z0c (by kernel_rfl)
theorem zpm {H:Heap}:dBuildS Tryz.prog 86 0 [] H=dBs 88 0 (([]:List (Nat × Value)).all fun p=>p.2.cells.toList.all one) (layC [] [] (([]:List (Nat × Value)).map fun p=>(p.1,p.2.cells.toList))) H:=z1g (size:=6) (by kernel_rfl) rfl
theorem zpn {b o:Nat}{H:Heap}:dFieldAddr Tryz.prog 39 (.pointer (some ⟨b,o,none⟩)) 3 H=some (.val (.pointer (some ⟨b,o+3,none⟩)) H):=z07 (u:=9) (by kernel_rfl) (by kernel_rfl)
theorem cl97:ClF 97:=z0c (by kernel_rfl)
theorem cl98:ClF 98:=z0c (by kernel_rfl)
theorem z8y {b o:Nat}{H:Heap}:dFieldAddr Tryz.prog 88 (.pointer (some ⟨b,o,none⟩)) 0 H=some (.val (.pointer (some ⟨b,o+0,none⟩)) H):=z07 (u:=3) (by kernel_rfl) (by kernel_rfl)
theorem zab {b o:Nat}{H:Heap}:dFieldAddr Tryz.prog 88 (.pointer (some ⟨b,o,none⟩)) 1 H=some (.val (.pointer (some ⟨b,o+1,none⟩)) H):=z07 (u:=9) (by kernel_rfl) (by kernel_rfl)
theorem zct {b o:Nat}{H:Heap}:dFieldAddr Tryz.prog 88 (.pointer (some ⟨b,o,none⟩)) 2 H=some (.val (.pointer (some ⟨b,o+2,none⟩)) H):=z07 (u:=9) (by kernel_rfl) (by kernel_rfl)
theorem zfz {b o:Nat}{H:Heap}:dFieldAddr Tryz.prog 88 (.pointer (some ⟨b,o,none⟩)) 3 H=some (.val (.pointer (some ⟨b,o+3,none⟩)) H):=z07 (u:=85) (by kernel_rfl) (by kernel_rfl)
theorem ld85 {ad:Addr}{H:Heap}:dLoad Tryz.prog 85 (.pointer (some ad)) H=dload1 (H.load ad 1) H:=z1o (by kernel_rfl)
theorem zjf {b o:Nat}{H:Heap}:dFieldAddr Tryz.prog 88 (.pointer (some ⟨b,o,none⟩)) 4 H=some (.val (.pointer (some ⟨b,o+4,none⟩)) H):=z07 (u:=3) (by kernel_rfl) (by kernel_rfl)
theorem zcu {b o:Nat}{H:Heap}:dFieldAddr Tryz.prog 88 (.pointer (some ⟨b,o,none⟩)) 5 H=some (.val (.pointer (some ⟨b,o+5,none⟩)) H):=z07 (u:=86) (by kernel_rfl) (by kernel_rfl)
theorem ld86 {ad:Addr}{H:Heap}:dLoad Tryz.prog 86 (.pointer (some ad)) H=dload1 (H.load ad 1) H:=z1o (by kernel_rfl)
theorem ln86 {ty:TypeId}{a:Option Addr}{n c:Nat}{H:Heap}:dLn Tryz.prog 86 ty (.slice a n c) H=some (.val (.int .i64 n) H):=z3e (e:=88) (by kernel_rfl)
theorem ia86 {b o n c i:Nat}{k:IntKind}{H:Heap}(h:i < n):dIndexAddr Tryz.prog 86 (.slice (some ⟨b,o,none⟩) n c) (.int k (i:Int)) H=some (.val (.pointer (some ⟨b,o+i*6,none⟩)) H):=z1i (e:=88) (by kernel_rfl) (by kernel_rfl) (by kernel_rfl) h
theorem zg0 {b o:Nat}{H:Heap}:dFieldAddr Tryz.prog 39 (.pointer (some ⟨b,o,none⟩)) 7 H=some (.val (.pointer (some ⟨b,o+7,none⟩)) H):=z07 (u:=3) (by kernel_rfl) (by kernel_rfl)
theorem zqi:ClF 101:=z0c (by kernel_rfl)
theorem zqj:ClF 100:=z0c (by kernel_rfl)
theorem cl99:ClF 99:=z0c (by kernel_rfl)
theorem zjg {b o:Nat}{H:Heap}:dFieldAddr Tryz.prog 157 (.pointer (some ⟨b,o,none⟩)) 1 H=some (.val (.pointer (some ⟨b,o+1,none⟩)) H):=z07 (u:=66) (by kernel_rfl) (by kernel_rfl)
theorem ld66 {ad:Addr}{H:Heap}:dLoad Tryz.prog 66 (.pointer (some ad)) H=dload1 (H.load ad 1) H:=z1o (by kernel_rfl)
theorem mk66:mkOk Tryz.prog 66 3 [.int .i64 0]:=zo1 (by kernel_rfl)
theorem zpo:ClF 109:=z0c (by kernel_rfl)
theorem zo6:apOk Tryz.prog 116 5 1:=z6u (by kernel_rfl)
theorem zo7 {b o:Nat}{H:Heap}:dFieldAddr Tryz.prog 157 (.pointer (some ⟨b,o,none⟩)) 0 H=some (.val (.pointer (some ⟨b,o+0,none⟩)) H):=z07 (u:=4) (by kernel_rfl) (by kernel_rfl)
theorem zqk {ty:TypeId}{a:Option Addr}{n c:Nat}{H:Heap}:dLn Tryz.prog 116 ty (.slice a n c) H=some (.val (.int .i64 n) H):=z3e (e:=5) (by kernel_rfl)
theorem zql {b o n c i:Nat}{k:IntKind}{H:Heap}(h:i < n):dIndexAddr Tryz.prog 116 (.slice (some ⟨b,o,none⟩) n c) (.int k (i:Int)) H=some (.val (.pointer (some ⟨b,o+i*1,none⟩)) H):=z1i (e:=5) (by kernel_rfl) (by kernel_rfl) (by kernel_rfl) h
theorem zpp:zerosOf Tryz.prog 157=some [.bool false,.slice none 0 0]:=by kernel_rfl
theorem zqm:ClF 110:=z0c (by kernel_rfl)
theorem zll {b o:Nat}{H:Heap}{cs:List Value}:dStore Tryz.prog 157 (.pointer (some ⟨b,o,none⟩)) (.agg ⟨cs⟩) H=dStoreIf (Zk cs.length 2) ⟨b,o,none⟩ cs H (H.get b):=z2n (by kernel_rfl) (by kernel_rfl)
theorem zlm {ad:Addr}{H:Heap}:dLoad Tryz.prog 157 (.pointer (some ad)) H=dloadA 2 (H.load ad 2) H:=z2a (by kernel_rfl) (by kernel_rfl)
theorem sl66:slcOk Tryz.prog 66 3 1:=⟨by kernel_rfl,by kernel_rfl,by kernel_rfl⟩
theorem zo8 {vs:List (Nat × Value)}{H:Heap}:dBuild Tryz.prog 157 vs H=dBd (vs.all fun p=>p.2.cells.toList.all one) (layC [(0,1),(1,1)] [.bool false,.slice none 0 0] (vs.map fun p=>(p.1,p.2.cells.toList))) H:=z2b (by kernel_rfl) (by kernel_rfl)
theorem st5 {b o:Nat}{H:Heap}{k:IntKind}{n:Int}:dStore Tryz.prog 5 (.pointer (some ⟨b,o,none⟩)) (.int k n) H=dStoreB ⟨b,o,none⟩ [.int k n] H (H.get b):=z9y (by kernel_rfl) (by kernel_rfl)
end Go.Proofs.hq
end

section
namespace Go.Hb
open Go Go.RowKit
theorem HX.pt {A H:Heap}(h:HX A H) {i:Nat}{B0:Blk}(hi:A.next≤i) (hg:H.get i=some B0) (B:Option Blk):HX A (H.put i B):=h.put hi (h.wf i _ hg) B
theorem z18 {H:Heap}(hw:H.wf) (A B:Blk):∃H2,(H.new (some A)).put H.next (some B)=H2∧HX H H2∧H2.get H.next=some B∧H2.next=H.next+1∧H2.wf:=by
 have hx:=((HX.refl hw).new (some A)).put (i:=H.next) (Ze _) (Nat.lt_succ_self _) (some B);exact⟨_,rfl,hx,by rw[get_put,if_pos rfl],rfl,hx.wf⟩
def itoaB (n:Int):ByteArray:=⟨(Lib.itoa n).toArray⟩
def knItoa:List Value→Option Value
 |[.int .i64 n]=>if -9223372036854775808≤n∧n≤9223372036854775807 then some (.string (itoaB n)) else none
 |_=>none
def knCount:List Value→Option Value
 |[.string s,.string ⟨⟨[c]⟩⟩]=>some (.int .i64 (Lib.countByte s.data.toList c))
 |_=>none
end Go.Hb
namespace Go.Proofs.hq
open Go Go.RowKit Go.Hb
variable {ok:Ok}
set_option maxRecDepth 10000
attribute [local irreducible] LX LG EL STG SOP SGO SGD SAL SRD SEF SEG SLK SCK ES
abbrev zero6:List Value:=[.int .i64 0,.string Zg,.string Zg,.int .u64 0,.int .i64 0,.slice none 0 0]
abbrev e0:ByteArray:=Zg
def okT:Ok:=okKs3 (2 ^ 195 - 1) [(6,knAw),(61,knValid),(87,knItoa),(64,knCount)] 67 96 9 65 93 3
theorem ze6 {H:Heap}(hw:H.wf):EvF Tryz.prog okT 6 [] H fun v H'=>v=.bool true∧H'=H:=z6f (p:=(6,knAw)) rfl rfl rfl hw
theorem zo9 {H:Heap}{n:Int}(hn:i64 n) (hw:H.wf):EvF Tryz.prog okT 87 [.int .i64 n] H fun v H'=>v=.string (itoaB n)∧H'=H :=
 z6f (p:=(87,knItoa)) rfl rfl (by unfold i64 at hn;simp only[knItoa];rw[if_pos ⟨by omega,by omega⟩]) hw
def atomT (s:ByteArray):Tm:=.mk 2 s e0 0 0 []
def intT (n:Int):Tm:=.mk 3 e0 (itoaB n) 0 0 []
def ofT (s:ByteArray) (l:List Tm):Tm:=.mk 5 s e0 0 0 l
theorem z2f {H:Heap}{s:ByteArray}(hw:H.wf) (hs:s.size≤maxLen):EvF Tryz.prog okT 49 [.string s] H fun v H'=>v=.agg ⟨six (atomT s) none 0⟩∧HX H H'∧H'.next=H.next+1:=by
 refine EvF.enter rfl Tryz.func49 (by decide) rfl ?_;(repeat refine EvC.seq ?_);refine EvC.reg ?_;simp (config := { maxSteps := 2000000 }) (disch:=first|omega|rfl) only[sA,initTm,dAlloc,zr88];obtain⟨H1,e1,hx1,g1,n1,w1⟩:=new1 hw (.row zero6 88);simp only[e1]
 repeat' (first|refine EvC.seq ?_|(refine EvC.ret ?_)|(refine EvC.reg ?_;simp (config := { maxSteps := 2000000 }) (disch:=first|omega|rfl) only[sB,Za,Zb,Value.cells,one,reduceCtorEq,Zh,layC,bd88,st88,g1]))
 exact z0f rfl (by simp only[sB,Za,reduceCtorEq];rfl) (by simp only[sB,Zb,cutC,ld88];rfl) ⟨rfl,hx1.pt (Ze _) g1 _,by rw[z1b];exact n1⟩
theorem zln {H:Heap}{k:Int}{s u:ByteArray}(hk:i64 k) (hs:s.size≤maxLen) (hu:u.size≤maxLen):RepT H (.mk k s u 0 0 []) (six (.mk k s u 0 0 []) none 0) :=
 .mk k s u 0 0 [] none 0 (fun _=>[]) hk hs hu (by unfold u64;omega) (by unfold i64;omega) (Zz _) (Ze _) (Zz _) (fun _=>⟨rfl,rfl⟩) (fun i ad hi=>by simp at hi) (fun i t ht=>by simp at ht)
theorem ze7:∀(k u:Nat),u < 10 ^ (k+1)→(Lib.decDigits u).length≤k+1
 |0,u,h=>by rw[Lib.decDigits,dif_pos (by simpa using h)];simp
 |k+1,u,h=>by
  rw[Lib.decDigits];split
  ·simp
  ·have:=ze7 k (u / 10) (by rw[Nat.pow_succ] at h;omega);rw[Zu,List.length_singleton];omega
theorem zjh {n:Int}(hn:i64 n):(itoaB n).size≤maxLen:=by
 have h20:(Lib.itoa n).length≤20:=by
  unfold i64 at hn;unfold Lib.itoa;split
  ·have:=ze7 18 n.natAbs (by omega);rw[ZF];omega
  ·have:=ze7 18 n.toNat (by omega);omega
 have e:(itoaB n).size=(Lib.itoa n).length:=by simp [itoaB,Zf]
 rw[e];have:maxLen=9223372036854775807:=rfl;omega
inductive RepK (H:Heap) (T:TypeId):Tm→List Value→Prop
 |leaf (k:Int) (s u:ByteArray):i64 k→s.size≤maxLen→u.size≤maxLen→RepK H T (.mk k s u 0 0 []) (six (.mk k s u 0 0 []) none 0)
 |node (s:ByteArray) (l:List Tm) (C:List (List Value)) (b:Nat):s.size≤maxLen→l.length≤1000→C.length=l.length→H.get b=some (.row C.flatten T)→(∀(i:Nat) (t:Tm) (cs:List Value),l[i]?=some t→C[i]?=some cs→RepK H T t cs) →
   RepK H T (ofT s l) (six (ofT s l) (some ⟨b,0,none⟩) l.length)
theorem RepK.rep {H:Heap}{T:TypeId}{t:Tm}{cs:List Value}(r:RepK H T t cs):RepT H t cs:=by
 induction r with
 |leaf k s u h1 h2 h3=>exact zln h1 h2 h3
 |node s l C b h1 h2 h3 h4 h5 ih =>
  have hz:∀x∈C,x.length=6:=fun x hx=>by
   obtain⟨i,hi,rfl⟩:=List.mem_iff_getElem.1 hx;exact(ih i l[i] C[i] (Zd (by omega)) (Zd hi)).len
  have rl:RepL H l (some ⟨b,0,none⟩) l.length fun i=>C.getD i []:=RepL.of_row h4 (fun i hi=>by
   have e:C[i]?=some (C.getD i []):=by rw[List.getD_eq_getElem?_getD,Zd (by omega:i < C.length)];rfl
   exact z6x C i _ hz e) (fun i t ht=>by
   have hi:=(List.getElem?_eq_some_iff.1 ht).1;have e:C[i]?=some (C.getD i []):=by rw[List.getD_eq_getElem?_getD,Zd (by omega:i < C.length)];rfl
   exact ih i t _ ht e) (Ze _) (by simp only[maxLen];omega)
  exact .mk 5 s e0 0 0 l _ l.length _ (by unfold i64;omega) h1 (Zz _) (by unfold u64;omega) (by unfold i64;omega) (by simp only[maxLen];omega) (Ze _) (by simp only[maxLen];omega) rl.nil rl.load rl.rep
theorem RepK.heap {H G:Heap}{T:TypeId}(h:∀b cs,H.get b=some (.row cs T)→G.get b=some (.row cs T)) {t:Tm}{cs:List Value}(r:RepK H T t cs):RepK G T t cs:=by
 induction r with
 |leaf k s u h1 h2 h3=>exact .leaf k s u h1 h2 h3
 |node s l C b h1 h2 h3 h4 h5 ih=>exact .node s l C b h1 h2 h3 (h _ _ h4) ih
theorem RepK.keep {H H':Heap}{T:TypeId}{t:Tm}{cs:List Value}(r:RepK H T t cs) (hx:HX H H') (hw:H.wf):RepK H' T t cs:=r.heap fun b cs g=>hx.get hw g
theorem RepK.put {H:Heap}{T T':TypeId}{t:Tm}{cs ds:List Value}{i:Nat}(r:RepK H T t cs) (g:H.get i=some (.row ds T')) (hn:Zk T' T=false) (X:Option Blk):RepK (H.put i X) T t cs :=
 r.heap fun b cs gb=>by
  rw[get_put,if_neg]
  ·exact gb
  ·intro e;rw[e,g] at gb;have h1:=Option.some.inj gb;injection h1 with h2 h3;rw[h3,Zy] at hn;cases hn
theorem RepK.six {H:Heap}{T:TypeId}{t:Tm}{cs:List Value}(r:RepK H T t cs):∃a c,cs=Hb.six t a c:=by obtain⟨a,c,-,e,-⟩:=r.rep.six;exact⟨a,c,e⟩
theorem RepK.mono {H H':Heap}{T:TypeId}{t:Tm}{cs:List Value}(r:RepK H T t cs) (hx:HX H H') (hw:H.wf):RepK H' T t cs:=r.keep hx hw
theorem z4q {H:Heap}{T:TypeId}{s:ByteArray}(hs:s.size≤maxLen):RepK H T (atomT s) (six (atomT s) none 0):=.leaf _ _ _ (by unfold i64;omega) hs (Zz _)
theorem zhk {H:Heap}{T:TypeId}{n:Int}(hn:i64 n):RepK H T (intT n) (six (intT n) none 0):=.leaf _ _ _ (by unfold i64;omega) (Zz _) (zjh hn)
theorem zji {H:Heap}{T:TypeId}{s:ByteArray}{t:Tm}{cs:List Value}{b:Nat}(hs:s.size≤maxLen) (r:RepK H T t cs) (g:H.get b=some (.row cs T)):RepK H T (ofT s [t]) (Hb.six (ofT s [t]) (some ⟨b,0,none⟩) 1) :=
 .node s [t] [cs] b hs (by simp) rfl (by simpa using g) fun i t' cs' h1 h2=>by
  match i,h1,h2 with
  |0,h1,h2=>cases h1;cases h2;exact r
theorem zjj {H:Heap}{T:TypeId}{s:ByteArray}{t u:Tm}{cs ds:List Value}{b:Nat}(hs:s.size≤maxLen) (r:RepK H T t cs) (r2:RepK H T u ds) (g:H.get b=some (.row (cs++ds) T)):RepK H T (ofT s [t,u]) (Hb.six (ofT s [t,u]) (some ⟨b,0,none⟩) 2) :=
 .node s [t,u] [cs,ds] b hs (by simp) rfl (by simpa using g) fun i t' cs' h1 h2=>by
  match i,h1,h2 with
  |0,h1,h2=>cases h1;cases h2;exact r
  |1,h1,h2=>cases h1;cases h2;exact r2
theorem zjk {H:Heap}{T:TypeId}{s:ByteArray}{t u x:Tm}{cs ds es:List Value}{b:Nat}(hs:s.size≤maxLen) (r:RepK H T t cs) (r2:RepK H T u ds) (r3:RepK H T x es) (g:H.get b=some (.row (cs++ds++es) T)):RepK H T (ofT s [t,u,x]) (Hb.six (ofT s [t,u,x]) (some ⟨b,0,none⟩) 3) :=
 .node s [t,u,x] [cs,ds,es] b hs (by simp) rfl (by simpa using g) fun i t' cs' h1 h2=>by
  match i,h1,h2 with
  |0,h1,h2=>cases h1;cases h2;exact r
  |1,h1,h2=>cases h1;cases h2;exact r2
  |2,h1,h2=>cases h1;cases h2;exact r3
theorem z1n {H:Heap}{s:ByteArray}(hs:s.size≤maxLen):RepK H 88 (atomT s) (six (atomT s) none 0):=z4q hs
theorem zpq:mkiOk Tryz.prog 136=true:=by kernel_rfl
theorem z6y {H:Heap}{n:Int}(hw:H.wf) (hn:i64 n):EvF Tryz.prog okT 63 [.int .i64 n] H fun v H'=>v=.agg ⟨six (intT n) none 0⟩∧HX H H'∧H'.next=H.next+1:=by
 refine EvF.enter rfl Tryz.func63 (by decide) rfl ?_;(repeat refine EvC.seq ?_);refine EvC.reg ?_;simp (config := { maxSteps := 2000000 }) (disch:=first|omega|rfl) only[sA,initTm,dAlloc,zr88];obtain⟨H1,e1,hx1,g1,n1,w1⟩:=new1 hw (.row zero6 88);simp only[e1]
 repeat' (first|refine EvC.seq ?_|(refine EvC.reg ?_;simp (config := { maxSteps := 2000000 }) (disch:=first|omega|rfl) only[sB,Za,Zb,Value.cells,one,reduceCtorEq,Zh,layC,cl87,bd88]))
 refine(zo9 hn w1).mono ?_;rintro v H' ⟨rfl,rfl⟩
 repeat' (first|(refine EvC.ret ?_)|(refine z08 ?_;simp (config := { maxSteps := 2000000 }) (disch:=first|omega|rfl) only[sB,Za,Zb,one,reduceCtorEq,Zh,st88,g1]))
 exact z0f rfl (by simp only[sB,Za,reduceCtorEq];rfl) (by simp only[sB,Zb,cutC,ld88];rfl) ⟨rfl,hx1.pt (Ze _) g1 _,by rw[z1b];exact n1⟩
theorem z6h {H:Heap}{s:ByteArray}{a:Option Addr}{n c:Nat}(hw:H.wf):EvF Tryz.prog okT 48 [.string s,.slice a n c] H fun v H'=>v=.agg ⟨[.int .i64 5,.string s,.string e0,.int .u64 0,.int .i64 0,.slice a n c]⟩∧HX H H'∧H'.next=H.next+1:=by
 refine EvF.enter rfl Tryz.func48 (by decide) rfl ?_;(repeat refine EvC.seq ?_);refine EvC.reg ?_;simp (config := { maxSteps := 2000000 }) (disch:=first|omega|rfl) only[sA,initTm,dAlloc,zr88];obtain⟨H1,e1,hx1,g1,n1,w1⟩:=new1 hw (.row zero6 88);simp only[e1]
 repeat' (first|refine EvC.seq ?_|(refine EvC.ret ?_)|(refine EvC.reg ?_;simp (config := { maxSteps := 2000000 }) (disch:=first|omega|rfl) only[sB,Za,Zb,Value.cells,one,reduceCtorEq,Zh,layC,bd88,st88,g1]))
 exact z0f rfl (by simp only[sB,Za,reduceCtorEq];rfl) (by simp only[sB,Zb,cutC,ld88]) ⟨rfl,hx1.pt (Ze _) g1 _,by rw[z1b];exact n1⟩
def ThrR (H:Heap) (t:Tm) (v:Value):Prop:=∃p cs,v=.iface 136 (.pointer (some ⟨p,0,none⟩))∧H.get p=some (.row cs 140)∧RepK H 88 t cs
theorem ThrR.mono {H H':Heap}{t:Tm}{v:Value}(h:ThrR H t v) (hx:HX H H') (hw:H.wf):ThrR H' t v:=by
 obtain⟨p,cs,e,g,r⟩:=h;exact⟨p,cs,e,hx.get hw g,r.mono hx hw⟩
theorem z2v {H:Heap}{t:Tm}{cs:List Value}(hw:H.wf) (r:RepK H 88 t cs):EvF Tryz.prog okT 50 [.agg ⟨cs⟩] H fun v H'=>HX H H'∧ThrR H' t v:=by
 obtain⟨a,c,rfl⟩:=r.six;refine EvF.enter rfl Tryz.func50 (by decide) rfl ?_;(repeat refine EvC.seq ?_);refine EvC.reg ?_;simp (config := { maxSteps := 2000000 }) (disch:=first|omega|rfl) only[sB,initTm,dBox,Value.cells,one];obtain⟨H1,e1,hx1,g1,n1,w1⟩:=new1 hw (.row (six t a c) 88);simp only[e1];have q1:=row6 g1;obtain⟨H2,e2,hx2,g2,n2,w2⟩:=new1 w1 (.row (six t a c) 140)
 repeat' (first|refine EvC.seq ?_|(refine EvC.ret ?_)|(refine EvC.reg ?_;simp (config := { maxSteps := 2000000 }) (disch:=first|omega|rfl) only[sB,dBox,Za,Zb,Value.cells,one,reduceCtorEq,layC,ld88,zqh,q1,e2,z0y,z4y zpq]))
 exact z06 rfl (by simp only[sG,Za,reduceCtorEq]) ⟨hx1.trans hx2,_,_,rfl,g2,r.mono (hx1.trans hx2) hw⟩
theorem z4n {H:Heap}{s:ByteArray}{t:Tm}{cs:List Value}{b:Nat}(hs:s.size≤maxLen) (r:RepK H 88 t cs) (g:H.get b=some (.row cs 88)):RepK H 88 (ofT s [t]) (six (ofT s [t]) (some ⟨b,0,none⟩) 1):=zji hs r g
theorem z1t {H:Heap}{n:Int}(hw:H.wf) (hn:i64 n):EvF Tryz.prog okT 52 [.int .i64 n] H fun v H'=>HX H H'∧∃cs,v=.agg ⟨cs⟩∧RepK H' 88 (ofT ⟨#[36,115,116,114,101,97,109]⟩ [intT n]) cs:=by
 refine EvF.enter rfl Tryz.func52 (by decide) rfl ?_;(repeat refine EvC.seq ?_);refine EvC.reg ?_;simp (config := { maxSteps := 2000000 }) (disch:=first|omega|rfl) only[sA,initTm,dAlloc,zr88];obtain⟨H1,e1,hx1,g1,n1,w1⟩:=new1 hw (.row zero6 88);simp only[e1]
 repeat' (first|refine EvC.seq ?_|(refine EvC.reg ?_;simp (config := { maxSteps := 2000000 }) (disch:=first|omega|rfl) only[sB,Za,Zb,Value.cells,reduceCtorEq,layC,cl63,z2y]))
 refine(z6y w1 hn).mono ?_;rintro v H2 ⟨rfl,hx2,-⟩;obtain⟨H3,e3,hx3,g3,n3,w3⟩:=new1 hx2.wf (.row (six (intT n) none 0) 88)
 repeat' (first|(refine z08 ?_;simp (config := { maxSteps := 2000000 }) (disch:=first|omega|rfl) only[sB,Za,Zb,one,reduceCtorEq,cl48,e3]))
 refine(z6h w3).mono ?_;rintro v H4 ⟨rfl,hx4,-⟩;have hx14:=(hx2.trans hx3).trans hx4;have g1':=hx14.get w1 g1
 repeat' (first|(refine EvC.ret ?_)|(refine z08 ?_;simp (config := { maxSteps := 2000000 }) (disch:=first|omega|rfl) only[sB,Zb,one,st88,g1']))
 have hz:=(hx1.trans hx14).pt (i:=H.next) (Ze _) g1' (some (.row [.int .i64 5,.string ⟨#[36,115,116,114,101,97,109]⟩,.string e0,.int .u64 0,.int .i64 0,.slice (some ⟨H2.next,0,none⟩) 1 1] 88));refine z0f rfl (by simp only[sB,Za,reduceCtorEq];rfl) (by simp only[sB,Zb,cutC,ld88];rfl) ⟨hz,_,rfl,z4n (b:=H2.next) (by simp [maxLen,Zf]) (zhk hn) ?_⟩;have hne:H2.next≠H.next:=by have:=hx2.next;omega
 rw[get_put,if_neg hne];exact hx4.get w3 g3
end Go.Proofs.hq
end

section
namespace Go.Proofs.hq
open Go Go.RowKit Go.Hb
variable {ok:Ok}
set_option maxRecDepth 10000
attribute [local irreducible] LX LG EL STG SOP SGO SGD SAL SRD SEF SEG SLK SCK ES
def permS:ByteArray:=⟨#[112,101,114,109,105,115,115,105,111,110,95,101,114,114,111,114]⟩
set_option maxHeartbeats 1000000 in
theorem z0q {H:Heap}{s u:ByteArray}{t:Tm}{cs:List Value}(hw:H.wf) (hs:s.size≤maxLen) (hu:u.size≤maxLen) (r:RepK H 88 t cs) :
  EvF Tryz.prog okT 47 [.string s,.string u,.agg ⟨cs⟩] H fun v H'=>HX H H'∧ThrR H' (ofT permS [atomT s,atomT u,t]) v:=by
 obtain⟨a,c,rfl⟩:=r.six;refine EvF.enter rfl Tryz.func47 (by decide) rfl ?_;(repeat refine EvC.seq ?_);refine EvC.reg ?_;simp (config := { maxSteps := 2000000 }) (disch:=first|omega|rfl) only[sB,initTm,dBox,Za,Zb,Value.cells,one,reduceCtorEq];obtain⟨H1,e1,hx1,g1,n1,w1⟩:=new1 hw (.row (six t a c) 88);simp only[e1]
 repeat' (first|refine EvC.seq ?_|(refine EvC.drw [([(0,0)],some 1),([(2,0)],some 3),([(4,0),(5,2)],some 6),([],some 7),([(8,4)],none)] ?_ ?_;kernel_rfl;simp (config := { maxSteps := 2000000 }) (disch:=first|omega|rfl) only[sD,sB,Za,Zb,reduceCtorEq,cl49,isAlloc,isRead]))
 obtain⟨H2,f2,hx2,w2⟩:=z5e w1 9;simp only[f2];refine(z2f w2 hs).mono ?_;rintro v H3 ⟨rfl,hx3,-⟩
 repeat' (first|(refine z2t ?_;simp (config := { maxSteps := 2000000 }) (disch:=first|omega|rfl) only[sD,sB,Za,reduceCtorEq,cl49,isAlloc,isRead,zfn]))
 refine(z2f hx3.wf hu).mono ?_;rintro v H4 ⟨rfl,hx4,-⟩;have w3:=hx3.wf;have w4:=hx4.wf;have q2:=(row6 (hx2.get w1 g1)).2.2.2.2.2.2;have q3:=(row6 (hx3.get w2 (hx2.get w1 g1))).2.2.2.2.2.2;have q4:=(row6 (hx4.get w3 (hx3.get w2 (hx2.get w1 g1)))).2.2.2.2.2.2
 repeat' (first|(refine z2t ?_;simp (config := { maxSteps := 2000000 }) (disch:=first|omega|rfl) only[sV,sD,sB,Za,Zb,Value.cells,one,reduceCtorEq,Zh,layC,ld88,zni,cl48,q2,q3,q4,isAlloc,isRead,dalloc]))
 have hx24:=(hx2.trans hx3).trans hx4;have n2:H2.next=H1.next+9:=by rw[←f2]
 have n4:=(hx3.trans hx4).next;have hx5:=hx24.put (i:=H1.next+5) (Nat.le_add_right _ _) (show H1.next+5 < H4.next by omega) (some (.row (six (atomT s) none 0++six (atomT u) none 0++six t a c) 88));have g5:(H4.put (H1.next+5) (some (.row (six (atomT s) none 0++six (atomT u) none 0++six t a c) 88))).get (H1.next+5)=some (.row (six (atomT s) none 0++six (atomT u) none 0++six t a c) 88):=by rw[get_put,if_pos rfl]
 have w5:=hx5.wf;refine(z6h w5).mono ?_;rintro v H6 ⟨rfl,hx6,-⟩;have g6:=hx6.get w5 g5;have w6:=hx6.wf;have hx16:=hx5.trans hx6;have rt:RepK H6 88 (ofT permS [atomT s,atomT u,t]) (six (ofT permS [atomT s,atomT u,t]) (some ⟨H1.next+5,0,none⟩) 3):=zjk (by simp [permS,maxLen,Zf]) (z1n hs) (z1n hu) (r.mono (hx1.trans hx16) hw) g6
 repeat' (first|(refine z2t ?_;simp (config := { maxSteps := 2000000 }) (disch:=first|omega|rfl) only[sD,sB,Za,reduceCtorEq,cl50]))
 refine(z2v w6 rt).mono ?_;rintro v H7 ⟨hx7,ht⟩
 repeat' (first|(refine EvC.ret ?_)|(refine z2t ?_;simp (config := { maxSteps := 2000000 }) (disch:=first|omega|rfl) only[sD,sB,Za,Zb,reduceCtorEq,isAlloc,isRead]))
 exact z06 rfl (by simp only[sG,Za,reduceCtorEq]) ⟨(hx1.trans hx16).trans hx7,ht⟩
end Go.Proofs.hq
end

section
namespace Go.Hb
open Go Go.RowKit
theorem z1z {a b:ByteArray}:(a == b)=true↔a=b:=by
 constructor
 ·intro h;cases a with
  |mk x=>cases b with
   |mk y =>
    have:(x == y)=true:=h;rw[eq_of_beq this]
 ·rintro rfl;cases a with
  |mk x=>exact(beq_self_eq_true x:(x == x)=true)
theorem z9i {a b:ByteArray}(h:a≠b):(a == b)=false:=by
 cases e:a == b with
 |false=>rfl
 |true=>exact absurd (z1z.1 e) h
def MapS (H:Heap) (r:Nat) (M:List (ByteArray × Value)):Prop:=∃es clock,H.get r=some (.map es clock)∧es.map (fun e=>(e.key,e.val))=M.map fun p=>(Value.string p.1,p.2)
section
variable {P:Program}{H:Heap}
theorem z8z:∀(es:List MapEntry) (M:List (ByteArray × Value)) (n:ByteArray) (i:Nat),es.map (fun e=>(e.key,e.val))=M.map (fun p=>(Value.string p.1,p.2)) →
  Instr.findNow .string (.string n) (keysOf es) i=some ((M.findIdx? fun p=>n == p.1).map fun j=>(i+j,.bool false))
 |[],[],_,_,_=>rfl
 |[],_ :: _,_,_,h=>by simp at h
 |_ :: _,[],_,_,h=>by simp at h
 |e :: es,p :: M,n,i,h=>by
  simp only[Zs,List.cons.injEq,Prod.mk.injEq] at h;have hk:e.key=.string p.1:=h.1.1;have ih:=z8z es M n (i+1) h.2;unfold keysOf at ih ⊢;rw[Zs];unfold Instr.findNow;simp only[hk,Instr.sameNow,List.findIdx?_cons];cases hb:n == p.1 with
  |true=>rfl
  |false =>
   simp only;rw[ih];cases M.findIdx? fun p=>n == p.1 with
   |none=>rfl
   |some j=>simp only[Zo,Option.some.injEq,Prod.mk.injEq,and_true,Zc,if_false];omega
theorem z6i {kt:TypeId}{emp:Bool}{es:List MapEntry}{M:List (ByteArray × Value)}{n:ByteArray}(hk:P.underlying kt=some .string) (h:es.map (fun e=>(e.key,e.val))=M.map fun p=>(Value.string p.1,p.2)) :
  dfind P emp kt (.string n) es=some (M.findIdx? fun p=>n == p.1):=by
 have hu:pureRun P (underlying kt)=some .string:=z0n hk;have h1:pureRun P (Instr.checkKey emp 10000 kt (.string n))=some ():=by
  unfold Instr.checkKey;rw[z0a,hu,Zq];rfl
 have h2:pureRun P (Instr.findKey kt (.string n) (keysOf es))=some ((M.findIdx? fun p=>n == p.1).map fun j=>(j,.bool false)):=by
  unfold Instr.findKey;rw[z0a,hu,Zq,z8z es M n 0 h];simp only[Nat.zero_add];rfl
 unfold dfind;rw[h1,h2];simp only[flat];cases M.findIdx? fun p=>n == p.1<;>rfl
def sGet (M:List (ByteArray × Value)) (n:ByteArray):Option Value:=(M.find? fun p=>n == p.1).map (·.2)
theorem zbb {M:List (ByteArray × Value)}{n:ByteArray}:(M.findIdx? fun p=>n == p.1)=none∧sGet M n=none∨∃i v,(M.findIdx? fun p=>n == p.1)=some i∧M[i]?=some (n,v)∧sGet M n=some v:=by
 unfold sGet
 induction M with
 |nil=>left;exact⟨rfl,rfl⟩
 |cons p M ih =>
  by_cases hp:n=p.1
  ·right;have hb:(n == p.1)=true:=z1z.2 hp;refine⟨0,p.2,by simp [List.findIdx?_cons,hb],by rw[hp];rfl,by simp [ZH,hb]⟩
  ·have hb:(n == p.1)=false:=z9i hp;rcases ih with ⟨h1,h2⟩|⟨i,v,h1,h2,h3⟩
   ·left;exact⟨by simp [List.findIdx?_cons,hb];simpa using h1,by simpa [ZH,hb] using h2⟩
   ·right;refine⟨i+1,v,by simp [List.findIdx?_cons,hb,h1],by simpa using h2,by simpa [ZH,hb] using h3⟩
def spOk (P:Program) (t kt et:TypeId) (z:Value):Prop:=P.underlying t=some (.map kt et)∧P.underlying kt=some .string∧pureRun P (zeroValue et)=some z∧flat z=true
theorem MapS.heap {H':Heap}{r:Nat}{M:List (ByteArray × Value)}(h:MapS H r M) (hk:H'.get r=H.get r):MapS H' r M:=by
 obtain⟨es,clock,hg,he⟩:=h;exact⟨es,clock,hk.trans hg,he⟩
theorem zbc {t kt et:TypeId}{z v:Value}{r:Nat}{M:List (ByteArray × Value)}{n:ByteArray}{ok:Bool}(h:spOk P t kt et z) (hm:MapS H r M) (hv:sGet M n=some v) :
  dLk P t (.map (some r)) (.string n) ok H=some (.val (if ok then .tuple #[v,.bool true] else v) H):=by
 obtain⟨h1,h2,h3,h4⟩:=h;obtain⟨es,clock,hg,he⟩:=hm;rcases zbb (M:=M) (n:=n) with ⟨_,h5⟩|⟨i,u,h5,h6,h7⟩
 ·rw[h5] at hv;cases hv
 ·rw[h7] at hv;cases hv;have hi:∃e,es[i]?=some e∧e.val=v:=by
   have:=congrArg (·[i]?) he;simp only[Zr,h6,Zo,Option.map_eq_some_iff,Prod.mk.injEq] at this;obtain⟨e,h8,-,h9⟩:=this;exact⟨e,h8,h9⟩
  obtain⟨e,h8,h9⟩:=hi;simp only[dLk,dlookup,h1,hg,z6i h2 he,h5,h8,h9]
theorem zbd {t kt et:TypeId}{z:Value}{r:Nat}{M:List (ByteArray × Value)}{n:ByteArray}{ok:Bool}(h:spOk P t kt et z) (hm:MapS H r M) (hv:sGet M n=none) :
  dLk P t (.map (some r)) (.string n) ok H=some (.val (if ok then .tuple #[z,.bool false] else z) H):=by
 obtain⟨h1,h2,h3,h4⟩:=h;obtain⟨es,clock,hg,he⟩:=hm;rcases zbb (M:=M) (n:=n) with ⟨h5,_⟩|⟨i,u,h5,h6,h7⟩
 ·simp only[dLk,dlookup,h1,hg,z6i h2 he,h5,h3,h4,if_true]
 ·rw[h7] at hv;cases hv
def sSet (M:List (ByteArray × Value)) (n:ByteArray) (v:Value):List (ByteArray × Value):=match M.findIdx? fun p=>n == p.1 with
 |some i=>M.set i (n,v)
 |none=>M++[(n,v)]
def BornR (H:Heap) (r:Nat):Prop:=∃es clock,H.get r=some (.map es clock)∧(∀e∈es,e.born < clock)∧(es.map (·.born)).Nodup
theorem dUs {t kt et:TypeId}{z v:Value}{r:Nat}{M:List (ByteArray × Value)}{n:ByteArray}(h:spOk P t kt et z) (hm:MapS H r M) :
  ∃B,dUp P t (.map (some r)) (.string n) v H=some (.val undef (H.put r (some B)))∧MapS (H.put r (some B)) r (sSet M n v)∧(BornR H r→BornR (H.put r (some B)) r):=by
 obtain⟨h1,h2,h3,h4⟩:=h;obtain⟨es,clock,hg,he⟩:=hm;unfold sSet;rcases zbb (M:=M) (n:=n) with ⟨h5,_⟩|⟨i,u,h5,h6,h7⟩
 ·rw[h5];refine⟨.map (es++[{ key:=.string n,val:=v,born:=clock }]) (clock+1),by simp only[dUp,dupdate,h1,hg,z6i h2 he,h5],⟨_,_,by rw[Heap.get_put,if_pos rfl],?_⟩,fun hb=>?_⟩
  ·rw[ZI,ZI,he];rfl
  ·obtain⟨es',clock',hg',hb1,hb2⟩:=hb;rw[hg] at hg';cases hg';refine⟨_,_,by rw[Heap.get_put,if_pos rfl],fun e hm=>?_,?_⟩
   ·rcases List.mem_append.1 hm with hm|hm
    ·have:=hb1 e hm;omega
    ·rw[List.mem_singleton.1 hm];exact Nat.lt_succ_self _
   ·rw[ZI,List.nodup_append];refine⟨hb2,by simp,?_⟩;intro a ha b hb;obtain⟨e,he1,rfl⟩:=List.mem_map.1 ha;simp only[Zs,List.map_nil,List.mem_singleton] at hb;have:=hb1 e he1;omega
 ·rw[h5];have hi:∃e,es[i]?=some e∧e.key=.string n:=by
   have:=congrArg (·[i]?) he;simp only[Zr,h6,Zo,Option.map_eq_some_iff,Prod.mk.injEq] at this;obtain⟨e,h8,h9,-⟩:=this;exact⟨e,h8,h9⟩
  obtain⟨e,h8,h9⟩:=hi;have hsb:Instr.sameBits 10000 e.key (.string n)=true:=by rw[h9];simp only[Instr.sameBits];exact z1z.2 rfl
  refine⟨.map (es.set i { e with key:=.string n,val:=v }) clock,by simp only[dUp,dupdate,h1,hg,z6i h2 he,h5,h8,hsb,if_true],⟨_,_,by rw[Heap.get_put,if_pos rfl],?_⟩,fun hb=>?_⟩
  ·rw[List.map_set,List.map_set,he]
  ·obtain⟨es',clock',hg',hb1,hb2⟩:=hb;rw[hg] at hg';cases hg';have hb3:(es.set i { e with key:=.string n,val:=v }).map (·.born)=es.map (·.born):=by
    rw[List.map_set];apply ZD;intro k;rw[List.getElem?_set];split
    ·rename_i hk;subst hk;split
     ·rw[Zr,h8];rfl
     ·rw[Zw (by omega)]
    ·rfl
   refine⟨_,_,by rw[Heap.get_put,if_pos rfl],fun x hx=>?_,by rw[hb3];exact hb2⟩;have hm:x.born∈(es.set i { e with key:=.string n,val:=v }).map (·.born):=List.mem_map.2 ⟨x,hx,rfl⟩;rw[hb3] at hm;obtain⟨y,hy,hyx⟩:=List.mem_map.1 hm;rw[←hyx];exact hb1 y hy
section
def dNilC (v:Value) (H:Heap):Option Dr:=match v with
 |.pointer (some a)=>some (.val (.pointer (some a)) H)
 |.func (.func f) a b=>some (.val (.func (.func f) a b) H)
 |_=>none
theorem z01 {P:Program}{H:Heap}{d:Option Tmp}{x:Operand}{ty:TypeId}{pos:String}{af:Array Edge}{g:Option (Nat × Bool)}{ρ:Operand→Value}:dop P ⟨d,.nilCheck x,ty,pos,af,g⟩ ρ H=dNilC (ρ x) H:=_root_.id rfl
theorem z04 {H:Heap}{a:Addr}:dNilC (.pointer (some a)) H=some (.val (.pointer (some a)) H):=_root_.id rfl
end
theorem z90:∀{l:List Nat},l.Nodup→nodupB l=true
 |[],_=>rfl
 |a :: l,h=>by
  obtain⟨h1,h2⟩:=List.nodup_cons.1 h;unfold nodupB;rw[z90 h2,Bool.and_true,Bool.not_eq_true',List.any_eq_false];intro b hb;rw[Zp];exact fun e=>h1 (e ▸ hb)
theorem BornR.heap {H':Heap}{r:Nat}(h:BornR H r) (hk:H'.get r=H.get r):BornR H' r:=by
 obtain⟨es,clock,hg,he⟩:=h;exact⟨es,clock,hk.trans hg,he⟩
theorem z6j {t kt et:TypeId}{z v:Value}{r:Nat}{M:List (Int × Value)}{n:Int}(h:mpOk P t kt et z) (hm:MapR H r M) (hb:BornR H r) (hv:mGet M n=none) :
  ∃B,dUp P t (.map (some r)) (.int .i64 n) v H=some (.val undef (H.put r (some B)))∧MapR (H.put r (some B)) r (M++[(n,v)])∧BornR (H.put r (some B)) r:=by
 obtain⟨h1,h2,h3,h4⟩:=h;obtain⟨es,clock,hg,he⟩:=hm;obtain⟨es',clock',hg',hb1,hb2⟩:=hb;rw[hg] at hg';cases hg';rcases z7s (M:=M) (n:=n) with ⟨h5,_⟩|⟨i,u,h5,h6,h7⟩
 ·refine⟨.map (es++[{ key:=.int .i64 n,val:=v,born:=clock }]) (clock+1),by simp only[dUp,dupdate,h1,hg,z6g h2 he,h5],⟨_,_,by rw[Heap.get_put,if_pos rfl],?_⟩,⟨_,_,by rw[Heap.get_put,if_pos rfl],fun e hm=>?_,?_⟩⟩
  ·rw[ZI,ZI,he];rfl
  ·rcases List.mem_append.1 hm with hm|hm
   ·have:=hb1 e hm;omega
   ·rw[List.mem_singleton.1 hm];exact Nat.lt_succ_self _
  ·rw[ZI,List.nodup_append];refine⟨hb2,by simp,?_⟩;intro a ha b hb;obtain⟨e,he1,rfl⟩:=List.mem_map.1 ha;simp only[Zs,List.map_nil,List.mem_singleton] at hb;have:=hb1 e he1;omega
 ·rw[h7] at hv;cases hv
end
end Go.Hb
end

section
namespace Go.Proofs.hq
open Go Go.RowKit Go.Hb
variable {ok:Ok}
set_option maxRecDepth 10000
attribute [local irreducible] LX LG EL STG SOP SGO SGD SAL SRD SEF SEG SLK SCK ES
structure Strm where
 id:Int
 file:ByteArray
 mode:Int
 bin:Bool
 al:ByteArray
 eof:Int
 rep:Bool
 pos:Int
 line:Int
 en:Int
 con:Bool
abbrev Strm.row (s:Strm):List Value:=[.int .i64 s.id,.string s.file,.int .i64 s.mode,.bool s.bin,.string s.al,.int .i64 s.eof,.bool s.rep,.int .i64 s.pos,.int .i64 s.line,.int .i64 s.en,.bool s.con]
structure FSt where
 files:List (ByteArray × ByteArray)
 opens:List (Int × Strm)
 next:Int
 input:ByteArray
 out:ByteArray
 inp:Int
 put:Int
 written:Int
def FSt.get (φ:FSt) (n:Int):Option Strm:=(φ.opens.find? fun o=>o.1 == n).map (·.2)
def FSt.file (φ:FSt) (n:ByteArray):Option ByteArray:=(φ.files.find? fun o=>n == o.1).map (·.2)
abbrev ptrV (b:Nat):Value:=.pointer (some ⟨b,0,none⟩)
abbrev fsRow (fb ob:Nat) (φ:FSt):List Value:=[.map (some fb),.map (some ob),.int .i64 φ.next,.string φ.input,.string φ.out,.int .i64 φ.inp,.int .i64 φ.put,.int .i64 φ.written]
structure FsB (H:Heap) (B:Nat→Prop) (p fb ob:Nat) (blk:Int→Nat) (φ:FSt):Prop where
 obj:H.get p=some (.row (fsRow fb ob φ) 77)
 fm:MapS H fb (φ.files.map fun x=>(x.1,.string x.2))
 om:MapR H ob (φ.opens.map fun o=>(o.1,ptrV (blk o.1)))
 bo:BornR H ob
 st:∀o∈φ.opens,H.get (blk o.1)=some (.row o.2.row 82)
 nd:(φ.opens.map (·.1)).Nodup
 inj:∀o∈φ.opens,∀o'∈φ.opens,blk o.1=blk o'.1→o.1=o'.1
 lp:B p
 lf:B fb
 lo:B ob
 lb:∀o∈φ.opens,B (blk o.1)
 fo:fb≠ob
 bf:BornR H fb
 fd:(φ.files.map (·.1)).Nodup
theorem MapS.lt {H:Heap}{r:Nat}{M:List (ByteArray × Value)}(h:MapS H r M) (hw:H.wf):r < H.next:=by obtain⟨es,clock,hg,he⟩:=h;exact hw _ _ hg
theorem FsB.keep {H H':Heap}{B:Nat→Prop}{p fb ob:Nat}{blk:Int→Nat}{φ:FSt}(h:FsB H B p fb ob blk φ) (hx:HX H H') (hw:H.wf):FsB H' B p fb ob blk φ :=
 ⟨hx.get hw h.obj,h.fm.heap (hx.keep _ (MapS.lt h.fm hw)),h.om.heap (hx.keep _ (h.om.lt hw)),h.bo.heap (hx.keep _ (h.om.lt hw)),fun o ho=>hx.get hw (h.st o ho),h.nd,h.inj,h.lp,h.lf,h.lo,h.lb,h.fo,h.bf.heap (hx.keep _ (MapS.lt h.fm hw)),h.fd⟩
theorem zbe (l:List (Int × Strm)) (blk:Int→Nat) (n:Int):mGet (l.map fun o=>(o.1,ptrV (blk o.1))) n=((l.find? fun o=>o.1 == n).map (·.2)).map fun _=>ptrV (blk n):=by
 unfold mGet
 induction l with
 |nil=>rfl
 |cons o l ih =>
  rw[Zs,ZH,ZH];by_cases h:o.1=n
  ·obtain⟨a,s⟩:=o;simp only at h;subst h;simp
  ·have hb:(o.1 == n)=false:=by simp [h]
   simp only[hb];exact ih
theorem z91 (l:List (ByteArray × ByteArray)) (n:ByteArray):sGet (l.map fun x=>(x.1,Value.string x.2)) n=((l.find? fun o=>n == o.1).map (·.2)).map fun d=>.string d:=by
 unfold sGet
 induction l with
 |nil=>rfl
 |cons o l ih =>
  rw[Zs,ZH,ZH];cases hb:n == o.1 with
  |true=>rfl
  |false=>exact ih
theorem z1q {φ:FSt}{n:Int}{s:Strm}(h:φ.get n=some s):(n,s)∈φ.opens:=by
 unfold FSt.get at h;rw[Option.map_eq_some_iff] at h;obtain⟨o,ho,rfl⟩:=h;have h1:=List.find?_some ho;have h2:o.1=n:=by simpa using h1
 rw[←h2];exact List.mem_of_find?_eq_some ho
theorem FsB.strm {H:Heap}{B:Nat→Prop}{p fb ob:Nat}{blk:Int→Nat}{φ:FSt}(h:FsB H B p fb ob blk φ) {n:Int}{s:Strm}(hg:φ.get n=some s):H.get (blk n)=some (.row s.row 82):=h.st _ (z1q hg)
theorem row8 {H:Heap}{p:Nat}{T:TypeId}{x0 x1 x2 x3 x4 x5 x6 x7:Value}(h:H.get p=some (Blk.row [x0,x1,x2,x3,x4,x5,x6,x7] T)) :
  H.load ⟨p,0,none⟩ 1=some [x0]∧H.load ⟨p,1,none⟩ 1=some [x1]∧H.load ⟨p,2,none⟩ 1=some [x2]∧H.load ⟨p,3,none⟩ 1=some [x3]∧H.load ⟨p,4,none⟩ 1=some [x4]∧H.load ⟨p,5,none⟩ 1=some [x5]∧H.load ⟨p,6,none⟩ 1=some [x6]∧H.load ⟨p,7,none⟩ 1=some [x7]:=by
 refine⟨?_,?_,?_,?_,?_,?_,?_,?_⟩<;>simp only[Heap.load,Heap.cells,h]<;>rfl
theorem z2r {H:Heap}{p:Nat}{T:TypeId}{x0 x1 x2 x3 x4 x5 x6 x7 x8 x9 xa:Value}(h:H.get p=some (Blk.row [x0,x1,x2,x3,x4,x5,x6,x7,x8,x9,xa] T)) :
  H.load ⟨p,0,none⟩ 1=some [x0]∧H.load ⟨p,1,none⟩ 1=some [x1]∧H.load ⟨p,2,none⟩ 1=some [x2]∧H.load ⟨p,3,none⟩ 1=some [x3]∧H.load ⟨p,4,none⟩ 1=some [x4]∧H.load ⟨p,5,none⟩ 1=some [x5]∧H.load ⟨p,6,none⟩ 1=some [x6]∧H.load ⟨p,7,none⟩ 1=some [x7] ∧
  H.load ⟨p,8,none⟩ 1=some [x8]∧H.load ⟨p,9,none⟩ 1=some [x9]∧H.load ⟨p,10,none⟩ 1=some [xa]:=by
 refine⟨?_,?_,?_,?_,?_,?_,?_,?_,?_,?_,?_⟩<;>simp only[Heap.load,Heap.cells,h]<;>rfl
theorem mpSt:mpOk Tryz.prog 75 3 80 (.pointer none):=⟨Tryz.underlying75,Tryz.underlying3,by kernel_rfl,rfl⟩
theorem spFl:spOk Tryz.prog 74 9 9 (.string Zg):=⟨Tryz.underlying74,Tryz.underlying9,by kernel_rfl,rfl⟩
theorem isPF:isPtr Tryz.prog 25=true:=by kernel_rfl
theorem z6z {H:Heap}{x y:Operand}{a:Addr}:dBin Tryz.prog .eql 25 x y (.pointer (some a)) (.pointer none) H=some (.val (.bool false) H):=by
 simp only[dBin,dnil,isPF,nilEq,if_true]
theorem zbf {H:Heap}{s:ByteArray}{t u:Tm}{cs ds:List Value}{b:Nat}(hs:s.size≤maxLen) (r:RepK H 88 t cs) (r2:RepK H 88 u ds) (g:H.get b=some (.row (cs++ds) 88)):RepK H 88 (ofT s [t,u]) (six (ofT s [t,u]) (some ⟨b,0,none⟩) 2):=zjj hs r r2 g
def strS:ByteArray:=⟨#[115,116,114,101,97,109]⟩
def existS:ByteArray:=⟨#[101,120,105,115,116,101,110,99,101,95,101,114,114,111,114]⟩
def handS:ByteArray:=⟨#[36,115,116,114,101,97,109]⟩
abbrev handT (n:Int):Tm:=ofT handS [intT n]
def noStrT (n:Int):Tm:=ofT existS [atomT strS,handT n]
set_option maxHeartbeats 1000000 in
theorem z5v {H:Heap}{B:Nat→Prop}{p fb ob:Nat}{blk:Int→Nat}{φ:FSt}{n:Int}(h:FsB H B p fb ob blk φ) (hw:H.wf) (hn:i64 n) :
  EvF Tryz.prog okT 51 [ptrV p,.int .i64 n] H fun v H'=>(∃s,φ.get n=some s∧v=.tuple ⟨[ptrV (blk n),.nilIface]⟩∧H'=H)∨(φ.get n=none∧∃e,v=.tuple ⟨[.pointer none,e]⟩∧HX H H'∧ThrR H' (noStrT n) e):=by
 have q:=row8 h.obj;have hmg:=zbe φ.opens blk n;refine EvF.enter rfl Tryz.func51 (by decide) rfl ?_;cases hg:φ.get n with
 |some s =>
  have hv:mGet (φ.opens.map fun o=>(o.1,ptrV (blk o.1))) n=some (ptrV (blk n)):=by rw[hmg];unfold FSt.get at hg;rw[hg];rfl
  have hl:=fun ok=>zlj (P:=Tryz.prog) (H:=H) (ok:=ok) mpSt h.om hv
  repeat' (first|refine EvC.seq ?_|(refine EvC.skip ?_;try simp only[z00])|(refine EvC.ret ?_)|(refine EvC.reg ?_;simp (config := { maxSteps := 2000000 }) (disch:=first|omega|rfl) only[sB,initTm,Za,reduceCtorEq,z3t,ld75,z6z,q,z01,z04,z1p,hl,Zn])|(refine EvC.condF ?_ ?_;simp (config := { maxSteps := 2000000 }) (disch:=first|omega|rfl) only[sB,Za,reduceCtorEq];refine z02 ?_))
  exact z09 rfl (by simp only[sG,Za,reduceCtorEq]) (by simp only[sG,Za,reduceCtorEq]) (.inl ⟨s,rfl,rfl,rfl⟩)
 |none =>
  have hv:mGet (φ.opens.map fun o=>(o.1,ptrV (blk o.1))) n=none:=by rw[hmg];unfold FSt.get at hg;rw[hg];rfl
  have hl:=fun ok=>zlk (P:=Tryz.prog) (H:=H) (ok:=ok) mpSt h.om hv
  repeat' (first|refine EvC.seq ?_|(refine EvC.skip ?_;try simp only[z00])|(refine EvC.reg ?_;simp (config := { maxSteps := 2000000 }) (disch:=first|omega|rfl) only[sB,initTm,Za,Zb,Value.cells,reduceCtorEq,layC,z3t,ld75,cl49,cl52,z7i,z6z,q,z01,z04,z1p,hl,Zm])|(refine EvC.condT ?_ ?_;simp (config := { maxSteps := 2000000 }) (disch:=first|omega|rfl) only[sB,Za,reduceCtorEq];refine z02 ?_)|(refine EvC.condF ?_ ?_;simp (config := { maxSteps := 2000000 }) (disch:=first|omega|rfl) only[sB,Za,reduceCtorEq];refine z02 ?_))
  refine(z2f hw (s:=strS) (by simp [strS,maxLen,Zf])).mono ?_;rintro v H1 ⟨rfl,hx1,-⟩
  skip
  refine(z1t hx1.wf hn).mono ?_;rintro v H2 ⟨hx2,cs,rfl,r2⟩;obtain⟨a,c,rfl⟩:=r2.six;have hx3:=(HX.refl hx2.wf).new (some (.row (six (atomT strS) none 0++six (handT n) a c) 88));have g3:(H2.new (some (.row (six (atomT strS) none 0++six (handT n) a c) 88))).get H2.next=some (.row (six (atomT strS) none 0++six (handT n) a c) 88):=z4g
  repeat' (first|(refine z08 ?_;simp (config := { maxSteps := 2000000 }) (disch:=first|omega|rfl) only[sB,Za,Zb,one,reduceCtorEq,Zh,cl48,cl50]))
  refine(z6h (s:=existS) hx3.wf).mono ?_;rintro v H4 ⟨rfl,hx4,-⟩;have rt:RepK H4 88 (noStrT n) (six (noStrT n) (some ⟨H2.next,0,none⟩) 2):=zbf (by simp [existS,maxLen,Zf]) (z1n (by simp [strS,maxLen,Zf])) (r2.mono (hx3.trans hx4) hx2.wf) (hx4.get hx3.wf g3)
  skip
  refine(z2v hx4.wf rt).mono ?_;rintro v H5 ⟨hx5,ht⟩
  repeat' (first|(refine EvC.ret ?_;try simp only[z05,z03]))
  exact z09 rfl (by simp only[sG,Za,reduceCtorEq]) (by simp only[sG,Za,reduceCtorEq]) (.inr ⟨_,rfl,(((hx1.trans hx2).trans hx3).trans hx4).trans hx5,ht⟩)
def FSt.data (φ:FSt) (s:Strm):ByteArray:=if s.con then (if s.mode=1 then φ.input else φ.out) else (φ.file s.file).getD Zg
set_option maxHeartbeats 1000000 in
theorem z92 {H:Heap}{B:Nat→Prop}{p fb ob:Nat}{blk:Int→Nat}{φ:FSt}{b:Nat}{s:Strm}(h:FsB H B p fb ob blk φ) (hw:H.wf) (hs:H.get b=some (.row s.row 82)) :
  EvF Tryz.prog okT 59 [ptrV p,ptrV b] H fun v H'=>v=.string (φ.data s)∧HX H H':=by
 have q:=row8 h.obj;have qs:=z2r hs;refine EvF.enter rfl Tryz.func59 (by decide) rfl ?_;unfold FSt.data;obtain⟨sid,sf,sm,sb,sa,se,sr,sp,sl,sn,sc⟩:=s;simp only at hs qs ⊢;cases sc with
 |true =>
  by_cases hm:sm=1
  ·subst hm
   repeat' (first|refine EvC.seq ?_|refine EvC.block ?_|(refine EvC.ret ?_;try simp only[z05,z03])|(refine EvC.reg ?_;simp (config := { maxSteps := 2000000 }) (disch:=first|omega|rfl) only[sB,initTm,Za,reduceCtorEq,z2u,ld4,z0l,z0o,ld3,zpl,ld9,q,qs,z01,z04,beq_self_eq_true])|(refine EvC.condT ?_ ?_;simp (config := { maxSteps := 2000000 }) (disch:=first|omega|rfl) only[sB,Za,reduceCtorEq];refine z02 ?_))
   exact z06 rfl (by simp only[sG,Za,reduceCtorEq]) ⟨rfl,HX.refl hw⟩
  ·repeat' (first|refine EvC.seq ?_|refine EvC.block ?_|(refine EvC.ret ?_;try simp only[z05,z03])|(refine EvC.reg ?_;simp (config := { maxSteps := 2000000 }) (disch:=first|omega|rfl) only[sB,initTm,Za,reduceCtorEq,z2u,ld4,z0l,z0o,ld3,ld9,zjc,q,qs,z01,z04,z0r hm])|(refine EvC.condT ?_ ?_;simp (config := { maxSteps := 2000000 }) (disch:=first|omega|rfl) only[sB,Za,reduceCtorEq];refine z02 ?_)|(refine EvC.condF ?_ ?_;simp (config := { maxSteps := 2000000 }) (disch:=first|omega|rfl) only[sB,Za,reduceCtorEq];refine z02 ?_))
   exact z06 rfl (by simp only[sB,Za,reduceCtorEq];rfl) ⟨by simp only[if_neg hm,if_true],HX.refl hw⟩
 |false =>
  have hmg:=z91 φ.files sf;cases hg:φ.file sf with
  |some d =>
   have hl:=fun ok n'=>zbc (P:=Tryz.prog) (H:=⟨n',H.t⟩) (ok:=ok) spFl (h.fm.heap rfl) (n:=sf) (v:=.string d) (by rw[hmg];unfold FSt.file at hg;rw[hg];rfl)
   repeat' (first|refine EvC.seq ?_|refine EvC.block ?_|(refine EvC.skip ?_;try simp only[sA])|(refine EvC.ret ?_)|(refine EvC.reg ?_;simp (config := { maxSteps := 2000000 }) (disch:=first|omega|rfl) only[sB,initTm,Za,reduceCtorEq,z2u,ld4,qs,z01,z04,Zc])|(refine EvC.drw [([(0,0),(1,0),(2,0),(3,0),(4,0),(5,0),(6,0),(7,0),(8,0),(9,0),(10,0)],none)] ?_ ?_;kernel_rfl;simp (config := { maxSteps := 2000000 }) (disch:=first|omega|rfl) only[sD,sB,Za,Zb,reduceCtorEq,z0l,ld9,z3z,ld74,z3u,q,qs,z01,z04,z1p,hl,Zc,isAlloc,isRead])|(refine EvC.condF ?_ ?_;simp (config := { maxSteps := 2000000 }) (disch:=first|omega|rfl) only[sB,Za,reduceCtorEq];refine z02 ?_))
   exact z06 rfl (by simp only[sG,Za,reduceCtorEq]) ⟨rfl,(HX.refl hw).bump _⟩
  |none =>
   have hl:=fun ok n'=>zbd (P:=Tryz.prog) (H:=⟨n',H.t⟩) (ok:=ok) spFl (h.fm.heap rfl) (n:=sf) (by rw[hmg];unfold FSt.file at hg;rw[hg];rfl)
   repeat' (first|refine EvC.seq ?_|refine EvC.block ?_|(refine EvC.skip ?_;try simp only[sA])|(refine EvC.ret ?_)|(refine EvC.reg ?_;simp (config := { maxSteps := 2000000 }) (disch:=first|omega|rfl) only[sB,initTm,Za,reduceCtorEq,z2u,ld4,qs,z01,z04,Zc])|(refine EvC.drw [([(0,0),(1,0),(2,0),(3,0),(4,0),(5,0),(6,0),(7,0),(8,0),(9,0),(10,0)],none)] ?_ ?_;kernel_rfl;simp (config := { maxSteps := 2000000 }) (disch:=first|omega|rfl) only[sD,sB,Za,Zb,reduceCtorEq,z0l,ld9,z3z,ld74,z3u,q,qs,z01,z04,z1p,hl,Zc,isAlloc,isRead])|(refine EvC.condF ?_ ?_;simp (config := { maxSteps := 2000000 }) (disch:=first|omega|rfl) only[sB,Za,reduceCtorEq];refine z02 ?_))
   exact z06 rfl (by simp only[sB,Za,reduceCtorEq];rfl) ⟨rfl,(HX.refl hw).bump _⟩
def inS:ByteArray:=⟨#[105,110,112,117,116]⟩
def binS:ByteArray:=⟨#[98,105,110,97,114,121,95,115,116,114,101,97,109]⟩
def textS:ByteArray:=⟨#[116,101,120,116,95,115,116,114,101,97,109]⟩
def pastS:ByteArray:=⟨#[112,97,115,116,95,101,110,100,95,111,102,95,115,116,114,101,97,109]⟩
abbrev perT (s u:ByteArray) (n:Int):Tm:=ofT permS [atomT s,atomT u,handT n]
def FSt.rdErr (φ:FSt) (n:Int) (bin:Bool):Option Tm:=match φ.get n with
 |none=>some (noStrT n)
 |some s=>if s.mode≠1 then some (perT inS strS n) else if s.bin=true∧bin=false then some (perT inS binS n) else if s.bin=false∧bin=true then some (perT inS textS n) else if s.en=2∧s.eof=1 then some (perT inS pastS n) else none
theorem zpr:isIface Tryz.prog 47=true:=by kernel_rfl
theorem z2e {H:Heap}{x y:Operand}{T:TypeId}{v:Value}:dBin Tryz.prog .neq 47 x y (.iface T v) .nilIface H=some (.val (.bool true) H):=by
 simp only[dBin,dnil,zpr,nilEq,if_true]
theorem z0w {n:Nat}{H:Heap}:dBin Tryz.prog .neq 47 (.tmp n) (.const .nilIface) .nilIface .nilIface H=some (.val (.bool false) H):=by kernel_rfl
theorem zps {n:Nat}{H:Heap}:dBin Tryz.prog .eql 47 (.tmp n) (.const .nilIface) .nilIface .nilIface H=some (.val (.bool true) H):=by kernel_rfl
set_option maxHeartbeats 4000000 in
theorem z93 {H:Heap}{B:Nat→Prop}{p fb ob:Nat}{blk:Int→Nat}{φ:FSt}{n:Int}{bin:Bool}(h:FsB H B p fb ob blk φ) (hw:H.wf) (hn:i64 n) :
  EvF Tryz.prog okT 58 [ptrV p,.int .i64 n,.bool bin] H fun v H'=>(φ.rdErr n bin=none∧v=.tuple ⟨[ptrV (blk n),.nilIface]⟩∧H'=H)∨(∃t e,φ.rdErr n bin=some t∧v=.tuple ⟨[.pointer none,e]⟩∧HX H H'∧ThrR H' t e):=by
 refine EvF.enter rfl Tryz.func58 (by decide) rfl ?_
 repeat' (first|refine EvC.seq ?_|(refine EvC.reg ?_;simp (config := { maxSteps := 2000000 }) (disch:=first|omega|rfl) only[sB,initTm,Za,Zb,reduceCtorEq,cl51]))
 refine(z5v h hw hn).mono ?_;rintro v H1 (⟨s,hg,rfl,rfl⟩|⟨hg,e,rfl,hx1,he⟩)
 ·have qs:=z2r (h.strm hg);obtain⟨sid,sf,sm,sb,sa,se,sr,sp,sl,sn,sc⟩:=s;simp only at qs;have hR:φ.rdErr n bin=if sm≠1 then some (perT inS strS n) else if sb=true∧bin=false then some (perT inS binS n) else if sb=false∧bin=true then some (perT inS textS n) else if sn=2∧se=1 then some (perT inS pastS n) else none:=by
   unfold FSt.rdErr;rw[hg]
  by_cases hm:sm=1
  ·cases sb<;>cases bin
   ·by_cases h2:sn=2
    ·by_cases h1:se=1
     ·repeat' (first|refine EvC.seq ?_|refine EvC.block ?_|(refine EvC.reg ?_;simp (config := { maxSteps := 2000000 }) (disch:=first|omega|rfl) only[sB,Za,reduceCtorEq,z0l,z0o,ld3,cl52,cl47,z1x,ld4,z1w,z7j,z0w,qs,z01,z04,z17 hm,z19 h2,z19 h1,Zm,Zc])|(refine z08 ?_;simp (config := { maxSteps := 2000000 }) (disch:=first|omega|rfl) only[sB,Za,reduceCtorEq])|(refine EvC.condT ?_ ?_;simp (config := { maxSteps := 2000000 }) (disch:=first|omega|rfl) only[sB,Za,reduceCtorEq];refine z02 ?_)|(refine EvC.condF ?_ ?_;simp (config := { maxSteps := 2000000 }) (disch:=first|omega|rfl) only[sB,Za,reduceCtorEq];refine z02 ?_))
      refine(z1t hw hn).mono ?_;rintro v H2 ⟨hx2,cs,rfl,r2⟩
      skip
      refine(z0q hx2.wf (s:=inS) (u:=pastS) (by simp [inS,maxLen,Zf]) (by simp [pastS,maxLen,Zf]) r2).mono ?_;rintro v H3 ⟨hx3,ht⟩
      repeat' (first|(refine EvC.ret ?_;try simp only[z05,z03]))
      exact z09 rfl (by simp only[sG,Za,reduceCtorEq]) (by simp only[sG,Za,reduceCtorEq]) (.inr ⟨_,_,by rw[hR];simp [hm,h2,h1];rfl,rfl,hx2.trans hx3,ht⟩)
     ·repeat' (first|refine EvC.seq ?_|refine EvC.block ?_|(refine EvC.skip ?_;try simp only[sA])|(refine EvC.ret ?_)|(refine EvC.reg ?_;simp (config := { maxSteps := 2000000 }) (disch:=first|omega|rfl) only[sB,Za,reduceCtorEq,z0l,z0o,ld3,z1x,ld4,z1w,z7j,z0w,qs,z01,z04,z17 hm,z19 h2,z0r h1,Zm,Zc])|(refine z08 ?_;simp (config := { maxSteps := 2000000 }) (disch:=first|omega|rfl) only[sB,Za,reduceCtorEq])|(refine EvC.condF ?_ ?_;simp (config := { maxSteps := 2000000 }) (disch:=first|omega|rfl) only[sB,Za,reduceCtorEq];refine z02 ?_))
      exact z09 rfl (by simp only[sG,Za,reduceCtorEq]) (by simp only[sG,Za,reduceCtorEq]) (.inl ⟨by rw[hR];simp [hm,h1],rfl,rfl⟩)
    ·repeat' (first|refine EvC.seq ?_|refine EvC.block ?_|(refine EvC.skip ?_;try simp only[sA])|(refine EvC.ret ?_)|(refine EvC.reg ?_;simp (config := { maxSteps := 2000000 }) (disch:=first|omega|rfl) only[sB,Za,reduceCtorEq,z0l,z0o,ld3,z1x,ld4,z1w,z0w,qs,z01,z04,z17 hm,z0r h2,Zm,Zc])|(refine z08 ?_;simp (config := { maxSteps := 2000000 }) (disch:=first|omega|rfl) only[sB,Za,reduceCtorEq])|(refine EvC.condF ?_ ?_;simp (config := { maxSteps := 2000000 }) (disch:=first|omega|rfl) only[sB,Za,reduceCtorEq];refine z02 ?_))
     exact z09 rfl (by simp only[sG,Za,reduceCtorEq]) (by simp only[sG,Za,reduceCtorEq]) (.inl ⟨by rw[hR];simp [hm,h2],rfl,rfl⟩)
   ·repeat' (first|refine EvC.seq ?_|refine EvC.block ?_|(refine EvC.reg ?_;simp (config := { maxSteps := 2000000 }) (disch:=first|omega|rfl) only[sB,Za,reduceCtorEq,z0l,z0o,ld3,cl52,cl47,z1x,ld4,z0w,qs,z01,z04,z17 hm,Zm,Zc])|(refine z08 ?_;simp (config := { maxSteps := 2000000 }) (disch:=first|omega|rfl) only[sB,Za,reduceCtorEq])|(refine EvC.condT ?_ ?_;simp (config := { maxSteps := 2000000 }) (disch:=first|omega|rfl) only[sB,Za,reduceCtorEq];refine z02 ?_)|(refine EvC.condF ?_ ?_;simp (config := { maxSteps := 2000000 }) (disch:=first|omega|rfl) only[sB,Za,reduceCtorEq];refine z02 ?_))
    refine(z1t hw hn).mono ?_;rintro v H2 ⟨hx2,cs,rfl,r2⟩
    skip
    refine(z0q hx2.wf (s:=inS) (u:=textS) (by simp [inS,maxLen,Zf]) (by simp [textS,maxLen,Zf]) r2).mono ?_;rintro v H3 ⟨hx3,ht⟩
    repeat' (first|(refine EvC.ret ?_;try simp only[z05,z03]))
    exact z09 rfl (by simp only[sG,Za,reduceCtorEq]) (by simp only[sG,Za,reduceCtorEq]) (.inr ⟨_,_,by rw[hR];simp [hm];rfl,rfl,hx2.trans hx3,ht⟩)
   ·repeat' (first|refine EvC.seq ?_|refine EvC.block ?_|(refine EvC.reg ?_;simp (config := { maxSteps := 2000000 }) (disch:=first|omega|rfl) only[sB,Za,reduceCtorEq,z0l,z0o,ld3,cl52,cl47,z1x,ld4,z0w,qs,z01,z04,z17 hm,Zm])|(refine z08 ?_;simp (config := { maxSteps := 2000000 }) (disch:=first|omega|rfl) only[sB,Za,reduceCtorEq])|(refine EvC.condT ?_ ?_;simp (config := { maxSteps := 2000000 }) (disch:=first|omega|rfl) only[sB,Za,reduceCtorEq];refine z02 ?_)|(refine EvC.condF ?_ ?_;simp (config := { maxSteps := 2000000 }) (disch:=first|omega|rfl) only[sB,Za,reduceCtorEq];refine z02 ?_))
    refine(z1t hw hn).mono ?_;rintro v H2 ⟨hx2,cs,rfl,r2⟩
    skip
    refine(z0q hx2.wf (s:=inS) (u:=binS) (by simp [inS,maxLen,Zf]) (by simp [binS,maxLen,Zf]) r2).mono ?_;rintro v H3 ⟨hx3,ht⟩
    repeat' (first|(refine EvC.ret ?_;try simp only[z05,z03]))
    exact z09 rfl (by simp only[sG,Za,reduceCtorEq]) (by simp only[sG,Za,reduceCtorEq]) (.inr ⟨_,_,by rw[hR];simp [hm];rfl,rfl,hx2.trans hx3,ht⟩)
   ·by_cases h2:sn=2
    ·by_cases h1:se=1
     ·repeat' (first|refine EvC.seq ?_|refine EvC.block ?_|(refine EvC.reg ?_;simp (config := { maxSteps := 2000000 }) (disch:=first|omega|rfl) only[sB,Za,reduceCtorEq,z0l,z0o,ld3,cl52,cl47,z1x,ld4,z1w,z7j,z0w,qs,z01,z04,z17 hm,z19 h2,z19 h1,Zn,Zc])|(refine z08 ?_;simp (config := { maxSteps := 2000000 }) (disch:=first|omega|rfl) only[sB,Za,reduceCtorEq])|(refine EvC.condT ?_ ?_;simp (config := { maxSteps := 2000000 }) (disch:=first|omega|rfl) only[sB,Za,reduceCtorEq];refine z02 ?_)|(refine EvC.condF ?_ ?_;simp (config := { maxSteps := 2000000 }) (disch:=first|omega|rfl) only[sB,Za,reduceCtorEq];refine z02 ?_))
      refine(z1t hw hn).mono ?_;rintro v H2 ⟨hx2,cs,rfl,r2⟩
      skip
      refine(z0q hx2.wf (s:=inS) (u:=pastS) (by simp [inS,maxLen,Zf]) (by simp [pastS,maxLen,Zf]) r2).mono ?_;rintro v H3 ⟨hx3,ht⟩
      repeat' (first|(refine EvC.ret ?_;try simp only[z05,z03]))
      exact z09 rfl (by simp only[sG,Za,reduceCtorEq]) (by simp only[sG,Za,reduceCtorEq]) (.inr ⟨_,_,by rw[hR];simp [hm,h2,h1];rfl,rfl,hx2.trans hx3,ht⟩)
     ·repeat' (first|refine EvC.seq ?_|refine EvC.block ?_|(refine EvC.skip ?_;try simp only[sA])|(refine EvC.ret ?_)|(refine EvC.reg ?_;simp (config := { maxSteps := 2000000 }) (disch:=first|omega|rfl) only[sB,Za,reduceCtorEq,z0l,z0o,ld3,z1x,ld4,z1w,z7j,z0w,qs,z01,z04,z17 hm,z19 h2,z0r h1,Zn,Zc])|(refine z08 ?_;simp (config := { maxSteps := 2000000 }) (disch:=first|omega|rfl) only[sB,Za,reduceCtorEq])|(refine EvC.condF ?_ ?_;simp (config := { maxSteps := 2000000 }) (disch:=first|omega|rfl) only[sB,Za,reduceCtorEq];refine z02 ?_))
      exact z09 rfl (by simp only[sG,Za,reduceCtorEq]) (by simp only[sG,Za,reduceCtorEq]) (.inl ⟨by rw[hR];simp [hm,h1],rfl,rfl⟩)
    ·repeat' (first|refine EvC.seq ?_|refine EvC.block ?_|(refine EvC.skip ?_;try simp only[sA])|(refine EvC.ret ?_)|(refine EvC.reg ?_;simp (config := { maxSteps := 2000000 }) (disch:=first|omega|rfl) only[sB,Za,reduceCtorEq,z0l,z0o,ld3,z1x,ld4,z1w,z0w,qs,z01,z04,z17 hm,z0r h2,Zn,Zc])|(refine z08 ?_;simp (config := { maxSteps := 2000000 }) (disch:=first|omega|rfl) only[sB,Za,reduceCtorEq])|(refine EvC.condF ?_ ?_;simp (config := { maxSteps := 2000000 }) (disch:=first|omega|rfl) only[sB,Za,reduceCtorEq];refine z02 ?_))
     exact z09 rfl (by simp only[sG,Za,reduceCtorEq]) (by simp only[sG,Za,reduceCtorEq]) (.inl ⟨by rw[hR];simp [hm,h2],rfl,rfl⟩)
  ·repeat' (first|refine EvC.seq ?_|refine EvC.block ?_|(refine EvC.reg ?_;simp (config := { maxSteps := 2000000 }) (disch:=first|omega|rfl) only[sB,Za,reduceCtorEq,z0l,z0o,ld3,cl52,cl47,z0w,qs,z01,z04,z3i hm])|(refine z08 ?_;simp (config := { maxSteps := 2000000 }) (disch:=first|omega|rfl) only[sB,Za,reduceCtorEq])|(refine EvC.condT ?_ ?_;simp (config := { maxSteps := 2000000 }) (disch:=first|omega|rfl) only[sB,Za,reduceCtorEq];refine z02 ?_)|(refine EvC.condF ?_ ?_;simp (config := { maxSteps := 2000000 }) (disch:=first|omega|rfl) only[sB,Za,reduceCtorEq];refine z02 ?_))
   refine(z1t hw hn).mono ?_;rintro v H2 ⟨hx2,cs,rfl,r2⟩
   skip
   refine(z0q hx2.wf (s:=inS) (u:=strS) (by simp [inS,maxLen,Zf]) (by simp [strS,maxLen,Zf]) r2).mono ?_;rintro v H3 ⟨hx3,ht⟩
   repeat' (first|(refine EvC.ret ?_;try simp only[z05,z03]))
   exact z09 rfl (by simp only[sG,Za,reduceCtorEq]) (by simp only[sG,Za,reduceCtorEq]) (.inr ⟨_,_,by rw[hR];simp [hm];rfl,rfl,hx2.trans hx3,ht⟩)
 ·obtain⟨eb,ecs,rfl,-⟩:=id he
  repeat' (first|refine EvC.seq ?_|refine EvC.block ?_|(refine EvC.ret ?_;try simp only[z05,z03])|(refine EvC.reg ?_;simp (config := { maxSteps := 2000000 }) (disch:=first|omega|rfl) only[sB,Za,reduceCtorEq,z2e])|(refine z08 ?_;simp (config := { maxSteps := 2000000 }) (disch:=first|omega|rfl) only[sB,Za,reduceCtorEq])|(refine EvC.condT ?_ ?_;simp (config := { maxSteps := 2000000 }) (disch:=first|omega|rfl) only[sB,Za,reduceCtorEq];refine z02 ?_))
  exact z09 rfl (by simp only[sG,Za,reduceCtorEq]) (by simp only[sG,Za,reduceCtorEq]) (.inr ⟨_,_,by unfold FSt.rdErr;rw[hg],rfl,hx1,he⟩)
def FSt.setS (φ:FSt) (n:Int) (s:Strm):FSt:={ φ with opens:=φ.opens.map fun o=>if o.1=n then (n,s) else o }
theorem z3v (φ:FSt) (n:Int) (s:Strm):(φ.setS n s).opens.map (·.1)=φ.opens.map (·.1):=by
 unfold FSt.setS;simp only[ZJ];refine List.map_congr_left fun o _=>?_
 simp only[Function.comp];split
 ·rename_i h;exact h.symm
 ·rfl
theorem z7t (φ:FSt) (n m:Int) (s:Strm):(φ.setS n s).get m=if m=n then (φ.get m).map fun _=>s else φ.get m:=by
 unfold FSt.setS FSt.get;simp only;generalize φ.opens=l
 induction l with
 |nil=>simp
 |cons o l ih =>
  obtain⟨a,r⟩:=o;rw[Zs,ZH,ZH];by_cases ha:a=n
  ·subst ha;by_cases hm:m=a
   ·subst hm;simp
   ·have hb:(a == m)=false:=by simp;exact fun h=>hm h.symm
    simp only[if_true,hb];rw[ih]
  ·simp only[if_neg ha];by_cases hm:a=m
   ·subst hm;simp [ha]
   ·have hb:(a == m)=false:=by simp [hm]
    simp only[hb];exact ih
def Hy (B:Nat→Prop) (H H':Heap):Prop:=H'.wf∧H.next≤H'.next∧∀i,i < H.next→¬B i→H'.get i=H.get i
theorem Hy.of {B:Nat→Prop}{H H':Heap}(h:HX H H'):Hy B H H':=⟨h.wf,h.next,fun i hi _=>h.keep i hi⟩
theorem Hy.trans {B:Nat→Prop}{H H1 H2:Heap}(h:Hy B H H1) (k:Hy B H1 H2):Hy B H H2:=⟨k.1,ZA h.2.1 k.2.1,fun i hi hb=>(k.2.2 i (Zt hi h.2.1) hb).trans (h.2.2 i hi hb)⟩
theorem Hy.put {B:Nat→Prop}{H:Heap}(hw:H.wf) {i:Nat}{B0:Blk}(hi:B i) (hg:H.get i=some B0) (X:Option Blk):Hy B H (H.put i X) :=
 ⟨(HX.pt (A:=⟨0,H.t⟩) ⟨Zz _,fun _ h=>absurd h (Nat.not_lt_zero _),hw⟩ (Zz _) hg X).wf,by rw[z1b];exact Ze _,fun j _ hb=>by rw[get_put,if_neg (fun e=>hb (by rw[e];exact hi))]⟩
theorem Hy.hx {B:Nat→Prop}{A H H':Heap}(h:Hy B H H') (hx:HX A H) (ha:∀i,i < A.next→¬B i):HX A H' :=
 ⟨ZA hx.next h.2.1,fun i hi=>(h.2.2 i (Zt hi hx.next) (ha i hi)).trans (hx.keep i hi),h.1⟩
theorem Hy.get {B:Nat→Prop}{H H':Heap}(h:Hy B H H') (hw:H.wf) {i:Nat}{X:Blk}(hg:H.get i=some X) (hb:¬B i):H'.get i=some X:=(h.2.2 i (hw _ _ hg) hb).trans hg
theorem FsB.turn {H:Heap}{B:Nat→Prop}{p fb ob:Nat}{blk:Int→Nat}{φ:FSt}(h:FsB H B p fb ob blk φ) {n:Int}{s s':Strm}(hg:φ.get n=some s):FsB (H.put (blk n) (some (.row s'.row 82))) B p fb ob blk (φ.setS n s'):=by
 have hs:=h.strm hg;have n1:p≠blk n:=fun e=>by have:=h.obj;rw[e,hs] at this;simp at this
 have n2:fb≠blk n:=fun e=>by obtain⟨es,c,hm,-⟩:=h.fm;rw[e,hs] at hm;cases hm
 have n3:ob≠blk n:=fun e=>by obtain⟨es,c,hm,-⟩:=h.om;rw[e,hs] at hm;cases hm
 have hk:∀i,i≠blk n→(H.put (blk n) (some (.row s'.row 82))).get i=H.get i:=fun i hi=>by rw[get_put,if_neg hi]
 have hmem:∀o∈(φ.setS n s').opens,(o=(n,s'))∨(o∈φ.opens∧o.1≠n):=fun o ho=>by
  unfold FSt.setS at ho;obtain⟨o',ho',rfl⟩:=List.mem_map.1 ho;split
  ·exact .inl rfl
  ·rename_i hne;exact .inr ⟨ho',hne⟩
 have hmem':∀o∈(φ.setS n s').opens,∃o'∈φ.opens,o'.1=o.1:=fun o ho=>by
  rcases hmem o ho with rfl|⟨h1,-⟩
  ·exact⟨_,z1q hg,rfl⟩
  ·exact⟨o,h1,rfl⟩
 refine⟨(hk p n1).trans h.obj,h.fm.heap (hk fb n2),?_,h.bo.heap (hk ob n3),fun o ho=>?_,by rw[z3v];exact h.nd,fun o ho o' ho' e=>?_,h.lp,h.lf,h.lo,fun o ho=>?_,h.fo,h.bf.heap (hk fb n2),h.fd⟩
 ·have e:(φ.setS n s').opens.map (fun o=>(o.1,ptrV (blk o.1)))=φ.opens.map fun o=>(o.1,ptrV (blk o.1)):=by
   have:=congrArg (List.map fun i=>(i,ptrV (blk i))) (z3v φ n s');simpa only[ZJ,Function.comp_def] using this
  rw[e];exact h.om.heap (hk ob n3)
 ·rcases hmem o ho with rfl|⟨h1,h2⟩
  ·rw[get_put,if_pos rfl]
  ·rw[hk _ fun e=>h2 (h.inj _ h1 _ (z1q hg) e)];exact h.st o h1
 ·obtain⟨a,ha,ea⟩:=hmem' o ho;obtain⟨b,hb,eb⟩:=hmem' o' ho';rw[←ea,←eb] at e ⊢;exact h.inj a ha b hb e
 ·obtain⟨a,ha,ea⟩:=hmem' o ho;rw[←ea];exact h.lb a ha
theorem zoa {H:Heap}{s:ByteArray}(h0:0 < s.size) (hw:H.wf):EvF Tryz.prog okT 57 [.string s] H fun v H'=>v=.tuple ⟨[.int .i64 (byteAt s 0:Nat),.int .i64 1]⟩∧H'=H:=by
 have hb:(byteAt s 0:Nat) < 256:=z3f s 0;have hw1:IntKind.i64.wrap ((byteAt s 0:Nat):Int)=((byteAt s 0:Nat):Int):=z0e (by omega) (by omega);have hi:=fun (k:IntKind)=>ix9 (s:=s) (k:=k) (i:=0) (H:=H) h0
 simp only[Int.natCast_zero,Int.cast_ofNat_Int] at hi;refine EvF.enter rfl Tryz.func57 (by decide) rfl ?_
 repeat' (first|refine EvC.seq ?_|(refine EvC.ret ?_)|(refine EvC.reg ?_;simp (config := { maxSteps := 2000000 }) (disch:=first|omega|rfl) only[sB,initTm,Za,reduceCtorEq,z4h,hi,hw1]))
 exact z09 rfl (by simp only[sG,Za,reduceCtorEq]) (by simp only[sG,Za,reduceCtorEq]) ⟨rfl,rfl⟩
def reprS:ByteArray:=⟨#[114,101,112,114,101,115,101,110,116,97,116,105,111,110,95,101,114,114,111,114]⟩
def charS:ByteArray:=⟨#[99,104,97,114,97,99,116,101,114]⟩
def reprT:Tm:=ofT reprS [atomT charS]
def FSt.readR (φ:FSt) (n:Int) (bin peek:Bool) (cut:ByteArray→Int × Int):Int × Option Tm × FSt:=match φ.rdErr n bin,φ.get n with
 |some t,_=>(0,some t,φ)
 |none,none=>(0,none,φ)
 |none,some s =>
  let r:=(φ.data s).extract s.pos.toNat (φ.data s).size
  if r.size=0 then (-1,none,if peek then φ else φ.setS n { s with en:=2 })
  else if (cut r).2=0 then (0,some reprT,φ)
  else ((cut r).1,none,if peek then φ else φ.setS n { s with pos:=s.pos+(cut r).2 })
def ErrR (H:Heap):Option Tm→Value→Prop
 |none,e=>e=.nilIface
 |some t,e=>ThrR H t e
theorem zlo {H:Heap}{t:TypeId}{x y:Operand}{a:ByteArray}(h:a.size=0):dBin Tryz.prog .eql t x y (.string a) (.string ⟨#[]⟩) H=some (.val (.bool true) H):=by
 rw[z7r,decide_eq_true h]
theorem zlp {H:Heap}{t:TypeId}{x y:Operand}{a:ByteArray}(h:a.size≠0):dBin Tryz.prog .eql t x y (.string a) (.string ⟨#[]⟩) H=some (.val (.bool false) H):=by
 rw[z7r,decide_eq_false h]
theorem z94 {φ:FSt}{n:Int}{bin:Bool}(h:φ.rdErr n bin=none):∃s,φ.get n=some s:=by
 unfold FSt.rdErr at h;cases hg:φ.get n with
 |none=>rw[hg] at h;cases h
 |some s=>exact⟨s,rfl⟩
set_option maxHeartbeats 4000000 in
theorem zjl {H:Heap}{B:Nat→Prop}{p fb ob:Nat}{blk:Int→Nat}{φ:FSt}{n:Int}{bin peek:Bool}{g:FuncId}{cut:ByteArray→Int × Int}(h:FsB H B p fb ob blk φ) (hw:H.wf) (hn:i64 n)
  (hp:∀s,φ.get n=some s→0≤s.pos∧s.pos≤((φ.data s).size:Int)∧(φ.data s).size≤maxLen) (hg:callable Tryz.prog g=true)
  (hc:∀(H1:Heap) (r:ByteArray),H1.wf→0 < r.size→r.size≤maxLen→0≤(cut r).2∧(cut r).2≤r.size∧EvF Tryz.prog okT g [.string r] H1 fun v H'=>v=.tuple ⟨[.int .i64 (cut r).1,.int .i64 (cut r).2]⟩∧HX H1 H') :
  EvF Tryz.prog okT 53 [ptrV p,.int .i64 n,.bool bin,.bool peek,.func (.func g) #[] #[]] H fun v H'=>∃e,v=.tuple ⟨[.int .i64 (φ.readR n bin peek cut).1,e]⟩∧Hy B H H'∧ErrR H' (φ.readR n bin peek cut).2.1 e∧FsB H' B p fb ob blk (φ.readR n bin peek cut).2.2:=by
 refine EvF.enter rfl Tryz.func53 (by decide) rfl ?_
 repeat' (first|refine EvC.seq ?_|(refine EvC.reg ?_;simp (config := { maxSteps := 2000000 }) (disch:=first|omega|rfl) only[sB,initTm,Za,Zb,reduceCtorEq,cl58]))
 refine(z93 h hw hn).mono ?_;rintro v H1 (⟨hr,rfl,rfl⟩|⟨t,e,hr,rfl,hx1,he⟩)
 ·obtain⟨s,hs⟩:=z94 hr;obtain⟨hp0,hp1,hp2⟩:=hp s hs;have hR:φ.readR n bin peek cut=(let r:=(φ.data s).extract s.pos.toNat (φ.data s).size
   if r.size=0 then (-1,none,if peek then φ else φ.setS n { s with en:=2 })
   else if (cut r).2=0 then (0,some reprT,φ)
   else ((cut r).1,none,if peek then φ else φ.setS n { s with pos:=s.pos+(cut r).2 })):=by unfold FSt.readR;rw[hr,hs]
  have hrow:=h.strm hs
  repeat' (first|refine EvC.seq ?_|(refine EvC.skip ?_;try simp only[z00])|(refine EvC.reg ?_;simp (config := { maxSteps := 2000000 }) (disch:=first|omega|rfl) only[sB,Za,reduceCtorEq,z0w])|(refine EvC.drw [([(0,0),(1,0)],some 2),([(3,0),(4,0),(5,0),(6,0),(7,0),(8,1),(9,1)],none)] ?_ ?_;kernel_rfl;simp (config := { maxSteps := 2000000 }) (disch:=first|omega|rfl) only[sD,sB,Za,Zb,reduceCtorEq,cl59,isAlloc,isRead])|(refine z08 ?_;simp (config := { maxSteps := 2000000 }) (disch:=first|omega|rfl) only[sB,Za,reduceCtorEq])|(refine EvC.condF ?_ ?_;simp (config := { maxSteps := 2000000 }) (disch:=first|omega|rfl) only[sB,Za,reduceCtorEq];refine z02 ?_))
  have hb:=(HX.refl hw).bump 10;refine(z92 (h.keep hb hw) hb.wf (hb.get hw hrow)).mono ?_;rintro v H2 ⟨rfl,hx2⟩;have hx12:=hb.trans hx2;have w2:=hx2.wf;have h2:=h.keep hx12 hw;have qs:=z2r (hx12.get hw hrow);have qb:=z2r (hb.get hw hrow);generalize hd:φ.data s=d at *;obtain⟨sid,sf,sm,sb,sa,se,sr,sp,sl,sn,sc⟩:=s;simp only at qs qb hp0 hp1 hR;obtain⟨l,rfl⟩:=Int.eq_ofNat_of_zero_le hp0;have hl:l≤d.size:=by omega
  have hsl:=fun G=>zhh (P:=Tryz.prog) (H:=G) (k:=.i64) us9 hl
  rw[Int.toNat_natCast] at hR;generalize hre:d.extract l d.size=r at *;have hrs:r.size=d.size - l:=by rw[←hre,ByteArray.size_extract];omega
  by_cases h0:r.size=0
  ·have hbe:=fun G t x y=>zlo (H:=G) (t:=t) (x:=x) (y:=y) h0
   rw[if_pos h0] at hR;cases peek
   ·have g2:=h2.strm hs
    repeat' (first|refine EvC.seq ?_|(refine EvC.ret ?_;try simp only[z05,z03])|(refine EvC.reg ?_;simp (config := { maxSteps := 2000000 }) (disch:=first|omega|rfl) only[sB,Za,Zb,one,reduceCtorEq,Zh,z0l,z1w,st3,g2,z01,z04,hbe,Zm])|(refine z2t ?_;simp (config := { maxSteps := 2000000 }) (disch:=first|omega|rfl) only[sV,sD,sB,Za,reduceCtorEq,z0l,z1c,ld3,qs,qb,z01,z04,hsl,isAlloc,isRead])|(refine EvC.condT ?_ ?_;simp (config := { maxSteps := 2000000 }) (disch:=first|omega|rfl) only[sB,Za,reduceCtorEq];refine z02 ?_))
    exact z09 rfl (by simp only[sB,Za,reduceCtorEq];rfl) (by simp only[sB,Za,reduceCtorEq];rfl) ⟨_,by rw[hR],(Hy.of hx12).trans (Hy.put w2 (h2.lb _ (z1q hs)) (h2.strm hs) _),by rw[hR];rfl,by rw[hR];exact h2.turn (s':=⟨sid,sf,sm,sb,sa,se,sr,l,sl,2,sc⟩) hs⟩
   ·repeat' (first|refine EvC.seq ?_|(refine EvC.skip ?_;try simp only[z00])|(refine EvC.ret ?_;try simp only[z05,z03])|(refine EvC.reg ?_;simp (config := { maxSteps := 2000000 }) (disch:=first|omega|rfl) only[sB,Za,reduceCtorEq,hbe,Zn])|(refine z2t ?_;simp (config := { maxSteps := 2000000 }) (disch:=first|omega|rfl) only[sV,sD,sB,Za,reduceCtorEq,z0l,z1c,ld3,qs,qb,z01,z04,hsl,isAlloc,isRead])|(refine EvC.condT ?_ ?_;simp (config := { maxSteps := 2000000 }) (disch:=first|omega|rfl) only[sB,Za,reduceCtorEq];refine z02 ?_)|(refine EvC.condF ?_ ?_;simp (config := { maxSteps := 2000000 }) (disch:=first|omega|rfl) only[sB,Za,reduceCtorEq];refine z02 ?_))
    exact z09 rfl (by simp only[sB,Za,reduceCtorEq];rfl) (by simp only[sB,Za,reduceCtorEq];rfl) ⟨_,by rw[hR],Hy.of hx12,by rw[hR];rfl,by rw[hR];exact h2⟩
  ·have hbe:=fun G t x y=>zlp (H:=G) (t:=t) (x:=x) (y:=y) h0
   obtain⟨c0,c1,c2⟩:=hc H2 r w2 (by omega) (by omega);rw[if_neg h0] at hR
   repeat' (first|refine EvC.seq ?_|(refine EvC.skip ?_;try simp only[z00])|(refine EvC.reg ?_;simp (config := { maxSteps := 2000000 }) (disch:=first|omega|rfl) only[sB,Za,reduceCtorEq,hbe,zix,ze1 hg])|(refine z2t ?_;simp (config := { maxSteps := 2000000 }) (disch:=first|omega|rfl) only[sV,sD,sB,Za,reduceCtorEq,z0l,z1c,ld3,qs,qb,z01,z04,hsl,isAlloc,isRead])|(refine EvC.condF ?_ ?_;simp (config := { maxSteps := 2000000 }) (disch:=first|omega|rfl) only[sB,Za,reduceCtorEq];refine z02 ?_))
   refine c2.mono ?_;rintro v H3 ⟨rfl,hx3⟩;have hx13:=hx12.trans hx3;have w3:=hx3.wf;have h3:=h2.keep hx3 w2;have q3:=z2r (hx13.get hw hrow);simp only at q3;generalize hcu:cut r=cr at *;obtain⟨cc,ck⟩:=cr;simp only at c0 c1 hR;by_cases hk0:ck=0
   ·rw[if_pos hk0] at hR
    repeat' (first|refine EvC.seq ?_|(refine EvC.reg ?_;simp (config := { maxSteps := 2000000 }) (disch:=first|omega|rfl) only[sB,Za,Zb,Value.cells,reduceCtorEq,layC,cl49,z2y,z19 hk0])|(refine z08 ?_;simp (config := { maxSteps := 2000000 }) (disch:=first|omega|rfl) only[sB,Za,reduceCtorEq])|(refine EvC.condT ?_ ?_;simp (config := { maxSteps := 2000000 }) (disch:=first|omega|rfl) only[sB,Za,reduceCtorEq];refine z02 ?_))
    refine(z2f w3 (s:=charS) (by simp [charS,maxLen,Zf])).mono ?_;rintro v H4 ⟨rfl,hx4,-⟩;obtain⟨H5,e5,hx5,g5,n5,w5⟩:=new1 hx4.wf (.row (six (atomT charS) none 0) 88)
    repeat' (first|(refine z08 ?_;simp (config := { maxSteps := 2000000 }) (disch:=first|omega|rfl) only[sB,Za,Zb,one,reduceCtorEq,cl48,cl50,e5]))
    refine(z6h (s:=reprS) w5).mono ?_;rintro v H6 ⟨rfl,hx6,-⟩;have rt:=z4n (H:=H6) (s:=reprS) (t:=atomT charS) (by simp [reprS,maxLen,Zf]) (z1n (by simp [charS,maxLen,Zf])) (hx6.get w5 g5)
    skip
    refine(z2v hx6.wf rt).mono ?_;rintro v H7 ⟨hx7,ht⟩
    repeat' (first|(refine EvC.ret ?_;try simp only[z05,z03]))
    have hxe:=(((hx13.trans hx4).trans hx5).trans hx6).trans hx7;exact z09 rfl (by simp only[sB,Za,reduceCtorEq];rfl) (by simp only[sB,Za,reduceCtorEq];rfl) ⟨_,by rw[hR],Hy.of hxe,by rw[hR];exact ht,by rw[hR];exact h.keep hxe hw⟩
   ·rw[if_neg hk0] at hR;have hwr:IntKind.i64.wrap ((l:Int)+ck)=(l:Int)+ck:=z0e (by omega) (by have:maxLen=9223372036854775807:=rfl;omega);cases peek
    ·have g2:=h3.strm hs
     repeat' (first|refine EvC.seq ?_|(refine EvC.skip ?_;try simp only[z00])|(refine EvC.ret ?_)|(refine EvC.reg ?_;simp (config := { maxSteps := 2000000 }) (disch:=first|omega|rfl) only[sB,Za,Zb,one,reduceCtorEq,Zh,z0l,z1c,ld3,st3,q3,g2,z0r hk0,z01,z04,hwr,Zm])|(refine z08 ?_;simp (config := { maxSteps := 2000000 }) (disch:=first|omega|rfl) only[sB,Za,reduceCtorEq])|(refine EvC.condT ?_ ?_;simp (config := { maxSteps := 2000000 }) (disch:=first|omega|rfl) only[sB,Za,reduceCtorEq];refine z02 ?_)|(refine EvC.condF ?_ ?_;simp (config := { maxSteps := 2000000 }) (disch:=first|omega|rfl) only[sB,Za,reduceCtorEq];refine z02 ?_))
     exact z09 rfl (by simp only[sB,Za,reduceCtorEq];rfl) (by simp only[sB,Za,reduceCtorEq];rfl) ⟨_,by rw[hR],(Hy.of hx13).trans (Hy.put w3 (h3.lb _ (z1q hs)) (h3.strm hs) _),by rw[hR];rfl,by rw[hR];exact h3.turn (s':=⟨sid,sf,sm,sb,sa,se,sr,l+ck,sl,sn,sc⟩) hs⟩
    ·repeat' (first|refine EvC.seq ?_|(refine EvC.skip ?_;try simp only[z00])|(refine EvC.ret ?_)|(refine EvC.reg ?_;simp (config := { maxSteps := 2000000 }) (disch:=first|omega|rfl) only[sB,Za,reduceCtorEq,z0r hk0,Zn])|(refine z08 ?_;simp (config := { maxSteps := 2000000 }) (disch:=first|omega|rfl) only[sB,Za,reduceCtorEq])|(refine EvC.condF ?_ ?_;simp (config := { maxSteps := 2000000 }) (disch:=first|omega|rfl) only[sB,Za,reduceCtorEq];refine z02 ?_))
     exact z09 rfl (by simp only[sB,Za,reduceCtorEq];rfl) (by simp only[sB,Za,reduceCtorEq];rfl) ⟨_,by rw[hR],Hy.of hx13,by rw[hR];rfl,by rw[hR];exact h3⟩
 ·obtain⟨eb,ecs,rfl,-⟩:=id he;have hR:φ.readR n bin peek cut=(0,some t,φ):=by unfold FSt.readR;rw[hr]
  repeat' (first|refine EvC.seq ?_|(refine EvC.ret ?_;try simp only[z05,z03])|(refine EvC.reg ?_;simp (config := { maxSteps := 2000000 }) (disch:=first|omega|rfl) only[sB,Za,reduceCtorEq,z2e])|(refine z08 ?_;simp (config := { maxSteps := 2000000 }) (disch:=first|omega|rfl) only[sB,Za,reduceCtorEq])|(refine EvC.condT ?_ ?_;simp (config := { maxSteps := 2000000 }) (disch:=first|omega|rfl) only[sB,Za,reduceCtorEq];refine z02 ?_))
  exact z09 rfl (by simp only[sB,Za,reduceCtorEq];rfl) (by simp only[sB,Za,reduceCtorEq];rfl) ⟨_,by rw[hR],Hy.of hx1,by rw[hR];exact he,by rw[hR];exact h.keep hx1 hw⟩
def cutB (r:ByteArray):Int × Int:=((byteAt r 0:Nat),1)
theorem zjm {H:Heap}{B:Nat→Prop}{p fb ob:Nat}{blk:Int→Nat}{φ:FSt}{n:Int}{peek:Bool}(h:FsB H B p fb ob blk φ) (hw:H.wf) (hn:i64 n)
  (hp:∀s,φ.get n=some s→0≤s.pos∧s.pos≤((φ.data s).size:Int)∧(φ.data s).size≤maxLen) :
  EvF Tryz.prog okT 17 [ptrV p,.int .i64 n,.bool peek] H fun v H'=>∃e,v=.tuple ⟨[.int .i64 (φ.readR n true peek cutB).1,e]⟩∧Hy B H H'∧ErrR H' (φ.readR n true peek cutB).2.1 e∧FsB H' B p fb ob blk (φ.readR n true peek cutB).2.2:=by
 refine EvF.enter rfl Tryz.func17 (by decide) rfl ?_
 repeat' (first|refine EvC.seq ?_|(refine EvC.reg ?_;simp (config := { maxSteps := 2000000 }) (disch:=first|omega|rfl) only[sB,initTm,Za,Zb,reduceCtorEq,cl53]))
 refine(zjl (g:=57) (cut:=cutB) (peek:=peek) (bin:=true) h hw hn hp (by kernel_rfl) (fun H1 r w1 h0 hm=>⟨by simp [cutB],by simp only[cutB];omega,(zoa h0 w1).mono fun v H' q=>⟨q.1,by rw[q.2];exact HX.refl w1⟩⟩)).mono ?_;rintro v H1 ⟨e,rfl,k1,k2,k3⟩
 repeat' (first|(refine EvC.ret ?_)|(refine z08 ?_;simp (config := { maxSteps := 2000000 }) (disch:=first|omega|rfl) only[sB,Za,reduceCtorEq]))
 exact z09 rfl (by simp only[sG,Za,reduceCtorEq]) (by simp only[sG,Za,reduceCtorEq]) ⟨e,rfl,k1,k2,k3⟩
theorem z6k (φ:FSt) (n:Int) (s s':Strm):(φ.setS n s).setS n s'=φ.setS n s':=by
 unfold FSt.setS;simp only[ZJ,FSt.mk.injEq,true_and,and_true];refine List.map_congr_left fun o _=>?_
 simp only[Function.comp];by_cases h:o.1=n
 ·rw[if_pos h,if_pos rfl,if_pos h]
 ·simp only[if_neg h]
def repoS:ByteArray:=⟨#[114,101,112,111,115,105,116,105,111,110]⟩
def domS:ByteArray:=⟨#[100,111,109,97,105,110,95,101,114,114,111,114]⟩
def sposS:ByteArray:=⟨#[115,116,114,101,97,109,95,112,111,115,105,116,105,111,110]⟩
def domT (pos:Int):Tm:=ofT domS [atomT sposS,intT pos]
def FSt.seekR (φ:FSt) (n pos:Int):Option Tm × FSt:=match φ.get n with
 |none=>(some (noStrT n),φ)
 |some s=>if s.rep=false then (some (perT repoS strS n),φ) else if pos < 0∨((φ.data s).size:Int) < pos then (some (domT pos),φ) else (none,φ.setS n { s with pos:=pos,en:=0 })
set_option maxHeartbeats 4000000 in
theorem zjn {H:Heap}{B:Nat→Prop}{p fb ob:Nat}{blk:Int→Nat}{φ:FSt}{n pos:Int}(h:FsB H B p fb ob blk φ) (hw:H.wf) (hn:i64 n) (hpos:i64 pos) :
  EvF Tryz.prog okT 21 [ptrV p,.int .i64 n,.int .i64 pos] H fun e H'=>Hy B H H'∧ErrR H' (φ.seekR n pos).1 e∧FsB H' B p fb ob blk (φ.seekR n pos).2:=by
 refine EvF.enter rfl Tryz.func21 (by decide) rfl ?_
 repeat' (first|refine EvC.seq ?_|(refine EvC.reg ?_;simp (config := { maxSteps := 2000000 }) (disch:=first|omega|rfl) only[sB,initTm,Za,Zb,reduceCtorEq,cl51]))
 refine(z5v h hw hn).mono ?_;rintro v H1 (⟨s,hs,rfl,rfl⟩|⟨hs,e,rfl,hx1,he⟩)
 ·have hrow:=h.strm hs;have hR:φ.seekR n pos=if s.rep=false then (some (perT repoS strS n),φ) else if pos < 0∨((φ.data s).size:Int) < pos then (some (domT pos),φ) else (none,φ.setS n { s with pos:=pos,en:=0 }):=by unfold FSt.seekR;rw[hs]
  have hdat:=fun (G:Heap) (hx:HX H1 G)=>z92 (h.keep hx hw) hx.wf (hx.get hw hrow)
  generalize hd:φ.data s=d at *;obtain⟨sid,sf,sm,sb,sa,se,sr,sp,sl,sn,sc⟩:=s;have qs:=z2r hrow;simp only at qs hR;cases sr
  ·rw[if_pos rfl] at hR
   repeat' (first|refine EvC.seq ?_|(refine EvC.skip ?_;try simp only[z00])|(refine EvC.reg ?_;simp (config := { maxSteps := 2000000 }) (disch:=first|omega|rfl) only[sB,Za,reduceCtorEq,z0l,za9,ld4,cl52,cl47,z0w,qs,z01,z04,Zm])|(refine z08 ?_;simp (config := { maxSteps := 2000000 }) (disch:=first|omega|rfl) only[sB,Za,reduceCtorEq])|(refine EvC.condT ?_ ?_;simp (config := { maxSteps := 2000000 }) (disch:=first|omega|rfl) only[sB,Za,reduceCtorEq];refine z02 ?_)|(refine EvC.condF ?_ ?_;simp (config := { maxSteps := 2000000 }) (disch:=first|omega|rfl) only[sB,Za,reduceCtorEq];refine z02 ?_))
   refine(z1t hw hn).mono ?_;rintro v H2 ⟨hx2,cs,rfl,r2⟩
   skip
   refine(z0q hx2.wf (s:=repoS) (u:=strS) (by simp [repoS,maxLen,Zf]) (by simp [strS,maxLen,Zf]) r2).mono ?_;rintro v H3 ⟨hx3,ht⟩
   repeat' (first|(refine EvC.ret ?_;try simp only[z05,z03]))
   exact z06 rfl (by simp only[sB,Za,reduceCtorEq];rfl) ⟨Hy.of (hx2.trans hx3),by rw[hR];exact ht,by rw[hR];exact h.keep (hx2.trans hx3) hw⟩
  ·rw[if_neg (by simp)] at hR;by_cases h0:pos < 0
   ·rw[if_pos (.inl h0)] at hR
    repeat' (first|refine EvC.seq ?_|(refine EvC.skip ?_;try simp only[z00])|(refine EvC.reg ?_;simp (config := { maxSteps := 2000000 }) (disch:=first|omega|rfl) only[sB,Za,Zb,Value.cells,reduceCtorEq,layC,z0l,za9,ld4,cl49,cl63,z7i,z0w,qs,z01,z04,Zn,decide_eq_true h0])|(refine z08 ?_;simp (config := { maxSteps := 2000000 }) (disch:=first|omega|rfl) only[sB,Za,reduceCtorEq])|(refine EvC.condT ?_ ?_;simp (config := { maxSteps := 2000000 }) (disch:=first|omega|rfl) only[sB,Za,reduceCtorEq];refine z02 ?_)|(refine EvC.condF ?_ ?_;simp (config := { maxSteps := 2000000 }) (disch:=first|omega|rfl) only[sB,Za,reduceCtorEq];refine z02 ?_))
    refine(z2f hw (s:=sposS) (by simp [sposS,maxLen,Zf])).mono ?_;rintro v H3 ⟨rfl,hx3,-⟩
    skip
    refine(z6y hx3.wf hpos).mono ?_;rintro v H4 ⟨rfl,hx4,-⟩;obtain⟨H5,e5,hx5,g5,n5,w5⟩:=new1 hx4.wf (.row (six (atomT sposS) none 0++six (intT pos) none 0) 88);simp only[List.cons_append,List.nil_append] at e5
    repeat' (first|(refine z08 ?_;simp (config := { maxSteps := 2000000 }) (disch:=first|omega|rfl) only[sB,Za,Zb,one,reduceCtorEq,Zh,cl48,cl50,e5]))
    refine(z6h (s:=domS) w5).mono ?_;rintro v H6 ⟨rfl,hx6,-⟩;have rt:=zbf (H:=H6) (s:=domS) (t:=atomT sposS) (u:=intT pos) (by simp [domS,maxLen,Zf]) (z1n (by simp [sposS,maxLen,Zf])) (zhk hpos) (hx6.get w5 g5)
    skip
    refine(z2v hx6.wf rt).mono ?_;rintro v H7 ⟨hx7,ht⟩
    repeat' (first|(refine EvC.ret ?_;try simp only[z05,z03]))
    have hxe:=(((hx3.trans hx4).trans hx5).trans hx6).trans hx7;exact z06 rfl (by simp only[sB,Za,reduceCtorEq];rfl) ⟨Hy.of hxe,by rw[hR];exact ht,by rw[hR];exact h.keep hxe hw⟩
   ·repeat' (first|refine EvC.seq ?_|(refine EvC.skip ?_;try simp only[z00])|(refine EvC.reg ?_;simp (config := { maxSteps := 2000000 }) (disch:=first|omega|rfl) only[sB,Za,reduceCtorEq,z0l,za9,ld4,cl59,z0w,qs,z01,z04,Zn,decide_eq_false h0])|(refine z08 ?_;simp (config := { maxSteps := 2000000 }) (disch:=first|omega|rfl) only[sB,Za,reduceCtorEq])|(refine EvC.condF ?_ ?_;simp (config := { maxSteps := 2000000 }) (disch:=first|omega|rfl) only[sB,Za,reduceCtorEq];refine z02 ?_))
    refine(hdat H1 (HX.refl hw)).mono ?_;rintro v H2 ⟨rfl,hx2⟩;have w2:=hx2.wf;have h2:=h.keep hx2 hw;have g2:=h2.strm hs;have q2:=z2r g2;by_cases h1:(d.size:Int) < pos
    ·rw[if_pos (.inr h1)] at hR
     repeat' (first|refine EvC.seq ?_|(refine EvC.reg ?_;simp (config := { maxSteps := 2000000 }) (disch:=first|omega|rfl) only[sB,Za,Zb,Value.cells,reduceCtorEq,layC,cl49,cl63,z7i])|(refine z08 ?_;simp (config := { maxSteps := 2000000 }) (disch:=first|omega|rfl) only[sB,Za,reduceCtorEq,ln9,decide_eq_true h1])|(refine EvC.condT ?_ ?_;simp (config := { maxSteps := 2000000 }) (disch:=first|omega|rfl) only[sB,Za,reduceCtorEq];refine z02 ?_))
     refine(z2f w2 (s:=sposS) (by simp [sposS,maxLen,Zf])).mono ?_;rintro v H3 ⟨rfl,hx3,-⟩
     skip
     refine(z6y hx3.wf hpos).mono ?_;rintro v H4 ⟨rfl,hx4,-⟩;obtain⟨H5,e5,hx5,g5,n5,w5⟩:=new1 hx4.wf (.row (six (atomT sposS) none 0++six (intT pos) none 0) 88);simp only[List.cons_append,List.nil_append] at e5
     repeat' (first|(refine z08 ?_;simp (config := { maxSteps := 2000000 }) (disch:=first|omega|rfl) only[sB,Za,Zb,one,reduceCtorEq,Zh,cl48,cl50,e5]))
     refine(z6h (s:=domS) w5).mono ?_;rintro v H6 ⟨rfl,hx6,-⟩;have rt:=zbf (H:=H6) (s:=domS) (t:=atomT sposS) (u:=intT pos) (by simp [domS,maxLen,Zf]) (z1n (by simp [sposS,maxLen,Zf])) (zhk hpos) (hx6.get w5 g5)
     skip
     refine(z2v hx6.wf rt).mono ?_;rintro v H7 ⟨hx7,ht⟩
     repeat' (first|(refine EvC.ret ?_;try simp only[z05,z03]))
     have hxe:=(((hx2.trans hx3).trans (hx4.trans hx5)).trans hx6).trans hx7;exact z06 rfl (by simp only[sB,Za,reduceCtorEq];rfl) ⟨Hy.of hxe,by rw[hR];exact ht,by rw[hR];exact h.keep hxe hw⟩
    ·rw[if_neg (fun q=>q.elim h0 h1)] at hR
     repeat' (first|refine EvC.seq ?_|(refine EvC.skip ?_;try simp only[z00])|(refine EvC.ret ?_)|(refine EvC.reg ?_;simp (config := { maxSteps := 2000000 }) (disch:=first|omega|rfl) only[sB,Za,Zb,one,reduceCtorEq,Zh,z0l,z1c,st3,z1w,g2,z01,z04])|(refine z08 ?_;simp (config := { maxSteps := 2000000 }) (disch:=first|omega|rfl) only[sB,Za,reduceCtorEq,ln9,decide_eq_false h1,Zc])|(refine EvC.condF ?_ ?_;simp (config := { maxSteps := 2000000 }) (disch:=first|omega|rfl) only[sB,Za,reduceCtorEq];refine z02 ?_))
     exact z06 rfl (by simp only[sB,Za,reduceCtorEq];rfl) ⟨(Hy.of hx2).trans ((Hy.put w2 (h2.lb _ (z1q hs)) (h2.strm hs) _).trans (Hy.put (Hy.put w2 (h2.lb _ (z1q hs)) (h2.strm hs) _).1 (h2.lb _ (z1q hs)) (by rw[get_put,if_pos rfl]) _)),by rw[hR];rfl,by rw[hR];have:=(h2.turn (s':=⟨sid,sf,sm,sb,sa,se,true,pos,sl,sn,sc⟩) hs).turn (n:=n) (s':=⟨sid,sf,sm,sb,sa,se,true,pos,sl,0,sc⟩) (by rw[z7t,if_pos rfl,hs];rfl);rwa [z6k] at this⟩
 ·obtain⟨eb,ecs,rfl,-⟩:=id he;have hR:φ.seekR n pos=(some (noStrT n),φ):=by unfold FSt.seekR;rw[hs]
  repeat' (first|refine EvC.seq ?_|(refine EvC.ret ?_;try simp only[z05,z03])|(refine EvC.reg ?_;simp (config := { maxSteps := 2000000 }) (disch:=first|omega|rfl) only[sB,Za,reduceCtorEq,z2e])|(refine z08 ?_;simp (config := { maxSteps := 2000000 }) (disch:=first|omega|rfl) only[sB,Za,reduceCtorEq])|(refine EvC.condT ?_ ?_;simp (config := { maxSteps := 2000000 }) (disch:=first|omega|rfl) only[sB,Za,reduceCtorEq];refine z02 ?_))
  exact z06 rfl (by simp only[sB,Za,reduceCtorEq];rfl) ⟨Hy.of hx1,by rw[hR];exact he,by rw[hR];exact h.keep hx1 hw⟩
def named (s:ByteArray):Bool:=decide (s.size≠0∧s.size≤1000)
theorem zqn {H:Heap}(hw:H.wf) (A B C:Blk):∃H2,((H.new (some A)).new (some B)).new (some C)=H2∧HX H H2∧H2.get H.next=some A∧H2.get (H.next+1)=some B∧H2.get (H.next+2)=some C∧H2.next=H.next+3∧H2.wf:=by
 have h1:=(HX.refl hw).new (some A);have h2:=h1.new (some B);have h3:=h2.new (some C);refine⟨_,rfl,h3,?_,?_,?_,rfl,h3.wf⟩<;>simp [get_new,zb6]<;>omega
theorem zg1 {H:Heap}{s:ByteArray}(hw:H.wf):EvF Tryz.prog okT 31 [.string s] H fun v H'=>v=.bool (named s)∧H'=H:=by
 have hne:∀(t:TypeId) (x y:Operand) (G:Heap),dBin Tryz.prog .neq t x y (.string s) (.string ⟨#[]⟩) G=some (.val (.bool (decide (s.size≠0))) G):=fun t x y G=>by
  have h:=z7r (P:=Tryz.prog) (H:=G) (t:=t) (x:=x) (y:=y) (a:=s);rw[z6d] at h;rw[z2s];simp only[Option.some.injEq,Dr.val.injEq,Value.bool.injEq,and_true] at h ⊢;rw[h];by_cases k:s.size=0<;>simp [k]
 refine EvF.enter rfl Tryz.func31 (by decide) rfl ?_;unfold named;by_cases h0:s.size=0
 ·repeat' (first|refine EvC.seq ?_|(refine EvC.ret ?_)|(refine EvC.reg ?_;simp (config := { maxSteps := 2000000 }) (disch:=first|omega|rfl) only[sB,initTm,Za,reduceCtorEq,hne,decide_eq_false (not_not_intro h0)]))
  exact z06 rfl (by simp only[sB,Za,reduceCtorEq];rfl) ⟨by simp [h0],rfl⟩
 ·repeat' (first|refine EvC.seq ?_|(refine EvC.ret ?_)|(refine EvC.reg ?_;simp (config := { maxSteps := 2000000 }) (disch:=first|omega|rfl) only[sB,initTm,Za,reduceCtorEq,ln9,hne,decide_eq_true h0]))
  exact z06 rfl (by simp only[sB,Za,reduceCtorEq];rfl) ⟨by simp only[Value.bool.injEq,decide_eq_decide];omega,rfl⟩
def uinS:ByteArray:=⟨#[117,115,101,114,95,105,110,112,117,116]⟩
def uoutS:ByteArray:=⟨#[117,115,101,114,95,111,117,116,112,117,116]⟩
def str0:Strm:=⟨0,e0,1,false,uinS,3,false,0,0,0,true⟩
def str1:Strm:=⟨1,e0,3,false,uoutS,3,false,0,0,0,true⟩
end Go.Proofs.hq
end

section
namespace Go.Hb
open Go Go.RowKit
section
variable (P:Program) (ok:Ok) (x:Ctx)
def EvQ (rs:List Code) (st:St) (Q:Ex→St→Prop):Prop:=Upon (fun n=>dseq P ok n x rs st) fun p=>Q p.1 p.2
end
section
variable {P:Program}{ok:Ok}{x:Ctx}{st:St}{Q:Ex→St→Prop}
theorem EvQ.nil (h:Q .normal st):EvQ P ok x [] st Q:=Upon.now (fun n=>by rw[dseq]) h
theorem EvQ.cons {c:Code}{rs:List Code}(h:EvC P ok x c st (Ex.thenC (fun st1=>EvQ P ok x rs st1 Q) Q)):EvQ P ok x (c :: rs) st Q:=by
 refine Upon.step (fun n (r:Ex × St)=>match r with|(.normal,st1)=>dseq P ok n x rs st1|r=>some r) (fun n r hr=>?_) h ?_
 ·rw[dseq,hr];obtain⟨e,s⟩:=r;cases e<;>rfl
 ·rintro ⟨e,s⟩ hq;cases e with
  |normal=>exact hq
  |_=>exact⟨0,_,fun n _=>rfl,hq⟩
theorem EvQ.one {c:Code}(h:EvC P ok x c st Q):EvQ P ok x [c] st Q:=by
 refine EvQ.cons (h.mono fun e s hq=>?_);cases e with
 |normal=>exact EvQ.nil hq
 |_=>exact hq
def RoundK (P:Program) (x:Ctx) (k:Nat) (s0:St) (l:Prop) (p:Ex × St):Ex→St→Prop
 |.normal,s=>¬l∧Calm s0 s
 |.exit i,s=>if i=k then ¬l∧Calm s0 s else l∧onlyRes P x (.exit i,s)=p
 |e,s=>l∧onlyRes P x (e,s)=p
theorem z5w {r:Ex × St}:(onlyRes P x r).1=r.1:=by
 unfold onlyRes;split
 ·rename_i h _ _;exact h.symm
 ·rfl
theorem z95 {s0:St}{done:Ex × St}:∀{rs:List (Ex × St)},(∀r∈rs,r.1=.normal∧Calm s0 r.2)→mapEnd s0 done rs=some done
 |[],_=>by rw[mapEnd]
 |(e,s1) :: rs,h=>by
  obtain⟨h1,h2⟩:=h (e,s1) (by simp);simp only at h1 h2;subst h1;have ih:=z95 (done:=done) fun r hr=>h r (Zl _ hr)
  rw[mapEnd];by_cases hc:calmB s0 s1=true
  ·rw[if_pos hc];exact ih
  ·rw[if_neg hc,if_pos h2];exact ih
theorem z7k {s0:St}{p:Ex × St}(hp:p.1≠.normal):∀{rs:List (Ex × St)},(∀r∈rs,(r.1=.normal∧Calm s0 r.2)∨r=p)→mapEnd.mapOnly s0 p rs=true
 |[],_=>by rw[mapEnd.mapOnly]
 |(e,s1) :: rs,h=>by
  have ih:=z7k hp fun r hr=>h r (Zl _ hr)
  rcases h (e,s1) (by simp) with ⟨h1,h2⟩|h1
  ·simp only at h1 h2;subst h1;rw[mapEnd.mapOnly];by_cases hc:calmB s0 s1=true
   ·rw[if_pos hc];exact ih
   ·rw[if_neg hc,if_pos h2];exact ih
  ·rw[mapEnd.mapOnly,if_pos h1]
   ·exact ih
   ·intro s hs;have:=(Prod.mk.inj hs).1;rw[←h1] at hp;exact hp this
theorem z7l {s0:St}{done p:Ex × St}(hp:p.1≠.normal):∀{rs:List (Ex × St)},(∀r∈rs,(r.1=.normal∧Calm s0 r.2)∨r=p)→p∈rs→mapEnd s0 done rs=some p
 |[],_,h=>by cases h
 |(e,s1) :: rs,h,hm=>by
  rcases h (e,s1) (by simp) with ⟨h1,h2⟩|h1
  ·simp only at h1 h2;subst h1;have hm':p∈rs:=by
    rcases List.mem_cons.1 hm with e|e
    ·rw[e] at hp;exact absurd rfl hp
    ·exact e
   have ih:=z7l (done:=done) hp (fun r hr=>h r (Zl _ hr)) hm';rw[mapEnd];by_cases hc:calmB s0 s1=true
   ·rw[if_pos hc];exact ih
   ·rw[if_neg hc,if_pos h2];exact ih
  ·have ho:=z7k hp (s0:=s0) (rs:=rs) fun r hr=>h r (Zl _ hr)
   rw[h1,mapEnd,ho];intro s hs;rw[hs] at hp;exact hp rfl
theorem zg2 {α β:Type}{f:α→Nat→Option β}{R:α→β→Prop}:∀{l:List α},(∀a∈l,Upon (f a) (R a))→∃N rs,(∀n,N≤n→allSome (l.map fun a=>f a n)=some rs)∧(∀r∈rs,∃a∈l,R a r)∧(∀a∈l,∃r∈rs,R a r)
 |[],_=>⟨0,[],fun n _=>by rw[List.map_nil,allSome],fun r hr=>(by cases hr),fun a ha=>(by cases ha)⟩
 |a :: l,h=>by
  obtain⟨N,r,h1,h2⟩:=h a (by simp);obtain⟨M,rs,k1,k2,k3⟩:=zg2 fun b hb=>h b (Zl _ hb)
  refine⟨max N M,r :: rs,fun n hn=>?_,fun q hq=>?_,fun b hb=>?_⟩
  ·rw[Zs,h1 n (by omega),allSome,k1 n (by omega)];rfl
  ·rcases List.mem_cons.1 hq with rfl|hq
   ·exact⟨a,by simp,h2⟩
   ·obtain⟨b,hb,hr⟩:=k2 q hq;exact⟨b,Zl _ hb,hr⟩
  ·rcases List.mem_cons.1 hb with rfl|hb
   ·exact⟨r,by simp,h2⟩
   ·obtain⟨q,hq,hr⟩:=k3 b hb;exact⟨q,Zl _ hq,hr⟩
theorem EvC.mapLoop {b:Code}{q:MapParts}(hq:mapShape b=some q) {tm:Tr Value}{H:Heap}{r m since clk:Nat}{es:List MapEntry}(hit:tm.get q.it=some (.pointer (some ⟨r,0,none⟩))) (hr:H.get r=some (.mit m since)) (hm:H.get m=some (.map es clk))
  (hsc:since≤clk) (hb:∀e∈es,e.born < since) (hn:nodupB (es.map (·.born))=true) (hmr:m≠r) (hd1:tm.get q.d1=none) (hd2:tm.get q.d2=none) (L:MapEntry→Prop) (p:Ex × St)
  (hrun:∀e∈es,EvO P ok x q.ops ((Zj q.ops.size).drop 1) (St.put ⟨tm,[],H.put r none⟩ q.dst (.tuple #[e.key,e.val]) (H.put r none)) (Ex.thenC (fun st1=>EvQ P ok x q.rest st1 (RoundK P x q.k ⟨tm,[],H.put r none⟩ (L e) p)) fun _ _=>False))
  (h0:(∀e∈es,¬L e)→Q (.exit q.j) ⟨tm,[],H.put r none⟩) (h1:(∃e∈es,L e)→Q p.1 p.2):EvC P ok x (.loop b) ⟨tm,[],H⟩ Q:=by
 have key:∀e∈es,Upon (fun n=>mapRound P x q.k (dops P ok n x q.ops ((Zj q.ops.size).drop 1) (St.put ⟨tm,[],H.put r none⟩ q.dst (.tuple #[e.key,e.val]) (H.put r none))) fun st1=>dseq P ok n x q.rest st1)
   (fun o=>(o.1=.normal∧Calm ⟨tm,[],H.put r none⟩ o.2∧¬L e)∨(o=p∧o.1≠.normal∧L e)):=fun e he=>by
  obtain⟨N,o,k1,k2⟩:=hrun e he;obtain⟨eo,so⟩:=o;cases eo with
  |normal =>
   obtain⟨M,o2,k3,k4⟩:=k2;obtain⟨e2,s2⟩:=o2;have hev:∀n,max N M≤n→mapRound P x q.k (dops P ok n x q.ops ((Zj q.ops.size).drop 1) (St.put ⟨tm,[],H.put r none⟩ q.dst (.tuple #[e.key,e.val]) (H.put r none))) (fun st1=>dseq P ok n x q.rest st1)=mapRound P x q.k (some (.normal,so)) fun _=>some (e2,s2):=fun n hn=>by
    have f1:=k1 n (by omega);have f2:=k3 n (by omega);simp only at f1 f2;rw[f1];simp only[mapRound,f2]
   cases e2 with
   |normal =>
    refine⟨max N M,(.normal,s2),fun n hn=>(hev n hn).trans ?_,.inl ⟨rfl,k4.2,k4.1⟩⟩;simp only[mapRound,onlyRes]
   |exit i =>
    by_cases hik:i=q.k
    ·have k4':¬L e∧Calm ⟨tm,[],H.put r none⟩ s2:=by
      have:(if i=q.k then ¬L e∧Calm ⟨tm,[],H.put r none⟩ s2 else L e∧onlyRes P x (.exit i,s2)=p):=k4
      rwa [if_pos hik] at this
     refine⟨max N M,(.normal,s2),fun n hn=>(hev n hn).trans ?_,.inl ⟨rfl,k4'.2,k4'.1⟩⟩;simp only[mapRound,hik,Zy,if_true]
    ·have k4':L e∧onlyRes P x (.exit i,s2)=p:=by
      have:(if i=q.k then ¬L e∧Calm ⟨tm,[],H.put r none⟩ s2 else L e∧onlyRes P x (.exit i,s2)=p):=k4
      rwa [if_neg hik] at this
     have hbq:Zk i q.k=false:=by rw[←ZB,Zp];exact hik
     refine⟨max N M,onlyRes P x (.exit i,s2),fun n hn=>(hev n hn).trans ?_,.inr ⟨k4'.2,by rw[z5w];simp,k4'.1⟩⟩;simp only[mapRound,hbq,Zc,if_false]
   |ret=>exact⟨max N M,onlyRes P x (.ret,s2),fun n hn=>(hev n hn).trans (by simp only[mapRound]),.inr ⟨k4.2,by rw[z5w];simp,k4.1⟩⟩
   |panic ch=>exact⟨max N M,onlyRes P x (.panic ch,s2),fun n hn=>(hev n hn).trans (by simp only[mapRound]),.inr ⟨k4.2,by rw[z5w];simp,k4.1⟩⟩
  |_=>exact k2.elim
 obtain⟨N,rs,a1,a2,a3⟩:=zg2 key;have hcalm:∀o∈rs,(o.1=.normal∧Calm ⟨tm,[],H.put r none⟩ o.2)∨o=p:=fun o ho=>by
  obtain⟨e,he,h⟩:=a2 o ho;rcases h with ⟨b1,b2,-⟩|⟨b1,-⟩
  ·exact .inl ⟨b1,b2⟩
  ·exact .inr b1
 have hend:∃res,mapEnd ⟨tm,[],H.put r none⟩ (.exit q.j,⟨tm,[],H.put r none⟩) rs=some res∧Q res.1 res.2:=by
  by_cases hL:∃e∈es,L e
  ·obtain⟨e,he,hl⟩:=hL;obtain⟨o,ho,h⟩:=a3 e he;rcases h with ⟨-,-,h⟩|⟨b1,b2,-⟩
   ·exact absurd hl h
   ·subst b1;exact⟨o,z7l b2 hcalm ho,h1 ⟨e,he,hl⟩⟩
  ·refine⟨_,z95 fun o ho=>?_,h0 fun e he hl=>hL ⟨e,he,hl⟩⟩;obtain⟨e,he,h⟩:=a2 o ho;rcases h with ⟨b1,b2,-⟩|⟨-,-,h⟩
   ·exact⟨b1,b2⟩
   ·exact absurd ⟨e,he,h⟩ hL
 obtain⟨res,hres,hQ⟩:=hend;refine⟨max N (es.length+1)+1,res,fun n hnn=>?_,hQ⟩;obtain⟨k,rfl⟩:∃k,n=k+1:=⟨n - 1,by omega⟩
 have hbo:(es.all fun e=>Nat.blt e.born since)=true:=List.all_eq_true.2 fun e he=>by have:=hb e he;simpa [Nat.blt_eq] using this
 show dcode P ok (k+1) x (.loop b) ⟨tm,[],H⟩=some res;unfold dcode;simp only[hq,hit,hr,hm];rw[if_pos ⟨by simpa using hsc,by omega,hbo,hn,hmr,by rw[hd1];rfl,by rw[hd2];rfl⟩];rw[a1 k (by omega)];exact hres
end
end Go.Hb
end

section
namespace Go.Hb
open Go Go.RowKit
section
variable {P:Program}{ok:Ok}{x:Ctx}
theorem EvO.reg1 {ops:Array Oper}{tm:Tr Value}{ds:List Deferred}{H:Heap}{Q:Ex→St→Prop}(h:EL P ok x ops (ops.toList.drop 1) tm ds H fun tm ds H=>Q .normal ⟨tm,ds,H⟩):EvO P ok x ops ((Zj ops.size).drop 1) ⟨tm,ds,H⟩ Q :=
 EvO.of_list (K:=Q .normal) (fun _ h=>h) _ (ops.toList.drop 1) _ (by rw[List.map_drop,z5q,List.map_drop]) (EvL.of_EL (K:=fun tm ds H=>Q .normal ⟨tm,ds,H⟩) _ _ _ _ h)
def TmLe (a b:Tr Value):Prop:=∀i v,a.get i=some v→b.get i=some v
theorem TmLe.refl (a:Tr Value):TmLe a a:=fun _ _ h=>h
theorem TmLe.put {a b:Tr Value}{k:Nat}{v:Value}(hk:a.get k=none) (h:TmLe a b):TmLe a (b.put k (some v)):=fun i w hi=>by
 rw[Tr.get_put];by_cases e:i=k
 ·rw[e,hk] at hi;cases hi
 ·rw[if_neg e];exact h i w hi
def dRg (P:Program) (t:TypeId) (v:Value) (H:Heap):Option Dr:=match P.underlying t,v with
 |some .string,.string s=>some (.val (.pointer (some ⟨H.next,0,none⟩)) (H.new (some (.siter s 0))))
 |some (.map _ _),.map (some m)=>match H.get m with
  |some (.map _ clock)=>some (.val (.pointer (some ⟨H.next,0,none⟩)) (H.new (some (.mit m clock))))
  |_=>none
 |_,_=>none
theorem z96 {d:Option Tmp}{t:TypeId}{y:Operand}{ty:TypeId}{pos:String}{af:Array Edge}{g:Option (Nat × Bool)}{ρ:Operand→Value}{H:Heap}:dop P ⟨d,.range t y,ty,pos,af,g⟩ ρ H=dRg P t (ρ y) H:=_root_.id rfl
theorem zjo {t kt et:TypeId}{H:Heap}{m clk:Nat}{es:List MapEntry}(hu:P.underlying t=some (.map kt et)) (hm:H.get m=some (.map es clk)):dRg P t (.map (some m)) H=some (.val (.pointer (some ⟨H.next,0,none⟩)) (H.new (some (.mit m clk)))):=by
 unfold dRg;rw[hu];simp only[hm]
theorem zob {t ty kt et:TypeId}{H:Heap}{m:Nat}{M:List (Int × Value)}(hu:P.underlying t=some (.map kt et)) (hm:MapR H m M):dLn P t ty (.map (some m)) H=some (.val (.int .i64 M.length) H):=by
 obtain⟨es,c,hg,he⟩:=hm;have hl:=congrArg List.length he;rw[Zv,Zv] at hl;simp only[dLn,hu,hg,goInt,hl]
theorem zlq {t ty kt et:TypeId}{H:Heap}{m:Nat}{M:List (ByteArray × Value)}(hu:P.underlying t=some (.map kt et)) (hm:MapS H m M):dLn P t ty (.map (some m)) H=some (.val (.int .i64 M.length) H):=by
 obtain⟨es,c,hg,he⟩:=hm;have hl:=congrArg List.length he;rw[Zv,Zv] at hl;simp only[dLn,hu,hg,goInt,hl]
end
end Go.Hb
namespace Go.Proofs.hq
open Go Go.RowKit Go.Hb
variable {ok:Ok}
set_option maxRecDepth 10000
attribute [local irreducible] LX LG EL STG SOP SGO SGD SAL SRD SEF SEG SLK SCK ES
theorem row4 {H:Heap}{p:Nat}{T:TypeId}{x0 x1 x2 x3:Value}(h:H.get p=some (Blk.row [x0,x1,x2,x3] T)) :
  H.load ⟨p,0,none⟩ 1=some [x0]∧H.load ⟨p,1,none⟩ 1=some [x1]∧H.load ⟨p,2,none⟩ 1=some [x2]∧H.load ⟨p,3,none⟩ 1=some [x3]:=by
 refine⟨?_,?_,?_,?_⟩<;>simp only[Heap.load,Heap.cells,h]<;>rfl
theorem FsB.add {H H':Heap}{B:Nat→Prop}{p fb ob b:Nat}{blk:Int→Nat}{φ ψ:FSt}{n:Int}{s:Strm}(h:FsB H B p fb ob blk φ) (hw:H.wf) (hn:∀o∈φ.opens,o.1 < n) (hψ:ψ.opens=φ.opens++[(n,s)])
  (obj:H'.get p=some (.row (fsRow fb ob ψ) 77)) (fm:MapS H' fb (ψ.files.map fun x=>(x.1,.string x.2))) (bf:BornR H' fb) (fd:(ψ.files.map (·.1)).Nodup) (om:MapR H' ob ((φ.opens.map fun o=>(o.1,ptrV (blk o.1)))++[(n,ptrV b)])) (bo:BornR H' ob)
  (st:∀o∈φ.opens,H'.get (blk o.1)=H.get (blk o.1)) (sb:H'.get b=some (.row s.row 82)) (hb:H.next≤b) (hB:B b):∃blk',FsB H' B p fb ob blk' ψ:=by
 have hne:∀o∈φ.opens,(if o.1=n then b else blk o.1)=blk o.1:=fun o ho=>if_neg (by have:=hn o ho;omega)
 have hlt:∀o∈φ.opens,blk o.1 < H.next:=fun o ho=>hw _ _ (h.st o ho)
 have hmem:∀o∈ψ.opens,o∈φ.opens∨o=(n,s):=fun o ho=>by
  rw[hψ] at ho;rcases List.mem_append.1 ho with ho|ho
  ·exact .inl ho
  ·exact .inr (List.mem_singleton.1 ho)
 refine⟨fun i=>if i=n then b else blk i,obj,fm,?_,bo,fun o ho=>?_,?_,fun o ho o' ho' e=>?_,h.lp,h.lf,h.lo,fun o ho=>?_,h.fo,bf,fd⟩
 ·rw[hψ,ZI];have e1:(φ.opens.map fun o=>(o.1,ptrV (if o.1=n then b else blk o.1)))=φ.opens.map fun o=>(o.1,ptrV (blk o.1)):=List.map_congr_left fun o ho=>by rw[hne o ho]
  rw[e1];simpa using om
 ·rcases hmem o ho with ho|rfl
  ·simp only[hne o ho];rw[st o ho];exact h.st o ho
  ·simp only[if_true];exact sb
 ·rw[hψ,ZI,List.nodup_append];refine⟨h.nd,by simp,fun a ha c hc=>?_⟩;obtain⟨o,ho,rfl⟩:=List.mem_map.1 ha;simp only[Zs,List.map_nil,List.mem_singleton] at hc;have:=hn o ho;omega
 ·rcases hmem o ho with ho|rfl<;>rcases hmem o' ho' with ho'|rfl
  ·simp only[hne o ho,hne o' ho'] at e;exact h.inj o ho o' ho' e
  ·simp only[hne o ho,if_true] at e;have:=hlt o ho;omega
  ·simp only[hne o' ho',if_true] at e;have:=hlt o' ho';omega
  ·rfl
 ·rcases hmem o ho with ho|rfl
  ·simp only[hne o ho];exact h.lb o ho
  ·simp only[if_true];exact hB
end Go.Proofs.hq
end

section
namespace Go.Hb
open Go Go.RowKit
section
variable {P:Program}{H:Heap}{ρ:Operand→Value}{d:Option Tmp}{ty:TypeId}{pos:String}{af:Array Edge}{g:Option (Nat × Bool)}
theorem z6l {t:TypeId}{x y:Operand}{a b:ByteArray}(h:a.size+b.size≤9223372036854775807):dBin P .add t x y (.string a) (.string b) H=some (.val (.string (a++b)) H):=by
 have hm:IntKind.i64.max=9223372036854775807:=by decide
 have hn:¬((a.size+b.size:Nat):Int) > IntKind.i64.max:=by rw[hm];omega
 have e:pureRun P (Op.stringOp .add a b)=some (.string (a++b)):=by
  unfold Op.stringOp;simp only[if_neg hn];rfl
 have e2:pureRun P (Next.value <$> Op.stringOp .add a b)=some (.value (.string (a++b))):=by
  show pureRun P (Op.stringOp .add a b >>= fun x=>pure (Next.value x))=_;rw[z0a,e];rfl
 simp [dBin,dnil,flat,eqGuard,binOp,Sem.bind,e2,dOut]
def dDel (P:Program) (t:TypeId) (m k:Value) (H:Heap):Option Dr:=ddelete P t m k H
theorem z5a {m k:Operand}{t u:TypeId}:dop P ⟨d,.call ⟨.builtin .delete,#[m,k],#[t,u]⟩,ty,pos,af,g⟩ ρ H=dDel P t (ρ m) (ρ k) H:=_root_.id rfl
theorem z4r {α:Type}(p:α→Bool):∀(l:List α) (i:Nat),l.findIdx? p=some i→l.eraseIdx i=l.eraseP p:=fun l i h=>by
 rw[List.eraseP_eq_eraseIdx,h]
theorem z42 {α β:Type}(f:α→β):∀(l:List α) (i:Nat),(l.eraseIdx i).map f=(l.map f).eraseIdx i
 |[],_=>rfl
 |_ :: _,0=>rfl
 |a :: l,i+1=>by rw[List.eraseIdx_cons_succ,Zs,Zs,List.eraseIdx_cons_succ,z42 f l i]
theorem zlr {t kt et:TypeId}{z:Value}{r:Nat}{M:List (Int × Value)}{n:Int}(h:mpOk P t kt et z) (hm:MapR H r M) (hb:BornR H r) (hv:(mGet M n).isSome=true) :
  ∃B,dDel P t (.map (some r)) (.int .i64 n) H=some (.val undef (H.put r (some B)))∧MapR (H.put r (some B)) r (M.eraseP fun p=>p.1 == n)∧BornR (H.put r (some B)) r:=by
 obtain⟨h1,h2,h3,h4⟩:=h;obtain⟨es,clock,hg,he⟩:=hm;obtain⟨es',clock',hg',hb1,hb2⟩:=hb;rw[hg] at hg';cases hg';rcases z7s (M:=M) (n:=n) with ⟨h5,h6⟩|⟨i,u,h5,h6,h7⟩
 ·rw[h6] at hv;cases hv
 ·refine⟨.map (es.eraseIdx i) clock,by simp only[dDel,ddelete,h1,hg,z6g h2 he,h5],⟨_,_,by rw[Heap.get_put,if_pos rfl],?_⟩,⟨_,_,by rw[Heap.get_put,if_pos rfl],fun e hm=>hb1 e (List.mem_of_mem_eraseIdx hm),?_⟩⟩
  ·rw[z42,he,←z42,z4r _ _ _ h5]
  ·rw[z42];exact hb2.sublist (List.eraseIdx_sublist _ _)
def dNx (v:Value) (H:Heap):Option Dr:=match v with
 |.pointer (some ⟨r,0,none⟩)=>match H.get r with
  |some (.siter s pos)=>if pos < s.size then some (.val (.tuple #[.bool true,goInt pos,.int .i32 (Utf8.decode s pos).1]) (H.put r (some (.siter s (pos+(Utf8.decode s pos).2))))) else some (.val (.tuple #[.bool false]) H)
  |_=>none
 |_=>none
theorem zjp {x:Operand}:dop P ⟨d,.next x true,ty,pos,af,g⟩ ρ H=dNx (ρ x) H:=_root_.id rfl
theorem zpt {r pos:Nat}{s:ByteArray}(hg:H.get r=some (.siter s pos)) (h:pos < s.size):dNx (.pointer (some ⟨r,0,none⟩)) H=some (.val (.tuple ⟨[.bool true,.int .i64 pos,.int .i32 (Utf8.decode s pos).1]⟩) (H.put r (some (.siter s (pos+(Utf8.decode s pos).2))))):=by
 simp only[dNx,hg,if_pos h];rfl
theorem zoc {t:TypeId}{s:ByteArray}(hu:P.underlying t=some .string):dRg P t (.string s) H=some (.val (.pointer (some ⟨H.next,0,none⟩)) (H.new (some (.siter s 0)))):=by
 unfold dRg;rw[hu]
end
def fset (l:List (ByteArray × ByteArray)) (n d:ByteArray):List (ByteArray × ByteArray):=match l.findIdx? fun p=>n == p.1 with
 |some i=>l.set i (n,d)
 |none=>l++[(n,d)]
theorem zcv (l:List (ByteArray × ByteArray)) (n d:ByteArray):(fset l n d).map (fun x=>(x.1,Value.string x.2))=sSet (l.map fun x=>(x.1,Value.string x.2)) n (.string d):=by
 have e:(l.map fun x=>(x.1,Value.string x.2)).findIdx? (fun p=>n == p.1)=l.findIdx? fun p=>n == p.1:=by
  rw[List.findIdx?_map];rfl
 unfold fset sSet;rw[e];cases l.findIdx? fun p=>n == p.1 with
 |some i=>simp only[List.map_set]
 |none=>simp only[ZI,Zs,List.map_nil]
theorem z70 {l:List (ByteArray × ByteArray)}{n d:ByteArray}(h:(l.map (·.1)).Nodup):((fset l n d).map (·.1)).Nodup:=by
 unfold fset;cases hf:l.findIdx? fun p=>n == p.1 with
 |some i =>
  obtain⟨hi,hp,-⟩:=List.findIdx?_eq_some_iff_getElem.1 hf;have hn:n=l[i].1:=z1z.1 hp;have e:(l.set i (n,d)).map (·.1)=l.map (·.1):=by
   rw[List.map_set];apply ZD;intro k;rw[List.getElem?_set];split
   ·rename_i hk;subst hk;rw[Zr,Zd hi];simp [hi,hn]
   ·rfl
  simp only[e];exact h
 |none =>
  have hno:=List.findIdx?_eq_none_iff.1 hf;simp only[ZI,Zs,List.map_nil];rw[List.nodup_append];refine⟨h,by simp,fun a ha b hb e=>?_⟩;simp only[List.mem_singleton] at hb;obtain⟨p,hp,rfl⟩:=List.mem_map.1 ha;have:=hno p hp;rw[show n=p.1 from (e.trans hb).symm] at this;rw[z1z.2 rfl] at this;cases this
end Go.Hb
end
