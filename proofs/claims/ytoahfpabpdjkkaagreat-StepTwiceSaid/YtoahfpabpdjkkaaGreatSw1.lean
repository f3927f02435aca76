/- Merged by pack.py: GxA. -/
import Derived.WalkKit
import Derived.OrdersIn
import Derived.RangeFuncLeaves
import Derived.RangeFuncSeq
import Derived.Laws.CopyRow
import Derived.StillTail
import Derived.ControlIn
import Derived.RangeFuncNested
namespace Go.Proofs.YtoahfpabpdjkkaaGreat.Gx
open Go
abbrev RV:=Value->World->Prop
section
variable {α β:Type}
def nth:List α->Nat->Option α
 | [],_=>none
 | a::_,0=>some a
 | _::l,n+1=>nth l n
theorem nth_eq:∀(l:List α)(i:Nat),nth l i=l[i]?
 | [],_=>by simp[nth]
 | _::_,0=>rfl
 | _::l,n+1=>by simpa [nth] using nth_eq l n
def mapL(f:α->β):List α->List β
 | []=>[]
 | a::l=>f a::mapL f l
theorem mapL_eq(f:α->β):∀l:List α,mapL f l=l.map f
 | []=>rfl
 | _::l=>by simp[mapL,mapL_eq f l]
def appL:List α->List α->List α
 | [],m=>m
 | a::l,m=>a::appL l m
theorem appL_eq:∀l m:List α,appL l m=l++m
 | [],_=>rfl
 | _::l,m=>by simp[appL,appL_eq l m]
def takeL:Nat->List α->List α
 | 0,_=>[]
 | _+1,[]=>[]
 | n+1,a::l=>a::takeL n l
theorem takeL_eq:∀(n:Nat)(l:List α),takeL n l=l.take n
 | 0,_=>by simp[takeL]
 | _+1,[]=>by simp[takeL]
 | n+1,_::l=>by simp[takeL,takeL_eq n l]
def dropL:Nat->List α->List α
 | 0,l=>l
 | _+1,[]=>[]
 | n+1,_::l=>dropL n l
theorem dropL_eq:∀(n:Nat)(l:List α),dropL n l=l.drop n
 | 0,_=>by simp[dropL]
 | _+1,[]=>by simp[dropL]
 | n+1,_::l=>by simp[dropL,dropL_eq n l]
def lenL:List α->Nat
 | []=>0
 | _::l=>Nat.succ (lenL l)
theorem lenL_eq:∀l:List α,lenL l=l.length
 | []=>rfl
 | _::l=>by simp[lenL,lenL_eq l]
def hasLen:List α->Nat->Bool
 | [],n=>Nat.beq n 0
 | _::l,n=>match Nat.beq n 0 with
  | true=>false
  | false=>hasLen l (Nat.sub n 1)
theorem hasLen_eq:∀(l:List α)(n:Nat),hasLen l n=true->l.length=n
 | [],n,h=>(Nat.eq_of_beq_eq_true h).symm
 | _::l,n,h=>by
  simp only[hasLen] at h
  split at h
  ·cases h
  ·rename_i hn
   have h1:=hasLen_eq l _ h
   have:n≠0:=fun e=>by subst e;cases hn
   simp only[List.length_cons,Nat.sub_eq] at*
   omega
def geLen:List α->Nat->Bool
 | [],n=>Nat.beq n 0
 | _::l,n=>match Nat.beq n 0 with
  | true=>true
  | false=>geLen l (Nat.sub n 1)
theorem geLen_le:∀(l:List α)(n:Nat),geLen l n=true->n<=l.length
 | [],n,h=>by have:=Nat.eq_of_beq_eq_true h;subst this;exact Nat.le_refl _
 | _::l,n,h=>by
  simp only[geLen] at h
  split at h
  ·rename_i hn;have:=Nat.eq_of_beq_eq_true hn;omega
  ·have h1:=geLen_le l _ h
   simp only[List.length_cons,Nat.sub_eq] at*
   omega
def lkT(t:Nat):List (Nat×α)->Option α
 | []=>none
 | q::l=>match Nat.beq t q.1 with
  | true=>some q.2
  | false=>lkT t l
def optM(f:α->β):Option α->Option β
 | none=>none
 | some a=>some (f a)
theorem optM_eq(f:α->β)(o:Option α):optM f o=o.map f:=by cases o<;>rfl
end
def cellsL:Value->List Value
 | .agg cs=>cs.toList
 | v=>[v]
theorem cellsL_eq(v:Value):cellsL v=v.cells.toList:=by cases v<;>rfl
structure Rest(w w':World):Prop where
 os:w'.os=w.os
 tape:w'.tape=w.tape
 output:w'.output=w.output
theorem Rest.refl(w:World):Rest w w:=⟨rfl,rfl,rfl⟩
theorem Rest.trans{a b c:World}(h:Rest a b)(k:Rest b c):Rest a c:=
 ⟨k.os.trans h.os,k.tape.trans h.tape,k.output.trans h.output⟩
theorem drew_rest(w:World):Rest w w.drew:=⟨rfl,rfl,rfl⟩
structure IsAlloc(w:World)(o:Obj)(b:Nat)(w':World):Prop where
 here:b=w.heap.size
 size:w'.heap.size=w.heap.size+1
 new:w'.heap[b]? =some o
 old:∀i,i<w.heap.size->w'.heap[i]? =w.heap[i]?
 rest:Rest w w'
structure IsUpd(w:World)(b:Nat)(o:Obj)(w':World):Prop where
 size:w'.heap.size=w.heap.size
 new:w'.heap[b]? =some o
 old:∀i,i≠b->w'.heap[i]? =w.heap[i]?
 rest:Rest w w'
def AllocP(w:World)(o:Obj)(K:Nat->World->Prop):Prop:=∀b w',IsAlloc w o b w'->K b w'
def UpdP(w:World)(b:Nat)(o:Obj)(K:World->Prop):Prop:=∀w',IsUpd w b o w'->K w'
theorem isAlloc_push(w:World)(o:Obj)(n:Nat):IsAlloc w o w.heap.size { w with heap:=w.heap.push o,drawn:=n }:=
 ⟨rfl,by simp,by simp,fun i hi=>by
  show (w.heap.push o)[i]? =_
  rw[Array.getElem?_push,if_neg (by omega)],⟨rfl,rfl,rfl⟩⟩
theorem AllocP.use{w:World}{o:Obj}{K:Nat->World->Prop}(h:AllocP w o K):K w.heap.size { w with heap:=w.heap.push o }:=
 h _ _ (isAlloc_push w o w.drawn)
structure Sl where
 p:Option Addr
 n:Nat
 c:Nat
inductive Leaf where
 | int (k:IntKind)|bool|str|ptr|sl|map|any|box|clo|yld|ints (k:IntKind) (n:Nat)|arr
@[reducible] def intN:Nat->Type
 | 0=>Unit
 | 1=>Int
 | n+2=>Int×intN (n+1)
def intsE(k:IntKind):(n:Nat)->intN n->List Value
 | 0,_=>[]
 | 1,x=>[.int k x]
 | n+2,x=>.int k x.1::intsE k (n+1) x.2
@[reducible] def Leaf.den:Leaf->Type
 | .int _=>Int
 | .bool=>Bool
 | .str=>ByteArray
 | .ptr=>Option Addr
 | .sl=>Sl
 | .map=>Option Nat
 | .any=>Value
 | .box=>Nat
 | .clo=>Nat×Array Value
 | .yld=>Nat
 | .ints _ n=>intN n
 | .arr=>List Value
def Leaf.enc:(l:Leaf)->l.den->Value
 | .int k,n=>.int k n
 | .bool,b=>.bool b
 | .str,s=>.string s
 | .ptr,p=>.pointer p
 | .sl,s=>.slice s.p s.n s.c
 | .map,r=>.map r
 | .any,v=>v
 | .box,b=>.pointer (some ⟨b,0,none⟩)
 | .clo,x=>.func (.func x.1) #[] x.2
 | .yld,l=>.func (.yield l) #[] #[]
 | .ints k n,x=>.agg (intsE k n x).toArray
 | .arr,l=>.agg l.toArray
@[reducible] def dens:List Leaf->Type
 | []=>Unit
 | [l]=>l.den
 | l::m::ls=>l.den×dens (m::ls)
def encs:(ls:List Leaf)->dens ls->List Value
 | [],_=>[]
 | [l],x=>[l.enc x]
 | l::m::ls,x=>l.enc x.1::encs (m::ls) x.2
inductive Sh where
 | one (l:Leaf)|agg (ls:List Leaf)|tup (ls:List Leaf)|pre (ls:List Leaf)
@[reducible] def Sh.den:Sh->Type
 | .one l=>l.den
 | .agg ls=>dens ls
 | .tup ls=>dens ls
 | .pre ls=>dens ls×List Value
def Sh.enc:(s:Sh)->s.den->Value
 | .one l,x=>l.enc x
 | .agg ls,x=>.agg (encs ls x).toArray
 | .tup ls,x=>.tuple (encs ls x).toArray
 | .pre ls,x=>.agg (appL (encs ls x.1) x.2).toArray
def Typed(s:Sh)(v:Value)(K:Value->Prop):Prop:=∃x:s.den,v=s.enc x/\K (s.enc x)
theorem Typed.out{s:Sh}{v:Value}{K:Value->Prop}(h:Typed s v K):K v:=by
 obtain⟨x,rfl,h⟩:=h;exact h
inductive Kd where
 | int (k:IntKind)|bool|string|ptr|slice (e:TypeId)|struct (fs:List (TypeId×Nat))|array (n:Nat) (e:TypeId)
 | map (k e:TypeId)|func|iface|other
def kdOf:TypeDesc->Kd
 | .int k=>.int k
 | .bool=>.bool
 | .string=>.string
 | .pointer _=>.ptr
 | .slice e=>.slice e
 | .struct fs=>.struct (fs.toList.map fun f=>(f.type,f.offset))
 | .array n e=>.array n e
 | .map k e=>.map k e
 | .func .. =>.func
 | .interface _=>.iface
 | _=>.other
def Kd.isAgg:Kd->Bool
 | .struct _ | .array .. =>true
 | _=>false
structure TI where
 kd:Kd
 size:Nat
 bytes:Nat
 zero:Value
 sh:Sh
abbrev Tab:=Nat->Option TI
structure TI.Ok(P:Program)(t:Nat)(i:TI):Prop where
 kd:(P.underlying t).map kdOf=some i.kd
 info:(P.info? t).map (fun j=>(j.size,j.bytes,j.zero))=some (i.size,i.bytes,some i.zero)
 zsz:i.zero.cells.size=i.size
def Tab.Ok(P:Program)(tb:Tab):Prop:=∀t i,tb t=some i->i.Ok P t
theorem TI.Ok.desc{P:Program}{t:Nat}{i:TI}(h:i.Ok P t):∃d,P.underlying t=some d/\kdOf d=i.kd:=by
 have:=h.kd
 cases hd:P.underlying t with
 | none=>rw[hd] at this;cases this
 | some d=>rw[hd] at this;exact⟨d,rfl,by simpa using this⟩
theorem TI.Ok.row{P:Program}{t:Nat}{i:TI}(h:i.Ok P t):∃j,P.info? t=some j/\j.size=i.size/\j.bytes=i.bytes/\j.zero=some i.zero:=by
 have:=h.info
 cases hd:P.info? t with
 | none=>rw[hd] at this;cases this
 | some j=>rw[hd] at this;simp at this;exact⟨j,rfl,this.1,this.2.1,this.2.2⟩
def likeV:Value->Value->Bool
 | .bool false,.bool false=>true
 | .int .i64 (.ofNat 0),.int .i64 (.ofNat 0)=>true
 | .int .u64 (.ofNat 0),.int .u64 (.ofNat 0)=>true
 | _,_=>false
def allLike(v:Value):Nat->List Value->Bool
 | n,[]=>Nat.beq n 0
 | n,a::l=>match Nat.beq n 0 with
  | true=>false
  | false=>match likeV a v with
   | true=>allLike v (Nat.sub n 1) l
   | false=>false
def bigB(P:Program)(t size bytes n:Nat)(v:Value):Bool:=match P.info? t with
 | some j=>match Nat.beq j.size size,Nat.beq j.bytes bytes,j.zero with
  | true,true,some (.agg cs)=>allLike v n cs.toList
  | _,_,_=>false
 | none=>false
def Entr(P:Program)(f:FuncId):Prop:=∀args w,(callFunc f args).run P w=.ok (.enter f args) w
def CW(P:Program)(f:FuncId)(args:Array Value)(w:World)(R:RV):Prop:=
 Entr P f/\CallsIn Fence.wide 0 P f args w fun e w'=>∃v,e=.returned v/\R v w'
theorem CW.mono{P:Program}{f:FuncId}{args:Array Value}{w:World}{R R':RV}(h:CW P f args w R)
  (hr:∀v w',R v w'->R' v w'):CW P f args w R':=
 ⟨h.1,h.2.mono fun _ w' ⟨v,he,hR⟩=>⟨v,he,hr v w' hR⟩⟩
theorem CW.calls{P:Program}{f:FuncId}{args:Array Value}{w:World}{R:RV}(h:CW P f args w R):
  Calls P f args w fun e w'=>∃v,e=.returned v/\R v w':=callsIn_wide.1 h.2
def YW(P:Program)(l:Nat)(args:Array Value)(w:World)(R:Bool->World->Prop):Prop:=
 ∃fn tmps assign body,(Instr.yield l args).run P w=.ok (.round l fn tmps assign body) w/\
  RoundIn Fence.wide 0 P l fn tmps assign body w fun e w'=>∃b,e=.returned (.bool b)/\R b w'
theorem YW.mono{P:Program}{l:Nat}{args:Array Value}{w:World}{R R':Bool->World->Prop}(h:YW P l args w R)
  (hr:∀b w',R b w'->R' b w'):YW P l args w R':=by
 obtain⟨fn,tmps,assign,body,hy,h⟩:=h
 exact⟨fn,tmps,assign,body,hy,h.mono fun _ w' ⟨b,he,hR⟩=>⟨b,he,hr b w' hR⟩⟩
def fz(r:Option Nat):Fence:={ Fence.wide with round:=r }
theorem fz_callsIn{r:Option Nat}{n:Nat}{P:Program}{f:FuncId}{args:Array Value}{w:World}{R:Ending->World->Prop}:
  CallsIn (fz r) n P f args w R↔CallsIn Fence.wide n P f args w R:=Iff.rfl
theorem fz_roundIn{r:Option Nat}{n:Nat}{P:Program}{l f:Nat}{tmps:Array Value}{assign body:Code}{w:World}{R:Ending->World->Prop}:
  RoundIn (fz r) n P l f tmps assign body w R↔RoundIn Fence.wide n P l f tmps assign body w R:=Iff.rfl
abbrev Fr:=Nat->Value
def ev(f:Fr):Operand->Value
 | .tmp t=>f t
 | .const v=>v
 | .global g=>.pointer (some ⟨g,0,none⟩)
 | .func g=>.func (.func g) #[] #[]
def put(f:Fr)(d:Option Nat)(v:Value):Fr:=
 match d with
 | some d=>fun t=>match Nat.beq t d with
  | true=>v
  | false=>f t
 | none=>f
inductive Df where
 | col (D:Nat)|fn (d:Deferred)
def mark:Df->Deferred
 | .col D=>{ target:=.collected D,args:=#[] }
 | .fn d=>d
structure Rel(N:Nat)(a:Act)(f:Fr)(ds:List Df):Prop where
 size:a.tmps.size=N
 val:∀t,a.tmps.getD t undef=f t
 defers:a.defers=ds.map mark
theorem Rel.eval{N:Nat}{a:Act}{f:Fr}{ds:List Df}(h:Rel N a f ds):a.eval=ev f:=by
 funext x
 cases x with
 | tmp t=>exact h.val t
 | const v=>rfl
 | global g=>rfl
 | func g=>rfl
theorem Rel.put{N:Nat}{a:Act}{f:Fr}{ds:List Df}(h:Rel N a f ds){d:Option Nat}(hd:∀e,d=some e->e<N)(v:Value):
  Rel N (a.put d v) (put f d v) ds:=by
 cases d with
 | none=>exact h
 | some d=>
  refine⟨by simp[Act.put,h.size],fun t=>?_,h.defers⟩
  have hd':=hd d rfl
  simp only[Act.put,Gx.put]
  by_cases e:t=d
  ·subst e
   rw[show Nat.beq t t=true from Nat.beq_refl t]
   simp[h.size,hd']
  ·have hb:Nat.beq t d=false:=by
    cases hb:Nat.beq t d with
    | false=>rfl
    | true=>exact(e (Nat.eq_of_beq_eq_true hb)).elim
   rw[hb]
   dsimp only
   rw[<-h.val t]
   simp only[Array.getD_eq_getD_getElem?,Array.getElem?_setIfInBounds_ne (Ne.symm e)]
theorem Rel.yielded{N:Nat}{a:Act}{f:Fr}{ds:List Df}(h:Rel N a f ds)(ops:Array Oper)(j:Nat)(d:Nat)
  (hd:(ops[j]?).bind (·.dst)=some d)(hN:d<N):
  Go.yielded ops a.tmps j=match f d with | .bool b=>some b|_=>none:=by
 have hs:d<a.tmps.size:=by rw[h.size];exact hN
 have hv:=h.val d
 rw[Array.getD_eq_getD_getElem?,Array.getElem?_eq_getElem hs] at hv
 simp only[Go.yielded,hd,Option.bind_some,Array.getElem?_eq_getElem hs]
 simp only[Option.getD_some] at hv
 rw[hv];cases f d<;>rfl
def IfB(b:Bool)(A B:Prop):Prop:=match b with|true=>A|false=>B
theorem IfB.dec{p:Prop}[Decidable p]{A B:Prop}(h:p->A)(k:¬p->B):IfB (decide p) A B:=by
 by_cases hp:p
 ·rw[decide_eq_true hp];exact h hp
 ·rw[decide_eq_false hp];exact k hp
theorem IfB.intro{b:Bool}{A B:Prop}(h:b=true->A)(k:b=false->B):IfB b A B:=by
 cases b
 ·exact k rfl
 ·exact h rfl
theorem IfB.yes{b:Bool}{A B:Prop}(hb:b=true)(h:A):IfB b A B:=by subst hb;exact h
theorem IfB.no{b:Bool}{A B:Prop}(hb:b=false)(h:B):IfB b A B:=by subst hb;exact h
theorem IfB.cases{b:Bool}{A B:Prop}(h:IfB b A B):(b=true/\A)\/(b=false/\B):=by
 cases b
 ·exact .inr ⟨rfl,h⟩
 ·exact .inl ⟨rfl,h⟩
def sameK:IntKind->IntKind->Prop->Prop
 | .i64,.i64,A=>A | .u64,.u64,A=>A | .u8,.u8,A=>A | .i32,.i32,A=>A | .u32,.u32,A=>A
 | .i8,.i8,A=>A | .i16,.i16,A=>A | .u16,.u16,A=>A|_,_,_=>False
theorem sameK.out{j k:IntKind}{A:Prop}(h:sameK j k A):j=k/\A:=by
 cases j<;>cases k<;>first|exact⟨rfl,h⟩|exact h.elim
def bitsI(op:BinOp)(k:IntKind)(a b:Int):Int:=
 match op with
 | .and=>k.wrap (BitVec.ofInt k.bits a &&& BitVec.ofInt k.bits b).toNat
 | .or=>k.wrap (BitVec.ofInt k.bits a ||| BitVec.ofInt k.bits b).toNat
 | .xor=>k.wrap (BitVec.ofInt k.bits a ^^^ BitVec.ofInt k.bits b).toNat
 | _=>k.wrap (BitVec.ofInt k.bits a &&& ~~~ BitVec.ofInt k.bits b).toNat
def EqAt(P:Program)(T:TypeId)(x y:Value)(b:Bool):Prop:=
 ∀(xo yo:Operand)(w:World),(do eqGuard .eql T xo yo x y;binOp .eql T x y:Sem Value).run P w=.ok (.bool b) w/\
  (do eqGuard .neq T xo yo x y;binOp .neq T x y:Sem Value).run P w=.ok (.bool !b) w
def eqX(P:Program)(T:TypeId)(kd:Kd)(x y:Value)(K:Bool->Prop):Prop:=
 match kd,x,y with
 | .bool,.bool a,.bool b=>K (a == b)
 | .ptr,.pointer a,.pointer none=>K a.isNone
 | .ptr,.pointer none,.pointer b=>K b.isNone
 | .slice _,.slice a _ _,.slice none _ _=>K a.isNone
 | .map ..,.map a,.map none=>K a.isNone
 | .func,.nilFunc,.nilFunc=>K true
 | .func,.func _ _ _,.nilFunc=>K false
 | _,x,y=>∃b,EqAt P T x y b/\K b
def binX(P:Program)(T:TypeId)(kd:Kd)(op:BinOp)(x y:Value)(K:Value->Prop):Prop:=
 match op,x,y with
 | .add,.int k a,.int j b=>sameK k j (K (.int k (k.wrap (a+b))))
 | .sub,.int k a,.int j b=>sameK k j (K (.int k (k.wrap (a-b))))
 | .mul,.int k a,.int j b=>sameK k j (K (.int k (k.wrap (a*b))))
 | .quo,.int k a,.int j b=>sameK k j (b≠0/\K (.int k (k.wrap (a.tdiv b))))
 | .rem,.int k a,.int j b=>sameK k j (b≠0/\K (.int k (a.tmod b)))
 | .eql,.int k a,.int j b=>sameK k j (K (.bool (a == b)))
 | .neq,.int k a,.int j b=>sameK k j (K (.bool (a != b)))
 | .lss,.int k a,.int j b=>sameK k j (K (.bool (decide (a<b))))
 | .leq,.int k a,.int j b=>sameK k j (K (.bool (decide (a<=b))))
 | .gtr,.int k a,.int j b=>sameK k j (K (.bool (decide (b<a))))
 | .geq,.int k a,.int j b=>sameK k j (K (.bool (decide (b<=a))))
 | .and,.int k a,.int j b=>sameK k j (K (.int k (bitsI .and k a b)))
 | .or,.int k a,.int j b=>sameK k j (K (.int k (bitsI .or k a b)))
 | .xor,.int k a,.int j b=>sameK k j (K (.int k (bitsI .xor k a b)))
 | .andNot,.int k a,.int j b=>sameK k j (K (.int k (bitsI .andNot k a b)))
 | .shl,.int k a,.int _ b=>0<=b/\K (.int k (k.wrap (a*2^(min b.toNat k.bits))))
 | .shr,.int k a,.int _ b=>0<=b/\K (.int k (a.fdiv (2^(min b.toNat k.bits))))
 | .eql,.string a,.string b=>K (.bool (a.toList == b.toList))
 | .neq,.string a,.string b=>K (.bool !(a.toList == b.toList))
 | .eql,x,y=>eqX P T kd x y fun b=>K (.bool b)
 | .neq,x,y=>eqX P T kd x y fun b=>K (.bool !b)
 | _,_,_=>False
def unX(op:UnOp)(x:Value)(K:Value->Prop):Prop:=
 match op,x with
 | .not,.bool b=>K (.bool !b)
 | .neg,.int k n=>K (.int k (k.wrap (0-n)))
 | .xor,.int k n=>K (.int k (bitsI .xor k (if k.signed then -1 else k.max) n))
 | _,_=>False
def mulS(n s:Nat):Nat:=
 match Nat.beq s 1 with
 | true=>n
 | false=>n*s
theorem mulS_eq(n s:Nat):mulS n s=n*s:=by
 unfold mulS
 split
 ·rename_i h
  rw[Nat.eq_of_beq_eq_true h,Nat.mul_one]
 ·rfl
def slAddr(p:Option Addr)(m l size:Nat):Option Addr:=if m=l then p else p.map (·.add (l*size))
def sliceX(size:Nat)(p:Option Addr)(n c:Nat)(lo hi mx:Option Value)(K:Value->Prop):Prop:=
 match lo,hi,mx with
 | none,none,none=>K (.slice (slAddr p c 0 size) n c)
 | some (.int _ l),none,none=>(0<=l/\l<=n)/\K (.slice (slAddr p c l.toNat size) (n-l.toNat) (c-l.toNat))
 | none,some (.int _ h),none=>(0<=h/\h<=c)/\K (.slice (slAddr p c 0 size) h.toNat c)
 | some (.int _ l),some (.int _ h),none=>(0<=l/\l<=h/\h<=c)/\K (.slice (slAddr p c l.toNat size) (h.toNat-l.toNat) (c-l.toNat))
 | none,some (.int _ h),some (.int _ m)=>(0<=h/\h<=m/\m<=c)/\K (.slice (slAddr p m.toNat 0 size) h.toNat m.toNat)
 | some (.int _ l),some (.int _ h),some (.int _ m)=>
  (0<=l/\l<=h/\h<=m/\m<=c)/\K (.slice (slAddr p m.toNat l.toNat size) (h.toNat-l.toNat) (m.toNat-l.toNat))
 | _,_,_=>False
def sliceStrX(s:ByteArray)(lo hi:Option Value)(K:Value->Prop):Prop:=
 match lo,hi with
 | none,none=>K (.string (s.extract 0 s.size))
 | some (.int _ l),none=>(0<=l/\l<=s.size)/\K (.string (s.extract l.toNat s.size))
 | none,some (.int _ h)=>(0<=h/\h<=s.size)/\K (.string (s.extract 0 h.toNat))
 | some (.int _ l),some (.int _ h)=>(0<=l/\l<=h/\h<=s.size)/\K (.string (s.extract l.toNat h.toNat))
 | _,_=>False
def partX(ti:TI)(cs:Array Value)(off:Nat)(K:Value->Prop):Prop:=
 match ti.kd.isAgg with
 | true=>K (.agg (takeL ti.size (dropL off cs.toList)).toArray)
 | false=>match nth cs.toList off with
  | some v=>K v
  | none=>∃v,cs[off]? =some v/\K v
def fillL(place:Nat->Option (Nat×Nat)):List Value->List (Nat×Value)->Option (List Value)
 | cells,[]=>some cells
 | cells,(i,v)::rest=>match place i with
  | none=>none
  | some pl=>match hasLen (cellsL v) pl.2,geLen cells (Nat.add pl.1 pl.2) with
   | true,true=>fillL place (appL (takeL pl.1 cells) (appL (cellsL v) (dropL (Nat.add pl.1 pl.2) cells))) rest
   | _,_=>none
def fillC(place:Nat->Option (Nat×Nat))(zero:List Value)(parts:List (Nat×Value))(K:Array Value->Prop):Prop:=
 match fillL place zero parts with
 | some cs=>K cs.toArray
 | none=>False
def allSome(tb:Tab):List (TypeId×Nat)->Bool
 | []=>true
 | q::l=>match tb q.1 with
  | some _=>allSome tb l
  | none=>false
def placesOf(tb:Tab)(fs:List (TypeId×Nat))(i:Nat):Option (Nat×Nat):=
 match nth fs i with
 | some q=>match tb q.1 with|some ti=>some (q.2,ti.size)|none=>none
 | none=>none
def pux(P:Program)(tb:Tab)(op:Op)(ρ:Operand->Value)(K:Value->Prop):Prop:=
 match op with
 | .move x | .assign x=>K (ρ x)
 | .pick c a b=>match ρ c with
  | .bool t=>IfB t (K (ρ a)) (K (ρ b))
  | _=>False
 | .nilCheck x=>match ρ x with
  | .pointer p=>∃b o,p=some ⟨b,o,none⟩/\K (.pointer (some ⟨b,o,none⟩))
  | .func (.func g) a b=>K (.func (.func g) a b)
  | _=>False
 | .binOp op T x y _=>match tb T with
  | some ti=>binX P T ti.kd op (ρ x) (ρ y) K
  | none=>False
 | .unOp op _ x=>unX op (ρ x) K
 | .convert src dst x=>match tb src,tb dst,ρ x with
  | some _,some ti,.int _ n=>match ti.kd with
   | .int k=>K (.int k (k.wrap n))
   | _=>False
  | _,_,_=>False
 | .makeFunc fn first captured=>K (.func fn (mapL ρ first.toList).toArray (mapL ρ captured.toList).toArray)
 | .fieldAddr s x i=>match tb s,ρ x with
  | some ti,.pointer (some ⟨b,o,none⟩)=>match ti.kd with
   | .struct fs=>match nth fs i with
    | some q=>match tb q.1 with
     | some tj=>match tj.size with
      | 0=>False
      | _+1=>K (.pointer (some ⟨b,o+q.2,none⟩))
     | none=>False
    | none=>False
   | _=>False
  | _,_=>False
 | .field s x i=>match tb s,ρ x with
  | some ti,.agg cs=>match ti.kd with
   | .struct fs=>match nth fs i with
    | some q=>match tb q.1 with
     | some tj=>partX tj cs q.2 K
     | none=>False
    | none=>False
   | _=>False
  | _,_=>False
 | .indexAddr T x ix=>match tb T,ρ x,ρ ix with
  | some ti,.slice p n _,.int _ i=>match ti.kd with
   | .slice e=>match tb e with
    | some te=>∃b o,p=some ⟨b,o,none⟩/\(0<=i/\i<n)/\K (.pointer (some ⟨b,o+mulS i.toNat te.size,none⟩))
    | none=>False
   | _=>False
  | some ti,.pointer (some ⟨b,o,none⟩),.int _ i=>match ti.kd with
   | .array n e=>match tb e with
    | some te=>(0<=i/\i<n)/\K (.pointer (some ⟨b,o+mulS i.toNat te.size,none⟩))
    | none=>False
   | _=>False
  | _,_,_=>False
 | .index T x ix=>match tb T,ρ x,ρ ix with
  | some ti,.agg cs,.int _ i=>match ti.kd with
   | .array n e=>match tb e with
    | some te=>(0<=i/\i<n)/\partX te cs (mulS i.toNat te.size) K
    | none=>False
   | _=>False
  | some ti,.string s,.int _ i=>match ti.kd with
   | .string=>∃b,0<=i/\s[i.toNat]? =some b/\K (.int .u8 b.toNat)
   | _=>False
  | _,_,_=>False
 | .slice T x lo hi mx=>match tb T,ρ x with
  | some ti,.slice p n c=>match ti.kd with
   | .slice e=>match tb e with
    | some te=>sliceX te.size p n c (optM ρ lo) (optM ρ hi) (optM ρ mx) K
    | none=>False
   | _=>False
  | some ti,.string s=>match ti.kd,mx with
   | .string,none=>sliceStrX s (optM ρ lo) (optM ρ hi) K
   | _,_=>False
  | some ti,.pointer (some ⟨b,o,none⟩)=>match ti.kd with
   | .array n e=>match tb e with
    | some te=>sliceX te.size (some ⟨b,o,none⟩) n n (optM ρ lo) (optM ρ hi) (optM ρ mx) K
    | none=>False
   | _=>False
  | _,_=>False
 | .extract t i=>match ρ t with
  | .tuple vs=>match nth vs.toList i with
   | some v=>K v
   | none=>False
  | _=>False
 | .build T parts=>match tb T with
  | some ti=>match ti.kd with
   | .struct fs=>match allSome tb fs with
    | true=>fillC (placesOf tb fs) (cellsL ti.zero) (mapL (fun q=>(q.1,ρ q.2)) parts.toList) fun cs=>K (.agg cs)
    | false=>False
   | .array _ e=>match tb e with
    | some te=>fillC (fun i=>some (i*te.size,te.size)) (cellsL ti.zero) (mapL (fun q=>(q.1,ρ q.2)) parts.toList) fun cs=>K (.agg cs)
    | none=>False
   | _=>False
  | none=>False
 | .makeInterface T x=>match tb T with
  | some ti=>match ti.kd with
   | .iface=>False
   | _=>K (.iface T (ρ x))
  | none=>False
 | .call c=>match c.callee,mapL ρ c.args.toList,c.argTypes.toList with
  | .builtin .len,[.slice _ n _],T::_=>match tb T with
   | some ti=>match ti.kd with
    | .slice _=>K (.int .i64 n)
    | _=>False
   | none=>False
  | .builtin .len,[.string s],T::_=>match tb T with
   | some ti=>match ti.kd with
    | .string=>K (.int .i64 s.size)
    | _=>False
   | none=>False
  | .builtin .len,[.agg _],T::_=>match tb T with
   | some ti=>match ti.kd with
    | .array n _=>K (.int .i64 n)
    | _=>False
   | none=>False
  | .builtin .cap,[.slice _ _ k],T::_=>match tb T with
   | some ti=>match ti.kd with
    | .slice _=>K (.int .i64 k)
    | _=>False
   | none=>False
  | .builtin .min,[.int k a,.int j b],_=>sameK k j (K (.int k (if b<a then b else a)))
  | .builtin .max,[.int k a,.int j b],_=>sameK k j (K (.int k (if a<b then b else a)))
  | _,_,_=>False
 | _=>False
def isPure:Op->Bool
 | .move _ | .assign _ | .pick .. | .nilCheck _ | .binOp .. | .unOp .. | .convert .. | .makeFunc .. | .fieldAddr .. | .field .. | .indexAddr .. | .index ..
 | .slice .. | .extract .. | .build .. | .makeInterface .. =>true
 | .call c=>match c.callee with
  | .builtin .len | .builtin .cap | .builtin .min | .builtin .max=>true
  | _=>false
 | _=>false
def Yv(P:Program)(op:Op)(T:TypeId)(ρ:Operand->Value)(v:Value):Prop:=
 ∀(w:World) dst pos after guard,(execOp ρ { dst,op,type:=T,pos,after,guard }).run P w=.ok (.value v) w
section
variable {P:Program} {tb:Tab} {ρ:Operand->Value} {K:Value->Prop}
theorem run_underlying_of{T:TypeId}{d:TypeDesc}(h:P.underlying T=some d)(w:World):(underlying T).run P w=.ok d w:=by
 simp[underlying,h]
theorem run_sizeOf_of{T:TypeId}{i:TI}(h:i.Ok P T)(w:World):(sizeOf T).run P w=.ok i.size w:=by
 obtain⟨j,hj,hs,_,_⟩:=h.row
 simp[sizeOf,typeInfo,hj,hs]
theorem run_typeInfo_of{T:TypeId}{i:TI}(h:i.Ok P T):∃j,j.size=i.size/\j.bytes=i.bytes/\j.zero=some i.zero/\∀w,(typeInfo T).run P w=.ok j w:=by
 obtain⟨j,hj,hs,hb,hz⟩:=h.row
 exact⟨j,hs,hb,hz,fun w=>by simp[typeInfo,hj]⟩
theorem run_zeroValue_of{T:TypeId}{i:TI}(h:i.Ok P T)(w:World):(zeroValue T).run P w=.ok i.zero w:=by
 obtain⟨j,hj,hs,hb,hz⟩:=h.row
 simp[zeroValue,typeInfo,hj,hz]
theorem run_isAgg_of{T:TypeId}{i:TI}(h:i.Ok P T)(w:World):(isAgg T).run P w=.ok i.kd.isAgg w:=by
 obtain⟨d,hd,hk⟩:=h.desc
 rw[<-hk]
 cases d<;>simp[isAgg,run_underlying_of hd,kdOf,Kd.isAgg]
theorem kd_slice{d:TypeDesc}{e:TypeId}(h:kdOf d=.slice e):d=.slice e:=by cases d<;>simp_all [kdOf]
theorem kd_struct{d:TypeDesc}{fs:List (TypeId×Nat)}(h:kdOf d=.struct fs):∃fs',d=.struct fs'/\fs'.toList.map (fun f=>(f.type,f.offset))=fs:=by
 cases d<;>simp_all [kdOf]
theorem kd_array{d:TypeDesc}{n:Nat}{e:TypeId}(h:kdOf d=.array n e):d=.array n e:=by cases d<;>simp_all [kdOf]
theorem kd_int{d:TypeDesc}{k:IntKind}(h:kdOf d=.int k):d=.int k:=by cases d<;>simp_all [kdOf]
theorem kd_string{d:TypeDesc}(h:kdOf d=.string):d=.string:=by cases d<;>simp_all [kdOf]
theorem kd_bool{d:TypeDesc}(h:kdOf d=.bool):d=.bool:=by cases d<;>simp_all [kdOf]
theorem kd_ptr{d:TypeDesc}(h:kdOf d=.ptr):∃e,d=.pointer e:=by cases d<;>simp_all [kdOf]
theorem kd_map{d:TypeDesc}{k e:TypeId}(h:kdOf d=.map k e):d=.map k e:=by cases d<;>simp_all [kdOf]
theorem kd_func{d:TypeDesc}(h:kdOf d=.func):∃a b c,d=.func a b c:=by cases d<;>simp_all [kdOf]
theorem addr_add(b o n:Nat):(Addr.mk b o none).add n=⟨b,o+n,none⟩:=by
 unfold Addr.add
 split
 ·rename_i h;subst h;rfl
 ·rfl
theorem run_part_of{T:TypeId}{i:TI}(h:i.Ok P T){cs:Array Value}{off:Nat}(hp:partX i cs off K):
  ∃v,K v/\∀w,(part T cs off).run P w=.ok v w:=by
 unfold partX at hp
 cases hk:i.kd.isAgg with
 | true=>
  rw[hk] at hp
  have e:(takeL i.size (dropL off cs.toList)).toArray=cs.extract off (off+i.size):=by
   apply Array.toList_inj.1
   simp[takeL_eq,dropL_eq,List.extract_eq_take_drop]
  dsimp only at hp
  rw[e] at hp
  exact⟨_,hp,fun w=>by simp[part,run_isAgg_of h,hk,run_sizeOf_of h]⟩
 | false=>
  rw[hk] at hp
  dsimp only at hp
  rw[nth_eq,Array.getElem?_toList] at hp
  split at hp
  ·rename_i v hv
   exact⟨v,hp,fun w=>by simp[part,run_isAgg_of h,hk,hv]⟩
  ·obtain⟨v,hv,hK⟩:=hp
   exact⟨v,hK,fun w=>by simp[part,run_isAgg_of h,hk,hv]⟩
theorem eqAt_of{T:TypeId}{x y:Value}{b:Bool}(h:∀n w,(Op.equalIn (n+1) T x y).run P w=.ok b w)
  (he:binOp .eql T x y=(do pure (.bool (<-Op.equal T x y))))(hn:binOp .neq T x y=(do pure (.bool (!(<-Op.equal T x y)))))
  (hg:∀op xo yo w,(eqGuard op T xo yo x y).run P w=.ok () w):EqAt P T x y b:=by
 intro xo yo w
 have h1:(Op.equal T x y).run P w=.ok b w:=h 9999 w
 constructor<;>simp[hg,he,hn,h1]
theorem eqX_sound{T:TypeId}{i:TI}(hi:i.Ok P T){x y:Value}{K:Bool->Prop}(h:eqX P T i.kd x y K):∃b,K b/\EqAt P T x y b:=by
 obtain⟨d,hd,hk⟩:=hi.desc
 unfold eqX at h
 split at h
 ·rename_i a b he
  rw[he] at hk
  have:=kd_bool hk;subst this
  exact⟨_,h,eqAt_of (fun n w=>by simp[Op.equalIn,run_underlying_of hd]) rfl rfl (fun op _ _ w=>by cases op<;>simp[eqGuard])⟩
 ·rename_i a he
  rw[he] at hk
  obtain⟨e,rfl⟩:=kd_ptr hk
  exact⟨_,h,by cases a<;>exact eqAt_of (fun n w=>by simp[Op.equalIn,run_underlying_of hd]) rfl rfl (fun op _ _ w=>by cases op<;>simp[eqGuard])⟩
 ·rename_i b _ he
  rw[he] at hk
  obtain⟨e,rfl⟩:=kd_ptr hk
  exact⟨_,h,by cases b<;>exact eqAt_of (fun n w=>by simp[Op.equalIn,run_underlying_of hd]) rfl rfl (fun op _ _ w=>by cases op<;>simp[eqGuard])⟩
 ·rename_i e a n c m k he
  rw[he] at hk
  have:=kd_slice hk;subst this
  exact⟨_,h,by cases a<;>exact eqAt_of (fun n w=>by simp[Op.equalIn,run_underlying_of hd]) rfl rfl (fun op _ _ w=>by cases op<;>simp[eqGuard])⟩
 ·rename_i kk e a he
  rw[he] at hk
  have:=kd_map hk;subst this
  exact⟨_,h,by cases a<;>exact eqAt_of (fun n w=>by simp[Op.equalIn,run_underlying_of hd]) rfl rfl (fun op _ _ w=>by cases op<;>simp[eqGuard])⟩
 ·rename_i he
  rw[he] at hk
  obtain⟨a,b,c,rfl⟩:=kd_func hk
  exact⟨_,h,eqAt_of (fun n w=>by simp[Op.equalIn,run_underlying_of hd]) rfl rfl (fun op _ _ w=>by cases op<;>simp[eqGuard])⟩
 ·rename_i he
  rw[he] at hk
  obtain⟨a,b,c,rfl⟩:=kd_func hk
  exact⟨_,h,eqAt_of (fun n w=>by simp[Op.equalIn,run_underlying_of hd]) rfl rfl (fun op _ _ w=>by cases op<;>simp[eqGuard])⟩
 ·obtain⟨b,hb,hK⟩:=h
  exact⟨b,hK,hb⟩
theorem run_binI{op:BinOp}{T:TypeId}{xo yo:Operand}{k:IntKind}{a b:Int}{v:Value}(w:World)
  (h:(binOp op T (.int k a) (.int k b)).run P w=.ok v w):
  (do eqGuard op T xo yo (.int k a) (.int k b);binOp op T (.int k a) (.int k b):Sem Value).run P w=.ok v w:=by
 cases op<;>simp[eqGuard]<;>exact h
theorem binX_sound{T:TypeId}{i:TI}(hi:i.Ok P T){op:BinOp}{x y:Value}(h:binX P T i.kd op x y K):
  ∃v,K v/\∀(xo yo:Operand)(w:World),(do eqGuard op T xo yo x y;binOp op T x y:Sem Value).run P w=.ok v w:=by
 unfold binX at h
 split at h
 case h_1=>obtain⟨rfl,h1⟩:=h.out;exact⟨_,h1,fun _ _ w=>run_binI w (by simp[binOp,Op.intArith])⟩
 case h_2=>obtain⟨rfl,h1⟩:=h.out;exact⟨_,h1,fun _ _ w=>run_binI w (by simp[binOp,Op.intArith])⟩
 case h_3=>obtain⟨rfl,h1⟩:=h.out;exact⟨_,h1,fun _ _ w=>run_binI w (by simp[binOp,Op.intArith])⟩
 case h_4=>obtain⟨rfl,hb,h1⟩:=h.out;exact⟨_,h1,fun _ _ w=>run_binI w (by simp[binOp,Op.intDiv,hb])⟩
 case h_5=>obtain⟨rfl,hb,h1⟩:=h.out;exact⟨_,h1,fun _ _ w=>run_binI w (by simp[binOp,Op.intDiv,hb])⟩
 case h_6=>obtain⟨rfl,h1⟩:=h.out;exact⟨_,h1,fun _ _ w=>run_binI w (by simp[binOp,Op.intCmp])⟩
 case h_7=>obtain⟨rfl,h1⟩:=h.out;exact⟨_,h1,fun _ _ w=>run_binI w (by simp[binOp,Op.intCmp])⟩
 case h_8=>obtain⟨rfl,h1⟩:=h.out;exact⟨_,h1,fun _ _ w=>run_binI w (by simp[binOp,Op.intCmp])⟩
 case h_9=>obtain⟨rfl,h1⟩:=h.out;exact⟨_,h1,fun _ _ w=>run_binI w (by simp[binOp,Op.intCmp])⟩
 case h_10=>obtain⟨rfl,h1⟩:=h.out;exact⟨_,h1,fun _ _ w=>run_binI w (by simp[binOp,Op.intCmp])⟩
 case h_11=>obtain⟨rfl,h1⟩:=h.out;exact⟨_,h1,fun _ _ w=>run_binI w (by simp[binOp,Op.intCmp])⟩
 case h_12=>obtain⟨rfl,h1⟩:=h.out;exact⟨_,h1,fun _ _ w=>run_binI w (by simp[binOp,Op.intBits,bitsI])⟩
 case h_13=>obtain⟨rfl,h1⟩:=h.out;exact⟨_,h1,fun _ _ w=>run_binI w (by simp[binOp,Op.intBits,bitsI])⟩
 case h_14=>obtain⟨rfl,h1⟩:=h.out;exact⟨_,h1,fun _ _ w=>run_binI w (by simp[binOp,Op.intBits,bitsI])⟩
 case h_15=>obtain⟨rfl,h1⟩:=h.out;exact⟨_,h1,fun _ _ w=>run_binI w (by simp[binOp,Op.intBits,bitsI])⟩
 case h_16=>obtain⟨hb,h1⟩:=h;exact⟨_,h1,fun _ _ w=>by simp[eqGuard,binOp,Op.shift,Int.not_lt.2 hb]⟩
 case h_17=>obtain⟨hb,h1⟩:=h;exact⟨_,h1,fun _ _ w=>by simp[eqGuard,binOp,Op.shift,Int.not_lt.2 hb]⟩
 case h_18=>exact⟨_,h,fun _ _ w=>by simp[eqGuard,binOp,Op.stringOp]⟩
 case h_19=>exact⟨_,h,fun _ _ w=>by simp[eqGuard,binOp,Op.stringOp]⟩
 case h_20 x y hx hy=>
  obtain⟨b,hK,hb⟩:=eqX_sound hi h
  exact⟨_,hK,fun xo yo w=>(hb xo yo w).1⟩
 case h_21 x y hx hy=>
  obtain⟨b,hK,hb⟩:=eqX_sound hi h
  exact⟨_,hK,fun xo yo w=>(hb xo yo w).2⟩
 case h_22=>exact h.elim
end
section
variable {P:Program} {tb:Tab} {ρ:Operand->Value} {K:Value->Prop}
theorem run_sliceBound{k:IntKind}{i:Int}{y:Nat}{code:BoundsCode}(h0:0<=i)(h1:i<=y)(w:World):
  (Instr.sliceBound (.int k i) y code).run P w=.ok i.toNat w:=by
 simp[Instr.sliceBound,asIntOf,h0,h1]
theorem sliceBounds_sound{b:Bool}{size:Nat}{p:Option Addr}{n c:Nat}{lo hi mx:Option Value}(h:sliceX size p n c lo hi mx K):
  ∃l h' m,(∀w,(Instr.sliceBounds b n c lo hi mx).run P w=.ok (l,h',m) w)/\K (.slice (slAddr p m l size) (h'-l) (m-l)):=by
 unfold sliceX at h
 split at h
 ·exact⟨0,n,c,fun w=>by simp[Instr.sliceBounds],h⟩
 ·rename_i k l
  obtain⟨⟨h0,h1⟩,hK⟩:=h
  exact⟨l.toNat,n,c,fun w=>by simp[Instr.sliceBounds,run_sliceBound h0 h1],hK⟩
 ·rename_i k hh
  obtain⟨⟨h0,h1⟩,hK⟩:=h
  exact⟨0,hh.toNat,c,fun w=>by simp[Instr.sliceBounds,run_sliceBound h0 h1],hK⟩
 ·rename_i k l k' hh
  obtain⟨⟨h0,h1,h2⟩,hK⟩:=h
  refine⟨l.toNat,hh.toNat,c,fun w=>?_,hK⟩
  have h3:0<=hh:=by omega
  have h4:l<=(hh.toNat:Int):=by omega
  simp[Instr.sliceBounds,run_sliceBound h3 h2,run_sliceBound h0 h4]
 ·rename_i k hh k' m
  obtain⟨⟨h0,h1,h2⟩,hK⟩:=h
  refine⟨0,hh.toNat,m.toNat,fun w=>?_,hK⟩
  have h3:0<=m:=by omega
  have h4:hh<=(m.toNat:Int):=by omega
  simp[Instr.sliceBounds,run_sliceBound h3 h2,run_sliceBound h0 h4]
 ·rename_i k l k' hh k'' m
  obtain⟨⟨h0,h1,h2,h3⟩,hK⟩:=h
  refine⟨l.toNat,hh.toNat,m.toNat,fun w=>?_,hK⟩
  have h4:0<=m:=by omega
  have h5:hh<=(m.toNat:Int):=by omega
  have h6:0<=hh:=by omega
  have h7:l<=(hh.toNat:Int):=by omega
  simp[Instr.sliceBounds,run_sliceBound h4 h3,run_sliceBound h6 h5,run_sliceBound h0 h7]
 ·exact h.elim
theorem sliceStr_sound{s:ByteArray}{lo hi:Option Value}(h:sliceStrX s lo hi K):
  ∃l h',(∀w,(Instr.sliceBounds false s.size s.size lo hi none).run P w=.ok (l,h',s.size) w)/\K (.string (s.extract l h')):=by
 unfold sliceStrX at h
 split at h
 ·exact⟨0,s.size,fun w=>by simp[Instr.sliceBounds],h⟩
 ·rename_i k l
  obtain⟨⟨h0,h1⟩,hK⟩:=h
  exact⟨l.toNat,s.size,fun w=>by simp[Instr.sliceBounds,run_sliceBound h0 h1],hK⟩
 ·rename_i k hh
  obtain⟨⟨h0,h1⟩,hK⟩:=h
  exact⟨0,hh.toNat,fun w=>by simp[Instr.sliceBounds,run_sliceBound h0 h1],hK⟩
 ·rename_i k l k' hh
  obtain⟨⟨h0,h1,h2⟩,hK⟩:=h
  refine⟨l.toNat,hh.toNat,fun w=>?_,hK⟩
  have h3:0<=hh:=by omega
  have h4:l<=(hh.toNat:Int):=by omega
  simp[Instr.sliceBounds,run_sliceBound h3 h2,run_sliceBound h0 h4]
 ·exact h.elim
theorem setAll_eq(off:Nat):∀(vs:List Value)(j:Nat)(cs:List Value),off+j+vs.length<=cs.length->
  ((vs.zipIdx j).foldl (fun(cs:Array Value) (x:Value×Nat)=>cs.setIfInBounds (off+x.2) x.1) cs.toArray).toList=cs.take (off+j)++vs++cs.drop (off+j+vs.length)
 | [],j,cs,_=>by simp
 | v::vs,j,cs,h=>by
  simp only[List.zipIdx_cons,List.foldl_cons]
  have e:cs.toArray.setIfInBounds (off+j) v=(cs.set (off+j) v).toArray:=by apply Array.toList_inj.1;simp
  rw[e,setAll_eq off vs (j+1) (cs.set (off+j) v) (by simp at h ⊢;omega)]
  simp only[List.length_cons] at h
  have hlt:off+j<cs.length:=by omega
  have h1:(cs.set (off+j) v).take (off+(j+1))=cs.take (off+j)++[v]:=by
   rw[List.set_eq_take_append_cons_drop,if_pos hlt,<-Nat.add_assoc,List.take_append]
   simp[Nat.min_eq_left (Nat.le_of_lt hlt),List.take_take,Nat.min_eq_right (Nat.le_succ (off+j))]
  have h2:(cs.set (off+j) v).drop (off+(j+1)+vs.length)=cs.drop (off+j+(vs.length+1)):=by
   rw[List.drop_set]
   rw[if_pos (by omega)]
   congr 1
   omega
  rw[h1,h2]
  simp
theorem fillL_fill{place:Nat->Option (Nat×Nat)}:∀(parts:List (Nat×Value))(zero cs:List Value),fillL place zero parts=some cs->Instr.fill place zero.toArray parts=some cs.toArray
 | [],zero,cs,h=>by simp only[fillL,Option.some.injEq] at h;subst h;rfl
 | (i,v)::rest,zero,cs,h=>by
  simp only[fillL] at h
  split at h
  ·cases h
  ·rename_i pl hp
   split at h
   ·rename_i h1 h2
    have h1:=hasLen_eq _ _ h1
    have h2:pl.1+pl.2<=zero.length:=geLen_le _ _ h2
    rw[cellsL_eq,Array.length_toList] at h1
    obtain⟨off,size⟩:=pl
    have ih:=fillL_fill rest _ cs h
    simp only[Instr.fill,hp]
    dsimp only at h1 h2
    rw[if_neg (by
     simp only[ne_eq,Bool.or_eq_true,decide_eq_true_eq,not_or,Classical.not_not]
     exact⟨h1,by simp[h1];omega⟩)]
    rw[<-ih]
    congr 1
    apply Array.toList_inj.1
    rw[<-Array.foldl_toList,Array.toList_zipIdx]
    have:=setAll_eq off v.cells.toList 0 zero (by simp[h1];omega)
    rw[this]
    simp[appL_eq,takeL_eq,dropL_eq,cellsL_eq,h1]
   ·cases h
theorem fillC_out{place:Nat->Option (Nat×Nat)}{zero:List Value}{parts:List (Nat×Value)}{K:Array Value->Prop}(h:fillC place zero parts K):
  ∃cs,Instr.fill place zero.toArray parts=some cs/\K cs:=by
 unfold fillC at h
 split at h
 ·rename_i cs he;exact⟨_,fillL_fill _ _ _ he,h⟩
 ·exact h.elim
theorem allSome_iff:∀ {l:List (TypeId×Nat)},allSome tb l=true->∀q∈l,∃ti,tb q.1=some ti
 | [],_,q,hq=>by simp at hq
 | q::l,h,q',hq=>by
  simp only[allSome] at h
  split at h
  ·rename_i ti hti
   rcases List.mem_cons.1 hq with rfl|hq
   ·exact⟨ti,hti⟩
   ·exact allSome_iff h q' hq
  ·cases h
theorem fill_congr{place place':Nat->Option (Nat×Nat)}(hp:∀i q,place i=some q->place' i=some q):
  ∀(parts:List (Nat×Value))(zero cs:Array Value),Instr.fill place zero parts=some cs->Instr.fill place' zero parts=some cs
 | [],_,_,h=>h
 | (i,v)::rest,zero,cs,h=>by
  simp only[Instr.fill] at h ⊢
  cases hq:place i with
  | none=>rw[hq] at h;cases h
  | some q=>
   obtain⟨off,size⟩:=q
   rw[hq] at h
   rw[hp i _ hq]
   simp only at h ⊢
   split at h
   ·cases h
   ·rename_i hc
    rw[if_neg hc]
    exact fill_congr hp rest _ _ h
theorem run_places(hT:tb.Ok P):∀(fs:List Field),(∀f∈fs,∃ti,tb f.type=some ti)->∀w,
  (fs.mapM (m:=Sem) fun f=>Prod.mk f.offset<$>sizeOf f.type).run P w=.ok (fs.map fun f=>(f.offset,match tb f.type with|some ti=>ti.size|none=>0)) w
 | [],_,w=>by simp
 | f::fs,h,w=>by
  obtain⟨ti,hti⟩:=h f (by simp)
  have ih:=run_places hT fs (fun g hg=>h g (by simp[hg])) w
  simp[List.mapM_cons,run_sizeOf_of (hT _ _ hti),ih,hti]
theorem placesOf_sub{fs:Array Field}{i:Nat}{q:Nat×Nat}(h:placesOf tb (fs.toList.map fun f=>(f.type,f.offset)) i=some q):
  (fs.map fun f=>(f.offset,match tb f.type with|some ti=>ti.size|none=>0))[i]? =some q:=by
 unfold placesOf at h
 simp only[nth_eq,List.getElem?_map,Array.getElem?_toList] at h
 simp only[Array.getElem?_map]
 cases hf:fs[i]? with
 | none=>rw[hf] at h;cases h
 | some f=>
  rw[hf] at h
  simp only[Option.map_some] at h ⊢
  cases ht:tb f.type with
  | none=>rw[ht] at h;cases h
  | some ti=>rw[ht] at h;exact h
theorem pux_build(hT:tb.Ok P){T:TypeId}{parts:Array (Nat×Operand)}{ty:TypeId}(h:pux P tb (.build T parts) ρ K):∃v,K v/\Yv P (.build T parts) ty ρ v:=by
 simp only[pux] at h
 cases htb:tb T with
 | none=>rw[htb] at h;exact h.elim
 | some ti=>
  rw[htb] at h
  have hi:=hT _ _ htb
  obtain⟨d,hd,hk⟩:=hi.desc
  dsimp only at h
  split at h
  ·rename_i fs he
   rw[he] at hk
   obtain⟨fs',rfl,rfl⟩:=kd_struct hk
   split at h
   ·rename_i hall
    obtain⟨cs,hf,hK⟩:=fillC_out h
    refine⟨_,hK,fun w dst pos after guard=>?_⟩
    have h1:=run_places hT fs'.toList (fun f hf=>allSome_iff hall (f.type,f.offset) (List.mem_map.2 ⟨f,hf,rfl⟩)) w
    have ez:(cellsL ti.zero).toArray=ti.zero.cells:=by rw[cellsL_eq,Array.toArray_toList]
    rw[ez,mapL_eq] at hf
    have h2:Instr.fill (fun x=>(fs'.map fun f=>(f.offset,match tb f.type with|some ti=>ti.size|none=>0))[x]?) ti.zero.cells (parts.toList.map fun q=>(q.1,ρ q.2))=some cs:=
     fill_congr (fun i q hq=>placesOf_sub hq) _ _ _ hf
    have h3:(fs'.mapM (m:=Sem) fun f=>Prod.mk f.offset<$>sizeOf f.type).run P w=.ok (fs'.map fun f=>(f.offset,match tb f.type with|some ti=>ti.size|none=>0)) w:=by
     rw[Array.mapM_eq_mapM_toList]
     simp only[Sem.run_map,h1,Result.andThen_ok,<-Array.toList_map,Array.toArray_toList]
    simp only[Array.getElem?_map] at h2
    simp[execOp,Instr.build,run_zeroValue_of hi,run_underlying_of hd,h3,h2]
   ·exact h.elim
  ·rename_i n e he
   rw[he] at hk
   have:=kd_array hk;subst this
   split at h
   ·rename_i te hte
    obtain⟨cs,hf,hK⟩:=fillC_out h
    refine⟨_,hK,fun w dst pos after guard=>?_⟩
    have ez:(cellsL ti.zero).toArray=ti.zero.cells:=by rw[cellsL_eq,Array.toArray_toList]
    rw[ez,mapL_eq] at hf
    simp[execOp,Instr.build,run_zeroValue_of hi,run_underlying_of hd,run_sizeOf_of (hT _ _ hte),hf]
   ·exact h.elim
  ·exact h.elim
theorem pux_sound(hT:tb.Ok P){op:Op}{ty:TypeId}(h:pux P tb op ρ K):∃v,K v/\Yv P op ty ρ v:=by
 cases op with
 | move x=>exact⟨_,h,fun w dst pos after guard=>by simp[execOp]⟩
 | assign x=>exact⟨_,h,fun w dst pos after guard=>by simp[execOp]⟩
 | pick c a b=>
  simp only[pux] at h
  split at h
  ·rename_i t ht
   rcases h.cases with ⟨rfl,h⟩|⟨rfl,h⟩
   ·exact⟨_,h,fun w dst pos after guard=>by simp[execOp,ht,asBool]⟩
   ·exact⟨_,h,fun w dst pos after guard=>by simp[execOp,ht,asBool]⟩
  ·exact h.elim
 | nilCheck x=>
  simp only[pux] at h
  split at h
  ·rename_i p hp
   obtain⟨b,o,rfl,h⟩:=h
   exact⟨_,h,fun w dst pos after guard=>by simp[execOp,hp]⟩
  ·rename_i g a b hp
   exact⟨_,h,fun w dst pos after guard=>by simp[execOp,hp]⟩
  ·exact h.elim
 | binOp bop T x y yT=>
  simp only[pux] at h
  split at h
  ·rename_i ti hti
   obtain⟨v,hK,hv⟩:=binX_sound (hT _ _ hti) h
   refine⟨v,hK,fun w dst pos after guard=>?_⟩
   have:=hv x y w
   simp only[execOp,Sem.run_bind,this,Result.andThen_ok,Sem.run_pure]
  ·exact h.elim
 | unOp uop T x=>
  simp only[pux,unX] at h
  split at h
  ·rename_i b hb
   exact⟨_,h,fun w dst pos after guard=>by simp[execOp,hb,Op.unary]⟩
  ·rename_i k n hb
   exact⟨_,h,fun w dst pos after guard=>by simp[execOp,hb,Op.unary,Op.intArith]⟩
  ·rename_i k n hb
   exact⟨_,h,fun w dst pos after guard=>by simp[execOp,hb,Op.unary,Op.intBits,bitsI]⟩
  ·exact h.elim
 | convert src dst x=>
  simp only[pux] at h
  split at h
  ·rename_i tj ti k n htj hti hx
   split at h
   ·rename_i k' hk'
    obtain⟨d,hd,hk⟩:=(hT _ _ hti).desc
    obtain⟨d',hd',_⟩:=(hT _ _ htj).desc
    rw[hk'] at hk
    have:=kd_int hk;subst this
    exact⟨_,h,fun w dst pos after guard=>by cases d'<;>simp[execOp,convert,run_underlying_of hd,run_underlying_of hd',hx,Conv.intToInt]⟩
   ·exact h.elim
  ·exact h.elim
 | makeFunc fn first captured=>
  simp only[pux,mapL_eq] at h
  have e:∀l:Array Operand,(List.map ρ l.toList).toArray=l.map ρ:=fun l=>by apply Array.toList_inj.1;simp
  rw[e,e] at h
  exact⟨_,h,fun w dst pos after guard=>by simp[execOp,Instr.makeFunc]⟩
 | fieldAddr s x i=>
  simp only[pux] at h
  split at h
  ·rename_i ti b o hti hx
   obtain⟨d,hd,hk⟩:=(hT _ _ hti).desc
   split at h
   ·rename_i fs he
    rw[he] at hk
    obtain⟨fs',rfl,rfl⟩:=kd_struct hk
    split at h
    ·rename_i q hf
     simp only[nth_eq,List.getElem?_map,Array.getElem?_toList,Option.map_eq_some_iff] at hf
     obtain⟨f,hf,rfl⟩:=hf
     split at h
     ·rename_i tj htj
      split at h
      ·exact h.elim
      ·rename_i m hm
       refine⟨_,h,fun w dst pos after guard=>?_⟩
       simp[execOp,Instr.fieldAt,run_underlying_of hd,hx,hf,Instr.sureAddr,fieldPlace,run_sizeOf_of (hT _ _ htj),hm,addr_add]
     ·exact h.elim
    ·exact h.elim
   ·exact h.elim
  ·exact h.elim
 | field s x i=>
  simp only[pux] at h
  split at h
  ·rename_i ti cs hti hx
   obtain⟨d,hd,hk⟩:=(hT _ _ hti).desc
   split at h
   ·rename_i fs he
    rw[he] at hk
    obtain⟨fs',rfl,rfl⟩:=kd_struct hk
    split at h
    ·rename_i q hf
     simp only[nth_eq,List.getElem?_map,Array.getElem?_toList,Option.map_eq_some_iff] at hf
     obtain⟨f,hf,rfl⟩:=hf
     split at h
     ·rename_i tj htj
      obtain⟨v,hK,hv⟩:=run_part_of (hT _ _ htj) h
      exact⟨v,hK,fun w dst pos after guard=>by simp[execOp,Instr.field,run_underlying_of hd,hx,hf,asAgg,hv]⟩
     ·exact h.elim
    ·exact h.elim
   ·exact h.elim
  ·exact h.elim
 | indexAddr T x ix=>
  simp only[pux] at h
  split at h
  ·rename_i ti p n c k i hti hx hix
   obtain⟨d,hd,hk⟩:=(hT _ _ hti).desc
   split at h
   ·rename_i e he
    rw[he] at hk
    have:=kd_slice hk;subst this
    split at h
    ·rename_i te hte
     obtain⟨b,o,rfl,hin,hK⟩:=h
     exact⟨_,hK,fun w dst pos after guard=>by simp[execOp,Instr.indexAt,run_underlying_of hd,hx,hix,asIntOf,run_sizeOf_of (hT _ _ hte),hin,addr_add,mulS_eq]⟩
    ·exact h.elim
   ·exact h.elim
  ·rename_i ti b o k i hti hx hix
   obtain⟨d,hd,hk⟩:=(hT _ _ hti).desc
   split at h
   ·rename_i n e he
    rw[he] at hk
    have:=kd_array hk;subst this
    split at h
    ·rename_i te hte
     obtain⟨hin,hK⟩:=h
     exact⟨_,hK,fun w dst pos after guard=>by simp[execOp,Instr.indexAt,run_underlying_of hd,hx,hix,asIntOf,Instr.sureAddr,run_sizeOf_of (hT _ _ hte),hin,addr_add,mulS_eq]⟩
    ·exact h.elim
   ·exact h.elim
  ·exact h.elim
 | index T x ix=>
  simp only[pux] at h
  split at h
  ·rename_i ti cs k i hti hx hix
   obtain⟨d,hd,hk⟩:=(hT _ _ hti).desc
   split at h
   ·rename_i n e he
    rw[he] at hk
    have:=kd_array hk;subst this
    split at h
    ·rename_i te hte
     obtain⟨hin,h⟩:=h
     rw[mulS_eq] at h
     obtain⟨v,hK,hv⟩:=run_part_of (hT _ _ hte) h
     exact⟨v,hK,fun w dst pos after guard=>by simp[execOp,Instr.index,run_underlying_of hd,hx,hix,asIntOf,run_sizeOf_of (hT _ _ hte),hin,hv]⟩
    ·exact h.elim
   ·exact h.elim
  ·rename_i ti s k i hti hx hix
   obtain⟨d,hd,hk⟩:=(hT _ _ hti).desc
   split at h
   ·rename_i he
    rw[he] at hk
    have:=kd_string hk;subst this
    obtain⟨b,h0,hb,hK⟩:=h
    exact⟨_,hK,fun w dst pos after guard=>by simp[execOp,Instr.index,run_underlying_of hd,hx,hix,asIntOf,h0,hb]⟩
   ·exact h.elim
  ·exact h.elim
 | slice T x lo hi mx=>
  simp only[pux] at h
  split at h
  ·rename_i ti p n c hti hx
   obtain⟨d,hd,hk⟩:=(hT _ _ hti).desc
   split at h
   ·rename_i e he
    rw[he] at hk
    have:=kd_slice hk;subst this
    split at h
    ·rename_i te hte
     rw[optM_eq,optM_eq,optM_eq] at h
     obtain⟨l,h',m,hb,hK⟩:=sliceBounds_sound (P:=P) (b:=true) h
     exact⟨_,hK,fun w dst pos after guard=>by simp[execOp,Instr.sliceAt,Instr.slice,run_underlying_of hd,hx,hb,run_sizeOf_of (hT _ _ hte),slAddr]⟩
    ·exact h.elim
   ·exact h.elim
  ·rename_i ti s hti hx
   obtain⟨d,hd,hk⟩:=(hT _ _ hti).desc
   split at h
   ·rename_i he
    rw[he] at hk
    have:=kd_string hk;subst this
    rw[optM_eq,optM_eq] at h
    obtain⟨l,h',hb,hK⟩:=sliceStr_sound (P:=P) h
    exact⟨_,hK,fun w dst pos after guard=>by simp[execOp,Instr.sliceAt,Instr.slice,run_underlying_of hd,hx,hb]⟩
   ·exact h.elim
  ·rename_i ti b o hti hx
   obtain⟨d,hd,hk⟩:=(hT _ _ hti).desc
   split at h
   ·rename_i n e he
    rw[he] at hk
    have:=kd_array hk;subst this
    split at h
    ·rename_i te hte
     rw[optM_eq,optM_eq,optM_eq] at h
     obtain⟨l,h',m,hb,hK⟩:=sliceBounds_sound (P:=P) (b:=false) h
     refine⟨_,hK,fun w dst pos after guard=>?_⟩
     by_cases hml:m=l
     ·subst hml
      simp[execOp,Instr.sliceAt,run_underlying_of hd,hx,hb,run_sizeOf_of (hT _ _ hte),slAddr,Instr.sureAddr]
     ·simp[execOp,Instr.sliceAt,run_underlying_of hd,hx,hb,run_sizeOf_of (hT _ _ hte),slAddr,Instr.sureAddr,hml]
    ·exact h.elim
   ·exact h.elim
  ·exact h.elim
 | extract t i=>
  simp only[pux] at h
  split at h
  ·rename_i vs hx
   rw[nth_eq,Array.getElem?_toList] at h
   split at h
   ·rename_i v hv
    exact⟨v,h,fun w dst pos after guard=>by simp[execOp,Instr.extract,hx,hv]⟩
   ·exact h.elim
  ·exact h.elim
 | build T parts=>exact pux_build hT h
 | makeInterface T x=>
  simp only[pux] at h
  split at h
  ·rename_i ti hti
   obtain⟨d,hd,hk⟩:=(hT _ _ hti).desc
   split at h
   ·exact h.elim
   ·rename_i hne
    refine⟨_,h,fun w dst pos after guard=>?_⟩
    cases d<;>simp[execOp,Instr.makeInterface,run_underlying_of hd]
    rw[<-hk] at hne
    exact(hne rfl).elim
  ·exact h.elim
 | call c=>
  simp only[pux] at h
  obtain⟨callee,args,argTypes⟩:=c
  have hargs:∀l,mapL ρ args.toList=l->args.map ρ=l.toArray:=fun l h=>by
   rw[mapL_eq] at h
   apply Array.toList_inj.1;simpa using h
  have hty:∀T l,argTypes.toList=T::l->argTypes[0]? =some T:=fun T l h=>by
   rw[<-Array.getElem?_toList,h];rfl
  have hE:∀(bi:Builtin) v,(∀w,(builtin bi argTypes ty (args.map fun | .const _=>true|_=>false) (args.map ρ)).run P w=.ok (.value v) w)->
    Yv P (.call ⟨.builtin bi,args,argTypes⟩) ty ρ v:=fun bi v hv w dst pos after guard=>by
   simp only[execOp,resolve,invoke,Sem.run_bind,Sem.run_pure,Result.andThen_ok]
   exact hv w
  dsimp only at h
  split at h
  case h_1 p n k T l hl hT'=>
   rw[hargs _ hl] at hE
   split at h
   ·rename_i ti hti
    obtain⟨d,hd,hk⟩:=(hT _ _ hti).desc
    split at h
    ·rename_i e he
     rw[he] at hk
     have:=kd_slice hk;subst this
     exact⟨_,h,hE _ _ (fun w=>by simp[builtin,Builtin.len_,hty _ _ hT',run_underlying_of hd,goInt])⟩
    ·exact h.elim
   ·exact h.elim
  case h_2 s T l hl hT'=>
   rw[hargs _ hl] at hE
   split at h
   ·rename_i ti hti
    obtain⟨d,hd,hk⟩:=(hT _ _ hti).desc
    split at h
    ·rename_i he
     rw[he] at hk
     have:=kd_string hk;subst this
     exact⟨_,h,hE _ _ (fun w=>by simp[builtin,Builtin.len_,hty _ _ hT',run_underlying_of hd,goInt])⟩
    ·exact h.elim
   ·exact h.elim
  case h_3 cs T l hl hT'=>
   rw[hargs _ hl] at hE
   split at h
   ·rename_i ti hti
    obtain⟨d,hd,hk⟩:=(hT _ _ hti).desc
    split at h
    ·rename_i n e he
     rw[he] at hk
     have:=kd_array hk;subst this
     exact⟨_,h,hE _ _ (fun w=>by simp[builtin,Builtin.len_,hty _ _ hT',run_underlying_of hd,goInt])⟩
    ·exact h.elim
   ·exact h.elim
  case h_4 p n k T l hl hT'=>
   rw[hargs _ hl] at hE
   split at h
   ·rename_i ti hti
    obtain⟨d,hd,hk⟩:=(hT _ _ hti).desc
    split at h
    ·rename_i e he
     rw[he] at hk
     have:=kd_slice hk;subst this
     exact⟨_,h,hE _ _ (fun w=>by simp[builtin,Builtin.cap_,hty _ _ hT',run_underlying_of hd,goInt])⟩
    ·exact h.elim
   ·exact h.elim
  case h_5 k a j b hl=>
   rw[hargs _ hl] at hE
   obtain⟨rfl,h1⟩:=h.out
   exact⟨_,h1,hE _ _ (fun w=>by simp[builtin,Builtin.min_,Builtin.min2])⟩
  case h_6 k a j b hl=>
   rw[hargs _ hl] at hE
   obtain⟨rfl,h1⟩:=h.out
   exact⟨_,h1,hE _ _ (fun w=>by simp[builtin,Builtin.max_,Builtin.max2])⟩
  case h_7=>exact h.elim
 | _=>exact h.elim
end
def CellsAt(w:World)(b o:Nat)(cs:List Value):Prop:=∀i v,cs[i]? =some v->w.cell? ⟨b,o+i,none⟩=some v
def CellsN(w:World)(b o n:Nat)(cs:List Value):Prop:=match hasLen cs n with
 | true=>CellsAt w b o cs
 | false=>False
def LdF(w:World)(ti:TI)(b o:Nat)(v:Value):Prop:=
 match ti.kd.isAgg with
 | true=>match v with
  | .agg cs=>match hasLen cs.toList ti.size with
   | true=>CellsAt w b o cs.toList
   | false=>False
  | _=>False
 | false=>w.cell? ⟨b,o,none⟩=some v
def LoadP(tb:Tab)(w:World)(T:TypeId)(p:Value)(K:Value->Prop):Prop:=
 match tb T,p with
 | some ti,.pointer (some ⟨b,o,none⟩)=>∃x:ti.sh.den,LdF w ti b o (ti.sh.enc x)/\K (ti.sh.enc x)
 | _,_=>False
def ReadC(w:World)(p:Option Addr)(m:Nat)(cs:List Value):Prop:=
 match p with
 | some ⟨b,o,none⟩=>cs.length=m/\CellsAt w b o cs
 | some _=>m=0/\cs=[]
 | none=>cs=[]
def spliceL(l:List Value)(o:Nat)(vs:List Value):List Value:=l.take o++vs++l.drop (o+vs.length)
def setsA(old:Array Value)(o:Nat)(vs:List Value):Array Value:=
 match vs with
 | [v]=>old.setIfInBounds o v
 | vs=>(spliceL old.toList o vs).toArray
theorem setsA_eq(old:Array Value)(o:Nat)(vs:List Value)(h:o+vs.length<=old.size):setsA old o vs=(spliceL old.toList o vs).toArray:=by
 unfold setsA
 split
 ·rename_i v
  apply Array.toList_inj.1
  simp only[Array.toList_setIfInBounds,spliceL,List.length_singleton]
  have ho:o<old.toList.length:=by simp at h;simp;omega
  rw[List.set_eq_take_append_cons_drop,if_pos ho]
  simp
 ·rfl
def StoreP(w:World)(b o:Nat)(vs:List Value)(K:World->Prop):Prop:=
 match vs with
 | []=>K w
 | v::vs=>∃old T,w.heap[b]? =some (.cells old T (0,0))/\o+(vs.length+1)<=old.size/\(∀x∈v::vs,x.oneCell'=true)/\
   UpdP w b (.cells (setsA old o (v::vs)) T (0,0)) K
def StoreV(w:World)(b o size:Nat)(v:Value)(K:World->Prop):Prop:=v.cells.size=size/\StoreP w b o v.cells.toList K
theorem isUpd_setRow{w:World}{b:Nat}{old new:Array Value}{T:TypeId}(h:w.heap[b]? =some (.cells old T (0,0))):
  IsUpd w b (.cells new T (0,0)) (w.setRow b new):=by
 refine⟨by simp[World.setRow],setRow_heap w b old new T (0,0) h,fun i hi=>?_,⟨rfl,rfl,rfl⟩⟩
 simp only[World.setRow,Array.getElem?_modify]
 rw[if_neg (Ne.symm hi)]
theorem StoreP.run{P:Program}{w:World}{b o:Nat}{vs:List Value}{K:World->Prop}(h:StoreP w b o vs K):
  ∃w',(storeCells ⟨b,o,none⟩ vs).run P w=.ok () w'/\K w':=by
 cases vs with
 | nil=>exact⟨w,by simp[storeCells],h⟩
 | cons v vs=>
  obtain⟨old,T,hb,hl,h1,hK⟩:=h
  refine⟨_,run_storeCells_at P b o T (v::vs) 0 old w hb (by simpa using hl) h1,?_⟩
  have:=hK (w.setRow b (setsA old o (v::vs))) (isUpd_setRow hb)
  rw[setsA_eq old o (v::vs) (by simpa using hl)] at this
  simpa [spliceL] using this
def CX(P:Program)(f:FuncId)(args:Array Value)(w:World)(R:RV):Prop:=
 CW P f args w R\/∃v w',(callFunc f args).run P w=.ok (.value v) w'/\R v w'
theorem CW.use{P:Program}{f:FuncId}{args:Array Value}{w:World}{R K:RV}(h:CW P f args w R)
  (hr:∀v w',R v w'->K v w'):CX P f args w K:=.inl (h.mono hr)
def TypedO(tb:Tab)(T:TypeId)(v:Value)(K:Value->Prop):Prop:=
 match tb T with
 | some ti=>Typed ti.sh v K
 | none=>K v
theorem TypedO.out{tb:Tab}{T:TypeId}{v:Value}{K:Value->Prop}(h:TypedO tb T v K):K v:=by
 unfold TypedO at h
 split at h
 ·exact h.out
 ·exact h
def zc(z:Array Value)(n:Nat):List Value:=(Builtin.zeroCells z n).toList
def Roomy(n bytes:Nat):Prop:=n<=4611686018427387904/\2*n*bytes<=281474976710656
def AppendP(te:TI)(e:TypeId)(w:World)(p:Option Addr)(n c cnt:Nat)(new:List Value)(K:Sl->World->Prop):Prop:=
 (n+cnt<=c->match p with
  | some ⟨b,o,none⟩=>StoreP w b (o+n*te.size) new fun w'=>K ⟨p,n+cnt,c⟩ w'
  | some _=>False
  | none=>K ⟨none,n+cnt,c⟩ w)/\
 (c<n+cnt->Roomy (n+cnt) te.bytes/\∃old,ReadC w p (n*te.size) old/\∀k,n+cnt<=k->
  AllocP w.drew (.cells (old++new++zc te.zero.cells (k-(n+cnt))).toArray e (0,0)) fun b w'=>K ⟨some ⟨b,0,none⟩,n+cnt,k⟩ w')
def CopyP(w:World)(size:Nat)(p:Option Addr)(n:Nat)(q:Option Addr)(m:Nat)(K:Int->World->Prop):Prop:=
 ∃cs,ReadC w q (Nat.min m n*size) cs/\match p with
  | some ⟨b,o,none⟩=>StoreP w b o cs fun w'=>K (Nat.min m n) w'
  | some _=>False
  | none=>K (Nat.min m n) w
def keyDesc:Kd->Option TypeDesc
 | .int k=>some (.int k)
 | _=>none
def MapRd(w:World)(m:Value)(es:List MapEntry):Prop:=
 match m with
 | .map none=>es=[]
 | .map (some r)=>∃a ck,w.heap[r]? =some (.map a ck)/\es=a.toList
 | _=>False
def denseL(size:Nat):Nat->List (Nat×Value)->Option (List Value)
 | _,[]=>some []
 | k,(i,v)::rest=>match Nat.beq i k,hasLen (cellsL v) size with
  | true,true=>match denseL size (Nat.succ k) rest with
   | some l=>some (appL (cellsL v) l)
   | none=>none
  | _,_=>none
def MapGetP(d:TypeDesc)(w:World)(m k z:Value)(K:Value->Bool->Prop):Prop:=
 ∃es,MapRd w m es/\∃r,Instr.findNow d k es 0=some r/\match r with
  | some (_,v)=>K v true
  | none=>K z false
def MapSetP(d:TypeDesc)(w:World)(m k x:Value)(K:World->Prop):Prop:=
 ∃r,m=.map (some r)/\∃es ck,w.heap[r]? =some (.map es ck)/\∃q,Instr.findNow d k es.toList 0=some q/\match q with
  | some (i,_)=>UpdP w r (.map (es.modify i fun e=>{ e with key:=k,val:=x }) ck) K
  | none=>UpdP w r (.map (es.push { key:=k,val:=x,born:=ck }) (ck+1)) K
def MapGetG(P:Program)(kt:TypeId)(w:World)(m k z:Value)(K:Value->Bool->Prop):Prop:=
 ∃es,MapRd w m es/\(∀b,(Instr.checkKey b 10000 kt k).run P w=.ok () w)/\∃r,(Instr.findKey kt k es).run P w=.ok r w/\match r with
  | some (_,v)=>K v true
  | none=>K z false
def MapSetG(P:Program)(kt:TypeId)(w:World)(m k x:Value)(K:World->Prop):Prop:=
 ∃r,m=.map (some r)/\∃es ck,w.heap[r]? =some (.map es ck)/\(∀b,(Instr.checkKey b 10000 kt k).run P w=.ok () w)/\∃q,(Instr.findKey kt k es.toList).run P w=.ok q w/\match q with
  | some (i,_)=>∃e,es[i]? =some e/\Instr.sameBits 10000 e.key k=true/\UpdP w r (.map (es.modify i fun e=>{ e with key:=k,val:=x }) ck) K
  | none=>UpdP w r (.map (es.push { key:=k,val:=x,born:=ck }) (ck+1)) K
def MapItP(w:World)(m:Value)(K:Nat->World->Prop):Prop:=
 (m=.map none/\AllocP w (.mapIter none 0 #[] 0) K)\/∃r es ck,m=.map (some r)/\w.heap[r]? =some (.map es ck)/\AllocP w (.mapIter (some r) ck #[] ck) K
def MapClearP(w:World)(p:Option Nat)(K:World->Prop):Prop:=
 match p with
 | none=>K w
 | some r=>∃es ck,w.heap[r]? =some (.map es ck)/\UpdP w r (.map #[] ck) K
def MapDelP(d:TypeDesc)(w:World)(p:Option Nat)(k:Value)(K:World->Prop):Prop:=
 match p with
 | none=>K w
 | some r=>∃es ck,w.heap[r]? =some (.map es ck)/\∃q,Instr.findNow d k es.toList 0=some q/\match q with
  | some (i,_)=>UpdP w r (.map (es.eraseIdxIfInBounds i) ck) K
  | none=>UpdP w r (.map es ck) K
def MapLenP(w:World)(p:Option Nat)(K:Nat->Prop):Prop:=
 match p with
 | none=>K 0
 | some r=>∃es ck,w.heap[r]? =some (.map es ck)/\K es.size
def NextP(w:World)(r:Nat)(K0:World->Prop)(K1:Value->RV):Prop:=
 (∃s q t,w.heap[r]? =some (.mapIter none s q t)/\K0 w)\/
 ∃m since seen last es clock,w.heap[r]? =some (.mapIter (some m) since seen last)/\w.heap[m]? =some (.map es clock)/\
  (seen.isEmpty=true\/es.isEmpty=true\/∃x∈es,x.born<last)/\
  ((∀x∈es,seen.contains x.born=false->since<=x.born)->∀d,K0 { w with drawn:=d })/\
  (∀x∈es,seen.contains x.born=false->∀d,UpdP { w with drawn:=d } r (.mapIter (some m) since (seen.push x.born) clock) fun w'=>K1 x.key x.val w')
def EntryP(w:World)(r:Nat)(K:Value->Value->Prop):Prop:=
 ∃m since seen ck es e,w.heap[r]? =some (.mapIter (some m) since seen ck)/\w.heap[m]? =some (.map es ck)/\seen.back?=some e.born/\es.find? (·.born == e.born)=some e/\K e.key e.val
def acx(P:Program)(tb:Tab)(o:Oper)(ρ:Operand->Value)(w:World)(K:RV):Prop:=
 match o.op with
 | .load T p=>LoadP tb w T (ρ p) fun v=>K v w
 | .box T x=>AllocP w (.cells (ρ x).cells T (0,0)) fun b w'=>K (.pointer (some ⟨b,0,none⟩)) w'
 | .alloc T=>match tb T with
  | some ti=>AllocP w (.cells ti.zero.cells T (0,0)) fun b w'=>K (.pointer (some ⟨b,0,none⟩)) w'
  | none=>False
 | .store T p x=>match tb T,ρ p with
  | some ti,.pointer (some ⟨b,o,none⟩)=>StoreV w b o ti.size (ρ x) fun w'=>K undef w'
  | _,_=>False
 | .buildSlice T len parts=>match tb T with
  | some ti=>match ti.kd with
   | .slice e=>match tb e with
    | some te=>match denseL te.size 0 (mapL (fun q=>(q.1,ρ q.2)) parts.toList),Nat.beq (lenL parts.toList) len with
     | some l,true=>len*te.size<=16777216/\AllocP w (.cells l.toArray e (0,0)) fun b w'=>K (.slice (some ⟨b,0,none⟩) len len) w'
     | _,_=>False
    | none=>False
   | _=>False
  | none=>False
 | .makeSlice T l c=>match tb T,ρ l,ρ c with
  | some ti,.int _ l,.int _ c=>match ti.kd with
   | .slice e=>match tb e with
    | some te=>(0<=l/\l<=c/\c<=281474976710656/\te.bytes*c<=281474976710656)/\
     AllocP w (.cells (zc te.zero.cells c.toNat).toArray e (0,0)) fun b w'=>K (.slice (some ⟨b,0,none⟩) l.toNat c.toNat) w'
    | none=>False
   | _=>False
  | _,_,_=>False
 | .makeMap T none=>match tb T with
  | some _=>AllocP w (.map #[] 0) fun b w'=>K (.map (some b)) w'
  | none=>False
 | .makeMap T (some r)=>match tb T,ρ r with
  | some ti,.int _ _=>match ti.kd with
   | .map .. =>AllocP w (.map #[] 0) fun b w'=>K (.map (some b)) w'
   | _=>False
  | _,_=>False
 | .lookup T m k ok=>match tb T with
  | some ti=>match ti.kd with
   | .map kt et=>match tb kt,tb et with
    | some tk,some te=>match keyDesc tk.kd with
     | some d=>MapGetP d w (ρ m) (ρ k) te.zero fun v b=>Typed te.sh v fun v=>match ok with
      | true=>K (.tuple #[v,.bool b]) w
      | false=>K v w
     | none=>MapGetG P kt w (ρ m) (ρ k) te.zero fun v b=>Typed te.sh v fun v=>match ok with
      | true=>K (.tuple #[v,.bool b]) w
      | false=>K v w
    | _,_=>False
   | _=>False
  | none=>False
 | .mapUpdate T m k x=>match tb T with
  | some ti=>match ti.kd with
   | .map kt _=>match tb kt with
    | some tk=>match keyDesc tk.kd with
     | some d=>MapSetP d w (ρ m) (ρ k) (ρ x) fun w'=>K undef w'
     | none=>MapSetG P kt w (ρ m) (ρ k) (ρ x) fun w'=>K undef w'
    | none=>False
   | _=>False
  | none=>False
 | .range T m=>match tb T with
  | some ti=>match ti.kd with
   | .map .. =>MapItP w (ρ m) fun b w'=>K (.pointer (some ⟨b,0,none⟩)) w'
   | _=>False
  | none=>False
 | .next it false=>match ρ it with
  | .pointer (some ⟨r,o,none⟩)=>match Nat.beq o 0 with
   | true=>NextP w r (fun w'=>K (.tuple #[.bool false]) w') fun k v w'=>K (.tuple #[.bool true,k,v]) w'
   | false=>False
  | _=>False
 | .entry it=>match ρ it with
  | .pointer (some ⟨r,o,none⟩)=>match Nat.beq o 0 with
   | true=>EntryP w r fun k v=>K (.tuple #[k,v]) w
   | false=>False
  | _=>False
 | .call c=>match c.callee with
  | .builtin .append=>match mapL ρ c.args.toList,c.argTypes.toList with
   | [.slice p n k,x],T::T2::_=>match tb T,tb T2 with
    | some ti,some t2=>match ti.kd with
     | .slice e=>match tb e with
      | some te=>match t2.kd,x with
       | .int _,.int _ m=>(0<=m/\m<=281474976710656/\m*te.bytes<=281474976710656)/\AppendP te e w p n k m.toNat (zc te.zero.cells m.toNat) fun s w'=>K (.slice s.p s.n s.c) w'
       | .slice _,.slice q m _=>∃cs,ReadC w q (m*te.size) cs/\AppendP te e w p n k m cs fun s w'=>K (.slice s.p s.n s.c) w'
       | _,_=>False
      | none=>False
     | _=>False
    | _,_=>False
   | _,_=>False
  | .builtin .copy=>match mapL ρ c.args.toList,c.argTypes.toList with
   | [.slice p n _,.slice q m _],T::_=>match tb T with
    | some ti=>match ti.kd with
     | .slice e=>match tb e with
      | some te=>CopyP w te.size p n q m fun n w'=>K (.int .i64 n) w'
      | none=>False
     | _=>False
    | none=>False
   | _,_=>False
  | .builtin .clear=>match mapL ρ c.args.toList,c.argTypes.toList with
   | [.slice p n _],T::_=>match tb T with
    | some ti=>match ti.kd with
     | .slice e=>match tb e with
      | some te=>match p with
       | none=>K (.tuple #[]) w
       | some ⟨b,o,none⟩=>StoreP w b o (zc te.zero.cells n) fun w'=>K (.tuple #[]) w'
       | some _=>False
      | none=>False
     | _=>False
    | none=>False
   | [.map p],T::_=>match tb T with
    | some _=>MapClearP w p fun w'=>K (.tuple #[]) w'
    | none=>False
   | _,_=>False
  | .builtin .delete=>match mapL ρ c.args.toList,c.argTypes.toList with
   | [.map p,k],T::_=>match tb T with
    | some ti=>match ti.kd with
     | .map kt _=>match tb kt with
      | some tk=>match keyDesc tk.kd with
       | some d=>MapDelP d w p k fun w'=>K (.tuple #[]) w'
       | none=>False
      | none=>False
     | _=>False
    | none=>False
   | _,_=>False
  | .builtin .len=>match mapL ρ c.args.toList,c.argTypes.toList with
   | [.map p],T::_=>match tb T with
    | some ti=>match ti.kd with
     | .map .. =>MapLenP w p fun n=>K (.int .i64 n) w
     | _=>False
    | none=>False
   | _,_=>False
  | .value g=>match ρ g with
   | .func (.func f) first captured=>CX P f (appL first.toList (appL (mapL ρ c.args.toList) captured.toList)).toArray w fun v w'=>TypedO tb o.type v fun v=>K v w'
   | .func (.yield l) first _=>YW P l (appL first.toList (mapL ρ c.args.toList)).toArray w fun b w'=>K (.bool b) w'
   | _=>False
  | _=>False
 | _=>False
def pureB(tb:Tab)(op:Op):Bool:=
 match op with
 | .call c=>match c.callee with
  | .builtin .len=>match c.argTypes.toList with
   | T::_=>match tb T with
    | some ti=>match ti.kd with
     | .map .. =>false
     | _=>true
    | none=>true
   | _=>true
  | .builtin .cap | .builtin .min | .builtin .max=>true
  | _=>false
 | op=>isPure op
def opx(P:Program)(tb:Tab)(o:Oper)(ρ:Operand->Value)(w:World)(K:RV):Prop:=
 match pureB tb o.op with
 | true=>pux P tb o.op ρ fun v=>K v w
 | false=>acx P tb o ρ w K
set_option linter.unusedSimpArgs false
def Runs(P:Program)(o:Oper)(ρ:Operand->Value)(w:World)(K:RV):Prop:=
 ∃n v w',(execOp ρ o).run P w=.ok n w'/\(n=.value v\/n=.skip/\v=undef)/\K v w'
section
variable {P:Program} {tb:Tab} {ρ:Operand->Value} {w:World} {K:RV}
theorem fz_fn(r:Option Nat)(f:FuncId):(fz r).fn f:=trivial
theorem fz_depth(r:Option Nat):(fz r).depth.isSome=true->1<=0:=fun h=>by cases h
theorem wpIn_of_upon{r:Option Nat}{o:Oper}{a:Act}{next:Act->World->Prop}{Q:Exit->Act->World->Prop}(hd:∀c,o.op≠ .defer c)
  (h:o.uponIn (fz r) 0 P a next Q ((execOp a.eval o).run P w)):o.wpIn (fz r) 0 P a w next Q:=by
 refine⟨fun f _=>fz_fn r f,?_⟩
 rw[Oper.semAt_eq _ _ _ hd]
 exact h
theorem Runs.wp{r:Option Nat}{o:Oper}{a:Act}{next:Act->World->Prop}{Q:Exit->Act->World->Prop}(h:Runs P o ρ w K)(ha:a.eval=ρ)
  (hd:∀c,o.op≠ .defer c)(hn:∀v w',K v w'->next (a.put o.dst v) w'):o.wpIn (fz r) 0 P a w next Q:=by
 obtain⟨n,v,w',hr,hv,hK⟩:=h
 refine wpIn_of_upon hd ?_
 rw[ha,hr]
 rcases hv with rfl|⟨rfl,rfl⟩
 ·exact hn _ _ hK
 ·exact hn _ _ hK
theorem loadCells_of{b o:Nat}{cs:List Value}(h:CellsAt w b o cs):(loadCells ⟨b,o,none⟩ cs.length).run P w=.ok cs.toArray w:=
 run_loadCells_list w _ cs fun j v hv=>by rw[addr_add];exact h j v hv
theorem loadVar_of{T:TypeId}{ti:TI}(hi:ti.Ok P T){b o:Nat}{v:Value}(h:LdF w ti b o v):(loadVar T ⟨b,o,none⟩).run P w=.ok v w:=by
 unfold LdF at h
 cases hk:ti.kd.isAgg with
 | true=>
  rw[hk] at h
  dsimp only at h
  split at h
  ·rename_i cs
   split at h
   ·rename_i hl
    have hl:=hasLen_eq _ _ hl
    have:=loadCells_of (P:=P) h
    rw[hl] at this
    simp[loadVar,run_isAgg_of hi,hk,run_sizeOf_of hi,this]
   ·exact h.elim
  ·exact h.elim
 | false=>
  rw[hk] at h
  simp[loadVar,run_isAgg_of hi,hk,run_load,show w.cell? ⟨b,o,none⟩=some v from h]
theorem firstCells_of{size n k:Nat}{p:Option Addr}{cs:List Value}{len:Nat}(h:ReadC w p (n*size) cs):
  (Builtin.firstCells size n (.slice p len k)).run P w=.ok cs.toArray w:=by
 unfold ReadC at h
 split at h
 ·rename_i b o
  have:=loadCells_of (P:=P) h.2
  rw[h.1] at this
  simpa [Builtin.firstCells] using this
 ·rename_i a _
  obtain⟨h1,rfl⟩:=h
  simp[Builtin.firstCells,h1,loadCells,loadCellsFrom]
 ·subst h;simp[Builtin.firstCells]
theorem run_newRow(e:TypeId)(cells:Array Value):(newRow e cells).run P w=.ok ⟨w.heap.size,0,none⟩ { w with heap:=w.heap.push (.cells cells e) }:=by
 simp[newRow]
theorem growBy_four(n c:Nat):Builtin.growBy n 4 c=
  if c ≥ n then c else
  if c+(c+768)/4 ≥ n then c+(c+768)/4 else
  if c+(c+768)/4+(c+(c+768)/4+768)/4 ≥ n then c+(c+768)/4+(c+(c+768)/4+768)/4 else
  if c+(c+768)/4+(c+(c+768)/4+768)/4+(c+(c+768)/4+(c+(c+768)/4+768)/4+768)/4 ≥ n
  then c+(c+768)/4+(c+(c+768)/4+768)/4+(c+(c+768)/4+(c+(c+768)/4+768)/4+768)/4 else
  c+(c+768)/4+(c+(c+768)/4+768)/4+(c+(c+768)/4+(c+(c+768)/4+768)/4+768)/4+
   (c+(c+768)/4+(c+(c+768)/4+768)/4+(c+(c+768)/4+(c+(c+768)/4+768)/4+768)/4+768)/4:=rfl
theorem nextslicecap_le(need c:Nat)(h:c<need):Builtin.nextslicecap need c<=2*need:=by
 unfold Builtin.nextslicecap
 split
 ·omega
 ·split
  ·omega
  ·rw[growBy_four]
   repeat' split
   all_goals omega
theorem grow_facts{T:TypeId}{te:TI}(he:te.Ok P T){p:Option Addr}{n k cnt:Nat}{oldc:List Value}
  (hold:ReadC w p (n*te.size) oldc)(hk:k<n+cnt)(hr:Roomy (n+cnt) te.bytes):
  ∃j,(∀w,(typeInfo T).run P w=.ok j w)/\¬(9223372036854775807:Int)<(n:Int)+(cnt:Int)/\¬281474976710656<Builtin.nextslicecap (n+cnt) k*j.bytes/\
   (Builtin.firstCells te.size n (.slice p n k)).run P w.drew=.ok oldc.toArray w.drew/\(∀z:Array Value,∀l:List Value,oldc.toArray++(l.toArray++z)=(oldc++l++z.toList).toArray)/\j.bytes=te.bytes:=by
 obtain⟨j,hjs,hjb,hjz,hj⟩:=run_typeInfo_of he
 refine⟨j,hj,?_,?_,firstCells_of (w:=w.drew) hold,fun z l=>by apply Array.toList_inj.1;simp,hjb⟩
 ·have:=hr.1
  omega
 ·have h3:=nextslicecap_le (n+cnt) k hk
  have h4:=hr.2
  rw[hjb]
  have h5:=Nat.mul_le_mul_right te.bytes h3
  omega
theorem cut_append(need k:Nat)(T:TypeId)(t:Nat):need<=(Question.appendCap need k T).cut t:=by simp[Question.cut]
theorem append_runs{o:Oper}{args:Array Operand}{argTypes:Array TypeId}(ho:o.op=.call ⟨.builtin .append,args,argTypes⟩)
  (h:∃v w',(Builtin.append_ argTypes o.type (args.map ρ)).run P w=.ok v w'/\K v w'):Runs P o ρ w K:=by
 obtain⟨dst,op,ty,pos,after,guard⟩:=o
 dsimp only at ho h
 subst ho
 obtain⟨v,w',hv,hK⟩:=h
 refine⟨_,v,w',?_,.inl rfl,hK⟩
 simp only[execOp,resolve,invoke,builtin,Sem.run_bind,Sem.run_pure,Result.andThen_ok,hv]
theorem append_slice{argTypes:Array TypeId}{ty:TypeId}{T T2 e:TypeId}{te:TI}{e2:TypeId}
  (hu:P.underlying T=some (.slice e))(h2:P.underlying T2=some (.slice e2))(he:te.Ok P e){p q:Option Addr}{n k m c:Nat}{new:List Value}
  (ht:argTypes[0]? =some T)(ht2:argTypes[1]? =some T2)(hnew:ReadC w q (m*te.size) new)
  (h:AppendP te e w p n k m new fun s w'=>K (.slice s.p s.n s.c) w'):∃v w',(Builtin.append_ argTypes ty #[.slice p n k,.slice q m c]).run P w=.ok v w'/\K v w':=by
 by_cases hfit:n+m<=k
 ·have h1:=h.1 hfit
  have hf:(Builtin.firstCells te.size m (.slice q m c)).run P w=.ok new.toArray w:=firstCells_of hnew
  split at h1
  ·rename_i b o
   obtain⟨w',hs,hK⟩:=h1.run (P:=P)
   refine⟨_,w',?_,hK⟩
   simp[Builtin.append_,ht,ht2,run_underlying_of hu,run_underlying_of h2,run_sizeOf_of he,Builtin.lenOf,hfit,hf,addr_add,hs]
  ·exact h1.elim
  ·refine⟨_,w,?_,h1⟩
   simp[Builtin.append_,ht,ht2,run_underlying_of hu,run_underlying_of h2,run_sizeOf_of he,Builtin.lenOf,hfit,hf]
 ·obtain⟨hr,old,hold,hK⟩:=h.2 (by omega)
  obtain⟨j,hj,h1,h2',hf,hA,_⟩:=grow_facts he hold (by omega:k<n+m) hr
  have hn:(Builtin.firstCells te.size m (.slice q m c)).run P w.drew=.ok new.toArray w.drew:=firstCells_of (w:=w.drew) hnew
  refine⟨_,_,?_,hK _ (cut_append (n+m) k e (w.tape w.drawn (.appendCap (n+m) k e))) _ _ (isAlloc_push _ _ (w.drawn+1))⟩
  simp only[zc,<-hA]
  simp[Builtin.append_,ht,ht2,run_underlying_of hu,run_underlying_of h2,run_sizeOf_of he,Builtin.lenOf,hfit,hj,h1,h2',hf,hn,run_zeroValue_of he,run_newRow,Question.forced]
  rfl
theorem wrap64_of{n:Int}(h0:0<=n)(h1:n<=281474976710656):IntKind.i64.wrap n=n:=by
 exact IntWalk.i64_in n (by omega)
theorem append_zeros{argTypes:Array TypeId}{ty:TypeId}{T T2 e:TypeId}{te:TI}{k2 ki:IntKind}
  (hu:P.underlying T=some (.slice e))(h2:P.underlying T2=some (.int k2))(he:te.Ok P e){p:Option Addr}{n k:Nat}{m:Int}
  (ht:argTypes[0]? =some T)(ht2:argTypes[1]? =some T2)(hm0:0<=m)(hm1:m<=281474976710656)(hm2:m*te.bytes<=281474976710656)(hz:te.zero.cells.size=te.size)
  (h:AppendP te e w p n k m.toNat (zc te.zero.cells m.toNat) fun s w'=>K (.slice s.p s.n s.c) w'):∃v w',(Builtin.append_ argTypes ty #[.slice p n k,.int ki m]).run P w=.ok v w'/\K v w':=by
 obtain⟨j,hjs,hjb,hjz,hj⟩:=run_typeInfo_of he
 have hw:IntKind.i64.wrap m=m:=wrap64_of hm0 hm1
 have hlt:¬m<0:=by omega
 have hle:¬(281474976710656:Int)<m*(j.bytes:Int):=by rw[hjb];omega
 have hz0:m.toNat*te.size=0->zc te.zero.cells m.toNat=[]:=fun h0=>by simp[zc,Builtin.zeroCells,hz,h0]
 by_cases hfit:n+m.toNat<=k
 ·have h1:=h.1 hfit
  split at h1
  ·rename_i b o
   obtain⟨w',hs,hK⟩:=h1.run (P:=P)
   refine⟨_,w',?_,hK⟩
   by_cases h0:m.toNat*te.size=0
   ·rw[hz0 h0] at hs
    skip
    simp[Builtin.append_,ht,ht2,run_underlying_of hu,run_underlying_of h2,run_sizeOf_of he,asInt,asIntOf,hw,hlt,hle,hj,hfit,h0,addr_add,hs]
   ·simp only[zc] at hs
    simp[Builtin.append_,ht,ht2,run_underlying_of hu,run_underlying_of h2,run_sizeOf_of he,asInt,asIntOf,hw,hlt,hle,hj,hfit,h0,addr_add,run_zeroValue_of he,hs]
  ·exact h1.elim
  ·refine⟨_,w,?_,h1⟩
   by_cases h0:m.toNat*te.size=0
   ·simp[Builtin.append_,ht,ht2,run_underlying_of hu,run_underlying_of h2,run_sizeOf_of he,asInt,asIntOf,hw,hlt,hle,hj,hfit,h0]
   ·simp[Builtin.append_,ht,ht2,run_underlying_of hu,run_underlying_of h2,run_sizeOf_of he,asInt,asIntOf,hw,hlt,hle,hj,hfit,h0,run_zeroValue_of he]
 ·obtain⟨hr,old,hold,hK⟩:=h.2 (by omega)
  obtain⟨j',hj',h1,h2',hf,hA,_⟩:=grow_facts he hold (by omega:k<n+m.toNat) hr
  obtain rfl:j=j':=by have:=(hj w).symm.trans (hj' w);simpa using this
  have h1':¬(9223372036854775807:Int)<(n:Int)+m:=by omega
  have h1'':¬(9223372036854775807:Int)<(n:Int)+max m 0:=by omega
  by_cases h0:m.toNat*te.size=0
  ·rw[hz0 h0] at hK
   simp only[List.append_nil] at hK
   have hA':=fun z=>hA z []
   simp only[List.append_nil,List.append_toArray,Array.empty_append] at hA'
   refine⟨_,_,?_,hK _ (cut_append (n+m.toNat) k e (w.tape w.drawn (.appendCap (n+m.toNat) k e))) _ _ (isAlloc_push _ _ (w.drawn+1))⟩
   simp only[zc,<-hA']
   simp[Builtin.append_,ht,ht2,run_underlying_of hu,run_underlying_of h2,run_sizeOf_of he,asInt,asIntOf,hw,hlt,hle,hj,hfit,h0,h1',h1'',h2',hf,run_zeroValue_of he,run_newRow,Question.forced]
   rfl
  ·have hA':=fun z=>hA z (Builtin.zeroCells te.zero.cells m.toNat).toList
   refine⟨_,_,?_,hK _ (cut_append (n+m.toNat) k e (w.tape w.drawn (.appendCap (n+m.toNat) k e))) _ _ (isAlloc_push _ _ (w.drawn+1))⟩
   simp only[zc,<-hA']
   simp[Builtin.append_,ht,ht2,run_underlying_of hu,run_underlying_of h2,run_sizeOf_of he,asInt,asIntOf,hw,hlt,hle,hj,hfit,h0,h1',h1'',h2',hf,run_zeroValue_of he,run_newRow,Question.forced]
   rfl
end
section
variable {P:Program} {tb:Tab} {ρ:Operand->Value} {w:World} {K:RV}
theorem load_runs(hT:tb.Ok P){o:Oper}{T:TypeId}{p:Operand}(ho:o.op=.load T p)(h:LoadP tb w T (ρ p) fun v=>K v w):Runs P o ρ w K:=by
 obtain⟨dst,op,ty,pos,after,guard⟩:=o
 dsimp only at ho
 subst ho
 unfold LoadP at h
 split at h
 ·rename_i ti b o hti hp
  obtain⟨x,hx,hK⟩:=h
  exact⟨_,_,w,by simp[execOp,Instr.loadAt,hp,Instr.sureAddr,loadVar_of (hT _ _ hti) hx],.inl rfl,hK⟩
 ·exact h.elim
theorem checkKey_of{kt:TypeId}{d:TypeDesc}(hu:P.underlying kt=some d)(hd:∃k,d=.int k)(b:Bool)(v:Value):
  (Instr.checkKey b 10000 kt v).run P w=.ok () w:=by
 have:∀n,(Instr.checkKey b (n+1) kt v).run P w=.ok () w:=fun n=>by
  obtain⟨k,rfl⟩:=hd
  cases v<;>simp[Instr.checkKey,run_underlying_of hu]
 exact this 9999
theorem findKey_of{kt:TypeId}{d:TypeDesc}(hu:P.underlying kt=some d){k:Value}{es:List MapEntry}{r:Option (Nat×Value)}(h:Instr.findNow d k es 0=some r):
  (Instr.findKey kt k es).run P w=.ok r w:=by
 simp[Instr.findKey,run_underlying_of hu,h]
theorem keyDesc_of{kd:Kd}{d:TypeDesc}(h:keyDesc kd=some d):∃k,d=.int k:=by
 cases kd<;>simp[keyDesc] at h<;>subst h<;>simp
theorem keyDesc_desc{kd:Kd}{d d':TypeDesc}(h:keyDesc kd=some d)(h':kdOf d'=kd):d'=d:=by
 cases kd<;>simp[keyDesc] at h
 rw[kd_int h',h]
theorem findNow_same{d:TypeDesc}{k:Value}:∀ {es:List MapEntry}{n i:Nat}{v:Value},Instr.findNow d k es n=some (some (i,v))->
  n<=i/\∃e,es[i-n]? =some e/\Instr.sameNow d k e.key=some true
 | [],n,i,v,h=>by simp[Instr.findNow] at h
 | e::es,n,i,v,h=>by
  simp only[Instr.findNow] at h
  split at h
  ·rename_i hs
   simp at h
   obtain⟨rfl,rfl⟩:=h
   exact⟨Nat.le_refl _,e,by simp,hs⟩
  ·obtain⟨h1,e',h2,h3⟩:=findNow_same h
   refine⟨by omega,e',?_,h3⟩
   rw[show i-n=(i-(n+1))+1 by omega]
   simpa using h2
  ·cases h
theorem sameBits_of{d:TypeDesc}{k old:Value}(hd:∃k,d=.int k)(h:Instr.sameNow d k old=some true):∀n,Instr.sameBits n old k=true:=fun n=>by
 obtain⟨kk,rfl⟩:=hd
 cases n<;>unfold Instr.sameNow at h<;>split at h<;>simp_all [Instr.sameBits]
theorem append_op(hT:tb.Ok P){o:Oper}{args:Array Operand}{argTypes:Array TypeId}(ho:o.op=.call ⟨.builtin .append,args,argTypes⟩)(h:acx P tb o ρ w K):Runs P o ρ w K:=by
 refine append_runs ho ?_
 unfold acx at h
 rw[ho] at h
 dsimp only at h
 split at h
 case h_2=>exact h.elim
 rename_i p n k x T T2 l ha ht
 have hargs:args.map ρ=#[.slice p n k,x]:=by rw[mapL_eq] at ha;apply Array.toList_inj.1;simpa using ha
 have ht1:argTypes[0]? =some T:=by rw[<-Array.getElem?_toList,ht];rfl
 have ht2:argTypes[1]? =some T2:=by rw[<-Array.getElem?_toList,ht];rfl
 rw[hargs]
 split at h
 case h_2=>exact h.elim
 rename_i ti t2 hti ht2'
 obtain⟨d,hd,hk⟩:=(hT _ _ hti).desc
 obtain⟨d2,hd2,hk2⟩:=(hT _ _ ht2').desc
 split at h
 case h_2=>exact h.elim
 rename_i e he
 rw[he] at hk
 have:=kd_slice hk;subst this
 split at h
 case h_2=>exact h.elim
 rename_i te hte
 split at h
 ·rename_i k2 ki m he2
  rw[he2] at hk2
  have:=kd_int hk2;subst this
  obtain⟨⟨h0,h1,h2⟩,h⟩:=h
  exact append_zeros hd hd2 (hT _ _ hte) ht1 ht2 h0 h1 h2 (hT _ _ hte).zsz h
 ·rename_i e2 q m c he2
  rw[he2] at hk2
  have:=kd_slice hk2;subst this
  obtain⟨cs,hcs,h⟩:=h
  exact append_slice hd hd2 (hT _ _ hte) ht1 ht2 hcs h
 ·exact h.elim
theorem builtin_runs{o:Oper}{b:Builtin}{args:Array Operand}{argTypes:Array TypeId}(ho:o.op=.call ⟨.builtin b,args,argTypes⟩)
  (h:∃v w',(builtin b argTypes o.type (args.map fun | .const _=>true|_=>false) (args.map ρ)).run P w=.ok (.value v) w'/\K v w'):Runs P o ρ w K:=by
 obtain⟨dst,op,ty,pos,after,guard⟩:=o
 dsimp only at ho h
 subst ho
 obtain⟨v,w',hv,hK⟩:=h
 refine⟨_,v,w',?_,.inl rfl,hK⟩
 simp only[execOp,resolve,invoke,Sem.run_bind,Sem.run_pure,Result.andThen_ok]
 exact hv
theorem run_getObj_of{r:Nat}{o:Obj}(h:w.heap[r]? =some o)(hc:∀a b c,o≠ .cells a b c):(getObj r).run P w=.ok o w:=by
 cases o<;>simp[getObj,Sem.run,h]
 exact(hc _ _ _ rfl).elim
theorem run_setObj_of{r:Nat}{o:Obj}(h:w.heap[r]? =some o)(hc:∀a b c,o≠ .cells a b c)(o':Obj):
  (setObj r o').run P w=.ok () { w with heap:=w.heap.setIfInBounds r o' }:=by
 cases o<;>simp[setObj,Sem.run,h]
 exact(hc _ _ _ rfl).elim
theorem isUpd_set{r:Nat}{o:Obj}(h:w.heap[r]? =some o)(o':Obj)(d:Nat):IsUpd w r o' { w with heap:=w.heap.setIfInBounds r o',drawn:=d }:=by
 have hr:r<w.heap.size:=(Array.getElem?_eq_some_iff.1 h).1
 refine⟨by simp,by simp[hr],fun i hi=>?_,⟨rfl,rfl,rfl⟩⟩
 show (w.heap.setIfInBounds r o')[i]? =_
 rw[Array.getElem?_setIfInBounds_ne (Ne.symm hi)]
theorem copy_op(hT:tb.Ok P){o:Oper}{args:Array Operand}{argTypes:Array TypeId}(ho:o.op=.call ⟨.builtin .copy,args,argTypes⟩)(h:acx P tb o ρ w K):Runs P o ρ w K:=by
 refine builtin_runs ho ?_
 unfold acx at h
 rw[ho] at h
 dsimp only at h
 split at h
 case h_2=>exact h.elim
 rename_i p n k q m c T l ha ht
 have hargs:args.map ρ=#[.slice p n k,.slice q m c]:=by rw[mapL_eq] at ha;apply Array.toList_inj.1;simpa using ha
 have ht1:argTypes[0]? =some T:=by rw[<-Array.getElem?_toList,ht];rfl
 rw[hargs]
 split at h
 case h_2=>exact h.elim
 rename_i ti hti
 obtain⟨d,hd,hk⟩:=(hT _ _ hti).desc
 split at h
 case h_2=>exact h.elim
 rename_i e he
 rw[he] at hk
 have:=kd_slice hk;subst this
 split at h
 case h_2=>exact h.elim
 rename_i te hte
 obtain⟨cs,hcs,h⟩:=h
 have hf:(Builtin.firstCells te.size (Nat.min m n) (.slice q m c)).run P w=.ok cs.toArray w:=firstCells_of hcs
 split at h
 ·rename_i b o
  obtain⟨w',hs,hK⟩:=h.run (P:=P)
  refine⟨_,w',?_,hK⟩
  simp[builtin,Builtin.copy_,ht1,run_underlying_of hd,Builtin.lenOf,run_sizeOf_of (hT _ _ hte),hf,hs,goInt]
 ·exact h.elim
 ·refine⟨_,w,?_,h⟩
  simp[builtin,Builtin.copy_,ht1,run_underlying_of hd,Builtin.lenOf,run_sizeOf_of (hT _ _ hte),hf,goInt]
theorem clear_op(hT:tb.Ok P){o:Oper}{args:Array Operand}{argTypes:Array TypeId}(ho:o.op=.call ⟨.builtin .clear,args,argTypes⟩)(h:acx P tb o ρ w K):Runs P o ρ w K:=by
 refine builtin_runs ho ?_
 unfold acx at h
 rw[ho] at h
 dsimp only at h
 split at h
 case h_3=>exact h.elim
 ·rename_i p n k T l ha ht
  have hargs:args.map ρ=#[.slice p n k]:=by rw[mapL_eq] at ha;apply Array.toList_inj.1;simpa using ha
  have ht1:argTypes[0]? =some T:=by rw[<-Array.getElem?_toList,ht];rfl
  rw[hargs]
  split at h
  case h_2=>exact h.elim
  rename_i ti hti
  obtain⟨d,hd,hk⟩:=(hT _ _ hti).desc
  split at h
  case h_2=>exact h.elim
  rename_i e he
  rw[he] at hk
  have:=kd_slice hk;subst this
  split at h
  case h_2=>exact h.elim
  rename_i te hte
  split at h
  ·exact⟨_,w,by simp[builtin,Builtin.clear_,ht1,run_underlying_of hd],h⟩
  ·rename_i b o
   obtain⟨w',hs,hK⟩:=h.run (P:=P)
   refine⟨_,w',?_,hK⟩
   cases n with
   | zero=>
    have:zc te.zero.cells 0=[]:=by simp[zc,Builtin.zeroCells]
    rw[this] at hs
    simp[storeCells] at hs
    subst hs
    simp[builtin,Builtin.clear_,ht1,run_underlying_of hd]
   | succ n=>
    simp only[zc] at hs
    simp[builtin,Builtin.clear_,ht1,run_underlying_of hd,run_zeroValue_of (hT _ _ hte),hs]
  ·exact h.elim
 ·rename_i p T l ha ht
  have hargs:args.map ρ=#[.map p]:=by rw[mapL_eq] at ha;apply Array.toList_inj.1;simpa using ha
  have ht1:argTypes[0]? =some T:=by rw[<-Array.getElem?_toList,ht];rfl
  rw[hargs]
  split at h
  case h_2=>exact h.elim
  rename_i ti hti
  obtain⟨d,hd,hk⟩:=(hT _ _ hti).desc
  cases p with
  | none=>exact⟨_,w,by simp[builtin,Builtin.clear_,ht1,run_underlying_of hd],h⟩
  | some r=>
   obtain⟨es,ck,hr,hK⟩:=h
   refine⟨_,_,?_,hK _ (isUpd_set hr (.map #[] ck) w.drawn)⟩
   have h1:=run_getObj_of (P:=P) hr (by simp)
   have h2:=run_setObj_of (P:=P) hr (by simp) (.map #[] ck)
   cases d<;>simp[builtin,Builtin.clear_,ht1,run_underlying_of hd,h1,h2]
theorem delete_op(hT:tb.Ok P){o:Oper}{args:Array Operand}{argTypes:Array TypeId}(ho:o.op=.call ⟨.builtin .delete,args,argTypes⟩)(h:acx P tb o ρ w K):Runs P o ρ w K:=by
 refine builtin_runs ho ?_
 unfold acx at h
 rw[ho] at h
 dsimp only at h
 split at h
 case h_2=>exact h.elim
 rename_i p k T l ha ht
 have hargs:args.map ρ=#[.map p,k]:=by rw[mapL_eq] at ha;apply Array.toList_inj.1;simpa using ha
 have ht1:argTypes[0]? =some T:=by rw[<-Array.getElem?_toList,ht];rfl
 rw[hargs]
 split at h
 case h_2=>exact h.elim
 rename_i ti hti
 obtain⟨d,hd,hk⟩:=(hT _ _ hti).desc
 split at h
 case h_2=>exact h.elim
 rename_i kt et he
 rw[he] at hk
 have:=kd_map hk;subst this
 split at h
 case h_2=>exact h.elim
 rename_i tk htk
 obtain⟨dk,hdk,hkk⟩:=(hT _ _ htk).desc
 split at h
 case h_2=>exact h.elim
 rename_i kd hkd
 have:=keyDesc_desc hkd hkk;subst this
 have hc:=fun b=>checkKey_of (P:=P) (w:=w) hdk (keyDesc_of hkd) b k
 cases p with
 | none=>exact⟨_,w,by simp[builtin,Builtin.delete_,ht1,run_underlying_of hd,hc],h⟩
 | some r=>
  obtain⟨es,ck,hr,q,hq,hK⟩:=h
  have h1:=run_getObj_of (P:=P) hr (by simp)
  have h3:=findKey_of (P:=P) (w:=w) hdk hq
  split at hK
  ·rename_i i v
   have h2:=run_setObj_of (P:=P) hr (by simp) (.map (es.eraseIdxIfInBounds i) ck)
   exact⟨_,_,by simp[builtin,Builtin.delete_,ht1,run_underlying_of hd,hc,h1,h2,h3],hK _ (isUpd_set hr _ w.drawn)⟩
  ·have h2:=run_setObj_of (P:=P) hr (by simp) (.map es ck)
   exact⟨_,_,by simp[builtin,Builtin.delete_,ht1,run_underlying_of hd,hc,h1,h2,h3],hK _ (isUpd_set hr _ w.drawn)⟩
theorem maplen_op(hT:tb.Ok P){o:Oper}{args:Array Operand}{argTypes:Array TypeId}(ho:o.op=.call ⟨.builtin .len,args,argTypes⟩)(h:acx P tb o ρ w K):Runs P o ρ w K:=by
 refine builtin_runs ho ?_
 unfold acx at h
 rw[ho] at h
 dsimp only at h
 split at h
 case h_2=>exact h.elim
 rename_i p T l ha ht
 have hargs:args.map ρ=#[.map p]:=by rw[mapL_eq] at ha;apply Array.toList_inj.1;simpa using ha
 have ht1:argTypes[0]? =some T:=by rw[<-Array.getElem?_toList,ht];rfl
 rw[hargs]
 split at h
 case h_2=>exact h.elim
 rename_i ti hti
 obtain⟨d,hd,hk⟩:=(hT _ _ hti).desc
 split at h
 case h_2=>exact h.elim
 rename_i kt et he
 rw[he] at hk
 have:=kd_map hk;subst this
 cases p with
 | none=>exact⟨_,w,by simp[builtin,Builtin.len_,ht1,run_underlying_of hd,goInt],h⟩
 | some r=>
  obtain⟨es,ck,hr,hK⟩:=h
  have h1:=run_getObj_of (P:=P) hr (by simp)
  exact⟨_,w,by simp[builtin,Builtin.len_,ht1,run_underlying_of hd,goInt,h1],hK⟩
theorem lookup_op(hT:tb.Ok P){o:Oper}{T:TypeId}{m k:Operand}{ok:Bool}(ho:o.op=.lookup T m k ok)(h:acx P tb o ρ w K):Runs P o ρ w K:=by
 obtain⟨dst,op,ty,pos,after,guard⟩:=o
 dsimp only at ho
 subst ho
 unfold acx at h
 dsimp only at h
 split at h
 case h_2=>exact h.elim
 rename_i ti hti
 obtain⟨d,hd,hk⟩:=(hT _ _ hti).desc
 split at h
 case h_2=>exact h.elim
 rename_i kt et he
 rw[he] at hk
 have:=kd_map hk;subst this
 split at h
 case h_2=>exact h.elim
 rename_i tk te htk hte
 obtain⟨dk,hdk,hkk⟩:=(hT _ _ htk).desc
 have ⟨es,hm,hc,r,h3,hK⟩:MapGetG P kt w (ρ m) (ρ k) te.zero fun v b=>Typed te.sh v fun v=>match (generalizing:=false) ok with
   | true=>K (.tuple #[v,.bool b]) w
   | false=>K v w:=by
  cases hkd:keyDesc tk.kd with
  | some kd=>
   rw[hkd] at h;dsimp only at h
   have:=keyDesc_desc hkd hkk;subst this
   obtain⟨es,hm,r,hr,hK⟩:=h
   exact⟨es,hm,fun b=>checkKey_of (P:=P) (w:=w) hdk (keyDesc_of hkd) b (ρ k),r,findKey_of (P:=P) (w:=w) hdk hr,hK⟩
  | none=>rw[hkd] at h;exact h
 have hz:=run_zeroValue_of (hT _ _ hte) w
 have hrun:∀v b,(match r with|some (_,v)=>(v,true)|none=>(te.zero,false))=(v,b)->
   (Instr.lookup T (ρ m) (ρ k) ok).run P w=.ok (if ok then .tuple #[v,.bool b] else v) w:=fun v b hvb=>by
  unfold MapRd at hm
  split at hm
  ·rename_i hm'
   subst hm
   cases r with
   | none=>simp only[Prod.mk.injEq] at hvb;obtain⟨rfl,rfl⟩:=hvb;simp[Instr.lookup,run_underlying_of hd,hm',hc,h3,hz]
   | some q=>simp only[Prod.mk.injEq] at hvb;obtain⟨rfl,rfl⟩:=hvb;simp[Instr.lookup,run_underlying_of hd,hm',hc,h3]
  ·rename_i r' hm'
   obtain⟨a,ck,hb,rfl⟩:=hm
   have h1:=run_getObj_of (P:=P) hb (by simp)
   cases r with
   | none=>simp only[Prod.mk.injEq] at hvb;obtain⟨rfl,rfl⟩:=hvb;simp[Instr.lookup,run_underlying_of hd,hm',h1,hc,h3,hz]
   | some q=>simp only[Prod.mk.injEq] at hvb;obtain⟨rfl,rfl⟩:=hvb;simp[Instr.lookup,run_underlying_of hd,hm',h1,hc,h3]
  ·exact hm.elim
 have hend:∀v b,(match r with|some (_,v)=>(v,true)|none=>(te.zero,false))=(v,b)->K (if ok then .tuple #[v,.bool b] else v) w->
   Runs P { dst,op:=.lookup T m k ok,type:=ty,pos,after,guard } ρ w K:=fun v b hvb hK=>
  ⟨_,_,w,by simp only[execOp,Sem.run_bind,hrun v b hvb,Result.andThen_ok,Sem.run_pure],.inl rfl,hK⟩
 cases r with
 | none=>
  have h:=Typed.out hK
  cases ok with
  | true=>exact hend _ _ rfl h
  | false=>exact hend _ _ rfl h
 | some q=>
  obtain⟨i,v⟩:=q
  have h:=Typed.out hK
  cases ok with
  | true=>exact hend _ _ rfl h
  | false=>exact hend _ _ rfl h
theorem mapUpdate_op(hT:tb.Ok P){o:Oper}{T:TypeId}{m k x:Operand}(ho:o.op=.mapUpdate T m k x)(h:acx P tb o ρ w K):Runs P o ρ w K:=by
 obtain⟨dst,op,ty,pos,after,guard⟩:=o
 dsimp only at ho
 subst ho
 unfold acx at h
 dsimp only at h
 split at h
 case h_2=>exact h.elim
 rename_i ti hti
 obtain⟨d,hd,hk⟩:=(hT _ _ hti).desc
 split at h
 case h_2=>exact h.elim
 rename_i kt et he
 rw[he] at hk
 have:=kd_map hk;subst this
 split at h
 case h_2=>exact h.elim
 rename_i tk htk
 obtain⟨dk,hdk,hkk⟩:=(hT _ _ htk).desc
 have ⟨r,hm,es,ck,hr,hc,q,h3,hK⟩:MapSetG P kt w (ρ m) (ρ k) (ρ x) fun w'=>K undef w':=by
  cases hkd:keyDesc tk.kd with
  | some kd=>
   rw[hkd] at h;dsimp only at h
   have:=keyDesc_desc hkd hkk;subst this
   obtain⟨r,hm,es,ck,hr,q,hq,hK⟩:=h
   refine⟨r,hm,es,ck,hr,fun b=>checkKey_of (P:=P) (w:=w) hdk (keyDesc_of hkd) b (ρ k),q,findKey_of (P:=P) (w:=w) hdk hq,?_⟩
   split at hK
   ·rename_i i v
    obtain⟨_,e,he,hs⟩:=findNow_same hq
    exact⟨e,by simpa using he,sameBits_of (keyDesc_of hkd) hs 10000,hK⟩
   ·exact hK
  | none=>rw[hkd] at h;exact h
 have h1:=run_getObj_of (P:=P) hr (by simp)
 split at hK
 ·rename_i i v
  obtain⟨e,he',hs,hK⟩:=hK
  have h4:(Instr.keyThatStays e.key (ρ k)).run P w=.ok (ρ k) w:=by simp[Instr.keyThatStays,hs]
  have h2:=run_setObj_of (P:=P) hr (by simp) (.map (es.modify i fun e=>{ e with key:=ρ k,val:=ρ x }) ck)
  exact⟨_,_,_,by simp[execOp,Instr.mapUpdate,run_underlying_of hd,hm,h1,hc,h3,he',h4,h2],.inr ⟨rfl,rfl⟩,hK _ (isUpd_set hr _ w.drawn)⟩
 ·have h2:=run_setObj_of (P:=P) hr (by simp) (.map (es.push { key:=ρ k,val:=ρ x,born:=ck }) (ck+1))
  exact⟨_,_,_,by simp[execOp,Instr.mapUpdate,run_underlying_of hd,hm,h1,hc,h3,h2],.inr ⟨rfl,rfl⟩,hK _ (isUpd_set hr _ w.drawn)⟩
end
section
variable {P:Program} {tb:Tab} {ρ:Operand->Value} {w:World} {K:RV}
theorem alloc_op{o:Oper}{obj:Obj}{v:Nat->Value}(hr:(execOp ρ o).run P w=.ok (.value (v w.heap.size)) { w with heap:=w.heap.push obj })
  (h:AllocP w obj fun b w'=>K (v b) w'):Runs P o ρ w K:=⟨_,_,_,hr,.inl rfl,h.use⟩
theorem denseL_fill{size:Nat}:∀(parts:List (Nat×Value))(k:Nat)(l:List Value)(done cells:List Value),denseL size k parts=some l->
  done.length=k*size->cells.length=parts.length*size->
  l.length=parts.length*size/\Instr.fill (fun i=>some (i*size,size)) (done++cells).toArray parts=some (done++l).toArray
 | [],k,l,done,cells,h,_,hc=>by
  simp only[denseL,Option.some.injEq] at h
  subst h
  have:cells=[]:=by simpa using hc
  subst this
  simp[Instr.fill]
 | (i,v)::rest,k,l,done,cells,h,hd,hc=>by
  simp only[denseL] at h
  split at h
  ·rename_i hik hsz
   have hik:i=k:=Nat.eq_of_beq_eq_true hik
   have hsz:v.cells.size=size:=by have:=hasLen_eq _ _ hsz;rw[cellsL_eq,Array.length_toList] at this;exact this
   subst hik
   split at h
   ·rename_i l' hl'
    simp only[Option.some.injEq,appL_eq,cellsL_eq] at h
    subst h
    have hlen:(rest.length+1)*size=size+rest.length*size:=by rw[Nat.add_mul];omega
    simp only[List.length_cons] at hc
    rw[hlen] at hc
    have hv:v.cells.toList.length=size:=by simpa using hsz
    obtain⟨h1,h2⟩:=denseL_fill rest (i+1) l' (done++v.cells.toList) (cells.drop size) hl' (by simp[hv,hd,Nat.add_mul]) (by simp;omega)
    refine⟨by simp only[List.length_append,List.length_cons];omega,?_⟩
    simp only[Instr.fill]
    rw[if_neg (by
     simp only[bne_iff_ne,ne_eq,Bool.or_eq_true,decide_eq_true_eq,not_or,Classical.not_not]
     refine⟨hsz,?_⟩
     simp only[List.size_toArray,List.length_append,hd,hc,hsz]
     omega)]
    have hfold:(v.cells.zipIdx.foldl (fun cs (x:Value×Nat)=>cs.setIfInBounds (i*size+x.2) x.1) (done++cells).toArray)=(done++v.cells.toList++cells.drop size).toArray:=by
     have key:∀(vs:List Value)(j:Nat)(d c:List Value),d.length=i*size+j->vs.length<=c.length->
       ((vs.zipIdx j).foldl (fun cs (x:Value×Nat)=>cs.setIfInBounds (i*size+x.2) x.1) (d++c).toArray)=(d++vs++c.drop vs.length).toArray:=by
      intro vs
      induction vs with
      | nil=>intro j d c _ _;simp
      | cons x xs ih=>
       intro j d c hd hc
       cases c with
       | nil=>simp at hc
       | cons y c=>
        simp only[List.zipIdx_cons,List.foldl_cons]
        have:(d++y::c).toArray.setIfInBounds (i*size+j) x=(d++[x]++c).toArray:=by
         apply Array.toList_inj.1
         simp only[Array.toList_setIfInBounds,List.append_assoc,List.singleton_append]
         rw[List.set_append,if_neg (by omega),show i*size+j-d.length=0 by omega]
         rfl
        rw[this,ih (j+1) (d++[x]) c (by simp;omega) (by simpa using hc)]
        simp
     have:=key v.cells.toList 0 done cells (by omega) (by omega)
     rw[hv] at this
     rw[<-this]
     rw[<-Array.foldl_toList]
     simp
    rw[hfold]
    simpa using h2
   ·cases h
  ·cases h
theorem buildSlice_op(hT:tb.Ok P){o:Oper}{T:TypeId}{len:Nat}{parts:Array (Nat×Operand)}(ho:o.op=.buildSlice T len parts)(h:acx P tb o ρ w K):Runs P o ρ w K:=by
 obtain⟨dst,op,ty,pos,after,guard⟩:=o
 dsimp only at ho
 subst ho
 unfold acx at h
 dsimp only at h
 split at h
 case h_2=>exact h.elim
 rename_i ti hti
 obtain⟨d,hd,hk⟩:=(hT _ _ hti).desc
 split at h
 case h_2=>exact h.elim
 rename_i e he
 rw[he] at hk
 have:=kd_slice hk;subst this
 split at h
 case h_2=>exact h.elim
 rename_i te hte
 split at h
 case h_2=>exact h.elim
 rename_i l hl hlen
 have hlen':parts.size=len:=by have:=Nat.eq_of_beq_eq_true hlen;rw[lenL_eq,Array.length_toList] at this;exact this
 rw[mapL_eq] at hl
 obtain⟨hle,hK⟩:=h
 have hz:=(hT _ _ hte).zsz
 let zero:Array Value:=if len*te.size=0 then #[] else te.zero.cells
 have h0:=denseL_fill (parts.toList.map fun q=>(q.1,ρ q.2)) 0 l [] ((Array.range (len*te.size)).map (fun x=>zero[x%zero.size]!)).toList hl (by simp) (by simp[hlen'])
 have hfill:Instr.fill (fun i=>some (i*te.size,te.size)) ((Array.range (len*te.size)).map (fun x=>zero[x%zero.size]!)) (parts.toList.map fun q=>(q.1,ρ q.2))=some l.toArray:=by
  have:=h0.2
  rw[List.nil_append,Array.toArray_toList] at this
  simpa only[List.nil_append] using this
 refine alloc_op (v:=fun b=>.slice (some ⟨b,0,none⟩) len len) ?_ hK
 have hle':¬16777216<len*te.size:=by omega
 by_cases hz0:len*te.size=0
 ·simp only[zero,if_pos hz0] at hfill
  simp[execOp,Instr.buildSlice,run_underlying_of hd,run_sizeOf_of (hT _ _ hte),hle',hz0] at hfill ⊢
  rw[hfill]
  simp[run_newRow]
 ·simp only[zero,if_neg hz0] at hfill
  simp only[execOp,Instr.buildSlice,Sem.run_bind,run_underlying_of hd,run_sizeOf_of (hT _ _ hte),Result.andThen_ok,if_neg hz0,run_zeroValue_of (hT _ _ hte),Sem.run_pure]
  rw[if_neg (by omega)]
  have hp:(parts.map fun x=>(x.1,ρ x.2)).toList=parts.toList.map fun q=>(q.1,ρ q.2):=by simp
  simp only[Sem.run_bind,Sem.run_pure,Result.andThen_ok,run_zeroValue_of (hT _ _ hte)]
  rw[hp,hfill]
  simp[run_newRow]
theorem next_op{o:Oper}{it:Operand}(ho:o.op=.next it false)(h:acx P tb o ρ w K):Runs P o ρ w K:=by
 obtain⟨dst,op,ty,pos,after,guard⟩:=o
 dsimp only at ho
 subst ho
 unfold acx at h
 dsimp only at h
 split at h
 case h_2=>exact h.elim
 rename_i r z hit
 split at h
 case h_2=>exact h.elim
 rename_i hz
 have hz:=Nat.eq_of_beq_eq_true hz
 subst hz
 rcases h with ⟨s,q,t,hr,hK⟩|⟨m,since,seen,last,es,clock,hr,hm,hbad,hover,hstep⟩
 ·have h1:=run_getObj_of (P:=P) hr (by simp)
  exact⟨_,_,w,by simp[execOp,Instr.next,hit,h1],.inl rfl,hK⟩
 ·have h1:=run_getObj_of (P:=P) hr (by simp)
  have h2:=run_getObj_of (P:=P) hm (by simp)
  have hnot:¬((!seen.isEmpty && !es.isEmpty&&es.all fun x=>decide (x.born ≥ last))=true):=by
   intro hb
   simp only[Bool.and_eq_true,Bool.not_eq_true'] at hb
   obtain⟨⟨hs,he⟩,hall⟩:=hb
   rcases hbad with h|h|⟨x,hx,hlt⟩
   ·rw[h] at hs;cases hs
   ·rw[h] at he;cases he
   ·have:=Array.all_eq_true_iff_forall_mem.1 hall x hx
    simp at this
    omega
  let left:=es.filter fun e=> !seen.contains e.born
  let old:=left.filter fun e=>decide (e.born<since)
  let new:=left.filter fun e=>decide (e.born ≥ since)
  let cand:Array (Option MapEntry):=(if old.isEmpty then #[none] else #[])++(old++new).map some
  have hcand:cand.size≠0:=by
   by_cases ho:old.isEmpty=true
   ·simp[cand,ho]
   ·have:0<old.size:=by
     rcases Nat.eq_zero_or_pos old.size with h|h
     ·exact(ho (by simp[Array.isEmpty,h])).elim
     ·exact h
    have:cand.size=old.size+new.size:=by simp[cand,ho]
    omega
  have hmem:∀(i:Nat) x,cand[i]? =some x->(x=none/\old.isEmpty=true)\/∃e,x=some e/\e∈es/\seen.contains e.born=false:=by
   intro i x hx
   have hx':x∈cand:=Array.mem_of_getElem? hx
   simp only[cand,Array.mem_append,Array.mem_map] at hx'
   rcases hx' with h|⟨e,he,rfl⟩
   ·by_cases ho:old.isEmpty=true
    ·simp[ho] at h;exact .inl ⟨h,ho⟩
    ·simp[ho] at h
   ·refine .inr ⟨e,rfl,?_⟩
    have:e∈left:=by rcases he with he|he<;>exact(Array.mem_filter.1 he).1
    have:=Array.mem_filter.1 this
    exact⟨this.1,by simpa using this.2⟩
  have hrun:∀(i:Nat) w1,(choose (.mapNext cand.size)).run P w=.ok i w1->
    (execOp ρ { dst,op:=.next it false,type:=ty,pos,after,guard }).run P w=
     ((match cand[i]? with
      | some (some e)=>do setObj r (.mapIter (some m) since (seen.push e.born) clock);pure (.tuple #[.bool true,e.key,e.val])
      | some none=>pure (.tuple #[.bool false])
      | none=>stuck "Next: no such candidate" :Sem Value).run P w1).andThen fun a w'=>.ok (.value a) w':=fun i w1 hc=>by
   simp only[execOp,Instr.next,hit,Sem.run_bind,h1,Result.andThen_ok,h2,if_neg hnot,Sem.run_pure]
   simp only[cand,left,old,new] at hc
   rw[hc]
   rfl
  have hchoose:∃i d,i<cand.size/\(choose (.mapNext cand.size)).run P w=.ok i { w with drawn:=d }:=by
   rw[run_choose]
   by_cases hf:(Question.mapNext cand.size).forced=true
   ·exact⟨0,w.drawn,Nat.pos_of_ne_zero hcand,by rw[if_pos hf]⟩
   ·exact⟨_,w.drawn+1,Nat.mod_lt _ (Nat.pos_of_ne_zero hcand),by rw[if_neg hf];rfl⟩
  obtain⟨i,d,hi,hc⟩:=hchoose
  have hr1:=hrun i _ hc
  have hget:cand[i]? =some cand[i]:=Array.getElem?_eq_getElem hi
  rcases hmem i _ hget with ⟨hn,hold⟩|⟨e,he,hes,hse⟩
  ·refine⟨_,_,_,?_,.inl rfl,hover (fun x hx hs=>?_) d⟩
   ·rw[hr1,hget,hn];rfl
   ·rcases Nat.lt_or_ge x.born since with hlt|hge
    ·have:x∈old:=Array.mem_filter.2 ⟨Array.mem_filter.2 ⟨hx,by simpa using hs⟩,by simpa using hlt⟩
     rw[Array.isEmpty_iff] at hold
     rw[hold] at this
     simp at this
    ·exact hge
  ·have hr':({ w with drawn:=d }:World).heap[r]? =some (.mapIter (some m) since seen last):=hr
   have h3:=run_setObj_of (P:=P) (w:={ w with drawn:=d }) hr' (by simp) (.mapIter (some m) since (seen.push e.born) clock)
   refine⟨_,_,_,?_,.inl rfl,hstep e hes hse d _ (isUpd_set (w:={ w with drawn:=d }) hr' _ d)⟩
   rw[hr1,hget,he]
   simp[h3]
theorem entry_op{o:Oper}{it:Operand}(ho:o.op=.entry it)(h:acx P tb o ρ w K):Runs P o ρ w K:=by
 obtain⟨dst,op,ty,pos,after,guard⟩:=o
 dsimp only at ho
 subst ho
 unfold acx at h
 dsimp only at h
 split at h
 case h_2=>exact h.elim
 rename_i r z hit
 split at h
 case h_2=>exact h.elim
 rename_i hz
 have hz:=Nat.eq_of_beq_eq_true hz
 subst hz
 obtain⟨m,since,seen,ck,es,e,hr,hm,hb,hf,hK⟩:=h
 have h1:=run_getObj_of (P:=P) hr (by simp)
 have h2:=run_getObj_of (P:=P) hm (by simp)
 exact⟨_,_,w,by simp[execOp,Instr.entry,hit,h1,h2,hb,hf],.inl rfl,hK⟩
theorem acx_sound(hT:tb.Ok P){o:Oper}{a:Act}(ha:a.eval=ρ){r:Option Nat}{next:Act->World->Prop}{Q:Exit->Act->World->Prop}
  (h:acx P tb o ρ w K)(hn:∀v w',K v w'->next (a.put o.dst v) w'):o.wpIn (fz r) 0 P a w next Q:=by
 obtain⟨dst,op,ty,pos,after,guard⟩:=o
 cases op with
 | load T p=>
  have h':LoadP tb w T (ρ p) fun v=>K v w:=h
  exact(load_runs hT rfl h').wp ha (by simp) hn
 | box T x=>
  have h':AllocP w (.cells (ρ x).cells T (0,0)) fun b w'=>K (.pointer (some ⟨b,0,none⟩)) w':=h
  exact(alloc_op (v:=fun b=>.pointer (some ⟨b,0,none⟩)) (by simp[execOp,Instr.box,newVar,run_newRow]) h').wp ha (by simp) hn
 | alloc T=>
  simp only[acx] at h
  split at h
  ·rename_i ti hti
   exact(alloc_op (v:=fun b=>.pointer (some ⟨b,0,none⟩)) (by simp[execOp,Instr.alloc,newVar,run_newRow,run_zeroValue_of (hT _ _ hti)]) h).wp ha (by simp) hn
  ·exact h.elim
 | store T p x=>
  simp only[acx] at h
  split at h
  ·rename_i ti b o hti hp
   obtain⟨hs,h⟩:=h
   obtain⟨w',hr,hK⟩:=h.run (P:=P)
   refine Runs.wp (K:=K) ⟨_,_,w',?_,.inr ⟨rfl,rfl⟩,hK⟩ ha (by simp) hn
   simp[execOp,Instr.storeAt,hp,Instr.sureAddr,storeVar,run_sizeOf_of (hT _ _ hti),hs,hr]
  ·exact h.elim
 | buildSlice T len parts=>exact(buildSlice_op hT rfl h).wp ha (by simp) hn
 | makeSlice T l c=>
  simp only[acx] at h
  split at h
  case h_2=>exact h.elim
  rename_i ti k1 l' k2 c' hti hl hc
  obtain⟨d,hd,hk⟩:=(hT _ _ hti).desc
  split at h
  case h_2=>exact h.elim
  rename_i e he
  rw[he] at hk
  have:=kd_slice hk;subst this
  split at h
  case h_2=>exact h.elim
  rename_i te hte
  obtain⟨⟨h0,h1,h2,h3⟩,h⟩:=h
  obtain⟨j,hjs,hjb,hjz,hj⟩:=run_typeInfo_of (hT _ _ hte)
  have hw1:IntKind.i64.wrap l'=l':=wrap64_of h0 (by omega)
  have hw2:IntKind.i64.wrap c'=c':=wrap64_of (by omega) h2
  have c1:¬c'<0:=by omega
  have c2:¬(281474976710656:Int)<(j.bytes:Int)*c':=by rw[hjb];omega
  have c3:¬l'<0:=by omega
  have c4:¬c'<l':=by omega
  have hz:=(hT _ _ hte).zsz
  refine(alloc_op (v:=fun b=>.slice (some ⟨b,0,none⟩) l'.toNat c'.toNat) ?_ h).wp ha (by simp) hn
  by_cases hn0:c'.toNat*te.size=0
  ·have hzc:zc te.zero.cells c'.toNat=[]:=by simp[zc,Builtin.zeroCells,hz,hn0]
   rw[hzc]
   simp[execOp,Instr.makeSlice,run_underlying_of hd,hl,hc,asInt,asIntOf,hj,hw1,hw2,c1,c2,c3,c4,run_sizeOf_of (hT _ _ hte),hn0,run_newRow]
   congr 2
   apply Array.toList_inj.1
   simp
  ·simp[execOp,Instr.makeSlice,run_underlying_of hd,hl,hc,asInt,asIntOf,hj,hw1,hw2,c1,c2,c3,c4,run_sizeOf_of (hT _ _ hte),hn0,run_newRow,run_zeroValue_of (hT _ _ hte),zc,Builtin.zeroCells,hz]
   congr 2
   apply Array.toList_inj.1
   simp
 | makeMap T r=>
  cases r with
  | none=>
   simp only[acx] at h
   split at h
   ·exact(alloc_op (v:=fun b=>.map (some b)) (by simp[execOp,Instr.makeMap]) h).wp ha (by simp) hn
   ·exact h.elim
  | some r=>
   simp only[acx] at h
   split at h
   ·rename_i ti k n hti hr
    obtain⟨d,hd,hk⟩:=(hT _ _ hti).desc
    split at h
    ·rename_i kt et he
     rw[he] at hk
     have:=kd_map hk;subst this
     exact(alloc_op (v:=fun b=>.map (some b)) (by simp[execOp,Instr.makeMap,run_underlying_of hd,hr,asInt,asIntOf]) h).wp ha (by simp) hn
    ·exact h.elim
   ·exact h.elim
 | lookup T m k ok=>exact(lookup_op hT rfl h).wp ha (by simp) hn
 | mapUpdate T m k x=>exact(mapUpdate_op hT rfl h).wp ha (by simp) hn
 | range T m=>
  simp only[acx] at h
  split at h
  case h_2=>exact h.elim
  rename_i ti hti
  obtain⟨d,hd,hk⟩:=(hT _ _ hti).desc
  split at h
  case h_2=>exact h.elim
  rename_i kt et he
  rw[he] at hk
  have:=kd_map hk;subst this
  rcases h with ⟨hm,h⟩|⟨r,es,ck,hm,hr,h⟩
  ·exact(alloc_op (v:=fun b=>.pointer (some ⟨b,0,none⟩)) (by simp[execOp,Instr.range,run_underlying_of hd,hm]) h).wp ha (by simp) hn
  ·have h1:=run_getObj_of (P:=P) hr (by simp)
   exact(alloc_op (v:=fun b=>.pointer (some ⟨b,0,none⟩)) (by simp[execOp,Instr.range,run_underlying_of hd,hm,h1]) h).wp ha (by simp) hn
 | next it isString=>
  cases isString with
  | false=>exact(next_op rfl h).wp ha (by simp) hn
  | true=>exact h.elim
 | entry it=>exact(entry_op rfl h).wp ha (by simp) hn
 | call c=>
  obtain⟨callee,args,argTypes⟩:=c
  cases callee with
  | builtin b=>
   cases b with
   | append=>exact(append_op hT rfl h).wp ha (by simp) hn
   | copy=>exact(copy_op hT rfl h).wp ha (by simp) hn
   | clear=>exact(clear_op hT rfl h).wp ha (by simp) hn
   | delete=>exact(delete_op hT rfl h).wp ha (by simp) hn
   | len=>exact(maplen_op hT rfl h).wp ha (by simp) hn
   | _=>exact h.elim
  | invoke _ _=>exact h.elim
  | value g=>
   simp only[acx] at h
   split at h
   ·rename_i f first cap hg
    refine wpIn_of_upon (by simp) ?_
    rw[ha]
    have ea:(appL first.toList (appL (mapL ρ args.toList) cap.toList)).toArray=first++args.map ρ++cap:=by
     apply Array.toList_inj.1;simp[appL_eq,mapL_eq]
    rw[ea] at h
    have hres:(execOp ρ { dst,op:=.call ⟨.value g,args,argTypes⟩,type:=ty,pos,after,guard }).run P w=(callFunc f (first++args.map ρ++cap)).run P w:=by
     simp[execOp,resolve,hg,Deferred.ofValue,invoke]
    rw[hres]
    rcases h with h|⟨v,w',hr,hK⟩
    ·rw[h.1]
     refine⟨fz_depth r,?_⟩
     refine fz_callsIn.2 (h.2.mono ?_)
     rintro e w' ⟨v,rfl,hK⟩
     exact hn _ _ hK.out
    ·rw[hr]
     exact hn _ _ hK.out
   ·rename_i l first cap hg
    refine wpIn_of_upon (by simp) ?_
    rw[ha]
    have ea:(appL first.toList (mapL ρ args.toList)).toArray=first++args.map ρ:=by
     apply Array.toList_inj.1;simp[appL_eq,mapL_eq]
    rw[ea] at h
    obtain⟨fn,tmps,assign,body,hy,hR⟩:=h
    have hres:(execOp ρ { dst,op:=.call ⟨.value g,args,argTypes⟩,type:=ty,pos,after,guard }).run P w=.ok (.round l fn tmps assign body) w:=by
     simp[execOp,resolve,hg,Deferred.ofValue,invoke,hy]
    rw[hres]
    refine⟨fz_depth r,fz_roundIn.2 (hR.mono ?_)⟩
    rintro e w' ⟨b,rfl,hK⟩
    exact hn _ _ hK
   ·exact h.elim
 | _=>exact h.elim
theorem opx_sound(hT:tb.Ok P){o:Oper}{a:Act}(ha:a.eval=ρ){r:Option Nat}{next:Act->World->Prop}{Q:Exit->Act->World->Prop}
  (h:opx P tb o ρ w K)(hn:∀v w',K v w'->next (a.put o.dst v) w'):o.wpIn (fz r) 0 P a w next Q:=by
 unfold opx at h
 split at h
 ·obtain⟨v,hK,hv⟩:=pux_sound hT (ty:=o.type) h
  obtain⟨dst,op,ty,pos,after,guard⟩:=o
  have hnd:∀c,op≠ .defer c:=fun c e=>by
   subst e;simp[pux] at h
  exact Runs.wp (K:=K) ⟨_,v,w,hv w dst pos after guard,.inl rfl,hK⟩ ha hnd hn
 ·exact acx_sound hT ha h hn
end
def eqB:Bool->Bool->Bool
 | true,true=>true
 | false,false=>true
 | _,_=>false
theorem eqB_eq(a b:Bool):eqB a b=(a == b):=by cases a<;>cases b<;>rfl
def dstAt(ops:List Oper)(j:Nat):Option Nat:=
 match nth ops j with
 | some o=>o.dst
 | none=>none
theorem dstAt_eq(ops:Array Oper)(j:Nat):dstAt ops.toList j=(ops[j]?).bind (·.dst):=by
 unfold dstAt
 rw[nth_eq,Array.getElem?_toList]
 cases ops[j]? <;> rfl
def gval(ops:Array Oper)(f:Fr)(j:Nat):Option Bool:=
 match dstAt ops.toList j with
 | some d=>match f d with
  | .bool b=>some b
  | _=>none
 | none=>none
def wantB(ops:Array Oper)(f:Fr)(o:Oper):Bool:=
 match o.guard with
 | none=>true
 | some q=>match gval ops f q.1 with
  | some b=>eqB b q.2
  | none=>false
def srcB:List Oper->Nat->Bool
 | [],_=>false
 | o::l,i=>match o.guard with
  | some q=>match Nat.beq q.1 i with
   | true=>true
   | false=>srcB l i
  | none=>srcB l i
def splitV(v:Value)(C:Value->Prop):Prop:=
 match v with
 | .bool b=>IfB b (C (.bool true)) (C (.bool false))
 | v=>C v
theorem splitV.out{v:Value}{C:Value->Prop}(h:splitV v C):C v:=by
 unfold splitV at h
 split at h
 ·rename_i b
  rcases h.cases with ⟨rfl,h⟩|⟨rfl,h⟩<;>exact h
 ·exact h
def spl(b:Bool)(v:Value)(C:Value->Prop):Prop:=
 match b with
 | true=>splitV v C
 | false=>C v
theorem spl.out{b:Bool}{v:Value}{C:Value->Prop}(h:spl b v C):C v:=by
 cases b
 ·exact h
 ·exact splitV.out h
def exl(P:Program)(tb:Tab)(ops:Array Oper):Nat->List Oper->Fr->World->(Fr->World->Prop)->Prop
 | _,[],f,w,K=>K f w
 | i,o::rest,f,w,K=>
  match wantB ops f o with
  | true=>opx P tb o (ev f) w fun v w'=>spl (srcB ops.toList i) v fun v=>exl P tb ops (Nat.succ i) rest (put f o.dst v) w' K
  | false=>exl P tb ops (Nat.succ i) rest (put f o.dst undef) w K
def dstOk(N:Nat)(ops:List Oper):Bool:=ops.all fun o=>match o.dst with|some d=>Nat.blt d N|none=>true
theorem dstOk.of{N:Nat}{ops:List Oper}(h:dstOk N ops=true){o:Oper}(ho:o∈ops):∀e,o.dst=some e->e<N:=by
 intro e he
 have:=List.all_eq_true.1 h o ho
 rw[he] at this
 rw[Nat.blt_eq] at this
 exact this
theorem wantB_eq{N:Nat}{ops:Array Oper}(hd:dstOk N ops.toList=true){a:Act}{f:Fr}{ds:List Df}(h:Rel N a f ds)(o:Oper):
  Region.wanted o (yielded ops a.tmps)=wantB ops f o:=by
 unfold Region.wanted wantB
 cases hg:o.guard with
 | none=>rfl
 | some q=>
  obtain⟨j,want⟩:=q
  dsimp only
  unfold gval
  rw[dstAt_eq]
  cases hj:(ops[j]?).bind (·.dst) with
  | none=>simp[yielded,hj]
  | some d=>
   have hN:d<N:=by
    cases ho:ops[j]? with
    | none=>rw[ho] at hj;cases hj
    | some oj=>
     rw[ho] at hj
     exact dstOk.of hd (Array.mem_toList_iff.2 (Array.mem_of_getElem? ho)) d hj
   rw[h.yielded ops j d hj hN]
   dsimp only
   cases f d with
   | bool b=>simp only[eqB_eq];cases b<;>cases want<;>rfl
   | _=>rfl
def dsts(ops:List Oper):List Nat:=ops.filterMap (·.dst)
def AgreeOff(l:List Nat)(f f':Fr):Prop:=∀t,t∉l->f' t=f t
theorem AgreeOff.refl(l:List Nat)(f:Fr):AgreeOff l f f:=fun _ _=>rfl
theorem AgreeOff.trans{l:List Nat}{f g h:Fr}(a:AgreeOff l f g)(b:AgreeOff l g h):AgreeOff l f h:=fun t ht=>(b t ht).trans (a t ht)
theorem AgreeOff.mono{l m:List Nat}{f g:Fr}(h:∀t,t∈l->t∈m)(a:AgreeOff l f g):AgreeOff m f g:=fun t ht=>a t fun h'=>ht (h t h')
theorem AgreeOff.put{l:List Nat}{f:Fr}{d:Option Nat}(h:∀e,d=some e->e∈l)(v:Value):AgreeOff l f (put f d v):=by
 intro t ht
 cases d with
 | none=>rfl
 | some d=>
  simp only[Gx.put]
  split
  ·rename_i hb
   have:=Nat.eq_of_beq_eq_true hb
   subst this
   exact(ht (h _ rfl)).elim
  ·rfl
section
variable {P:Program} {tb:Tab}
theorem exl_sound(hT:tb.Ok P){N:Nat}{ops:Array Oper}(hd:dstOk N ops.toList=true){r:Option Nat}{ds:List Df}{K:Fr->World->Prop}{Q:Exit->Act->World->Prop}{f₀:Fr}:
  ∀(l:List Oper)(i:Nat)(f:Fr)(a:Act)(w:World),(∀j,l[j]? =ops[i+j]?)->exl P tb ops i l f w K->Rel N a f ds->AgreeOff (dsts ops.toList) f₀ f->
   (∀f' a' w',Rel N a' f' ds->AgreeOff (dsts ops.toList) f₀ f'->K f' w'->Q .normal a' w')->wpOpsIn (fz r) 0 P ops Q (List.range' i l.length) a w
 | [],i,f,a,w,_,h,hR,hA,hK=>hK f a w hR hA h
 | o::rest,i,f,a,w,hl,h,hR,hA,hK=>by
  have h0:ops[i]? =some o:=by simpa using (hl 0).symm
  have hmem:o∈ops.toList:=Array.mem_toList_iff.2 (Array.mem_of_getElem? h0)
  have hdst:=dstOk.of hd hmem
  have hin:∀e,o.dst=some e->e∈dsts ops.toList:=fun e he=>List.mem_filterMap.2 ⟨o,hmem,he⟩
  have hl':∀j,rest[j]? =ops[i+1+j]? :=fun j=>by have:=hl (j+1);simpa [Nat.add_assoc,Nat.add_comm 1 j] using this
  simp only[List.length_cons,List.range'_succ,wpOpsIn,h0,wantB_eq hd hR]
  unfold exl at h
  cases hw:wantB ops f o with
  | true=>
   rw[hw] at h
   simp only[if_true]
   refine opx_sound hT hR.eval h fun v w' hv=>?_
   exact exl_sound hT hd rest (i+1) _ _ _ hl' hv.out (hR.put hdst v) (hA.trans (AgreeOff.put hin v)) hK
  | false=>
   rw[hw] at h
   simp only[Bool.false_eq_true,if_false]
   exact⟨fun f _=>fz_fn r f,exl_sound hT hd rest (i+1) _ _ _ hl' h (hR.put hdst undef) (hA.trans (AgreeOff.put hin undef)) hK⟩
end
def isLoad:Op->Bool
 | .load _ _=>true
 | _=>false
def stillB(tb:Tab)(ops:Array Oper)(i:Nat):Bool:=
 match ops[i]? with
 | some o=>pureB tb o.op||isLoad o.op
 | none=>false
def waitsB(ops:Array Oper)(i k:Nat):Bool:=((Region.before ops).getD k 0).testBit i
abbrev Pend:=List (Nat×(World->Prop))
def needB(tb:Tab)(ops:Array Oper)(listed:Array Bool)(i:Nat):Bool:=
 (List.range ops.size).all fun k=>stillB tb ops k || !listed.getD k false || !waitsB ops i k
def loadF(tb:Tab)(T:TypeId)(p v:Value):World->Prop:=fun w=>
 match tb T,p with
 | some ti,.pointer (some ⟨b,o,none⟩)=>LdF w ti b o v
 | _,_=>False
def beforeIn(ops:Array Oper):Bool:=
 (List.range ops.size).all fun k=>match ops[k]? with
  | some o=>(List.range ops.size).all fun i=> !waitsB ops i k||o.after.any fun e=>Region.binds .any e&&(e.on == i||waitsB ops i e.on)
  | none=>true
section
variable {P:Program} {tb:Tab} {ops:Array Oper} {r:Option Nat} {Q:Act->World->Prop} {S:List PanicEntry->Act->World->Prop}
def Q0(Q:Act->World->Prop)(S:List PanicEntry->Act->World->Prop):Exit->Act->World->Prop
 | .normal,a,w=>Q a w
 | .panic ch,a,w=>S ch a w
 | _,_,_=>False
def InvP(tb:Tab)(ops:Array Oper)(listed:Array Bool)(pend:Pend)(w:World):Prop:=∀q∈pend,needB tb ops listed q.1=true->q.2 w
def wpH(P:Program)(tb:Tab)(ops:Array Oper)(r:Option Nat)(Q:Act->World->Prop)(S:List PanicEntry->Act->World->Prop)(pend:Pend):Nat->Array Bool->Act->World->Prop
 | 0,listed,a,w=>InvP tb ops listed pend w/\Region.ready .any ops listed=[]/\Q a w
 | n+1,listed,a,w=>InvP tb ops listed pend w/\(Region.ready .any ops listed=[]->Q a w)/\
   ∀i∈Region.ready .any ops listed,wpOpIn (fz r) 0 P ops (Q0 Q S) i (wpH P tb ops r Q S pend n (listed.setIfInBounds i true)) a w
theorem wpH_any{pend:Pend}{Q':Exit->Act->World->Prop}(hQ:∀a w,Q a w->Q' .normal a w):∀(n:Nat)(listed:Array Bool)(a:Act)(w:World),
  wpH P tb ops r Q S pend n listed a w->wpAnyIn (fz r) 0 P .any ops (Q0 Q S) n listed a w
 | 0,_,_,_,h=>⟨h.2.1,h.2.2⟩
 | n+1,_,_,_,h=>⟨h.2.1,fun i hi=>wpOpIn_mono (fun a w h=>wpH_any hQ n _ a w h) (h.2.2 i hi)⟩
theorem wpH_inv{pend:Pend}:∀ {n:Nat}{listed:Array Bool}{a:Act}{w:World},wpH P tb ops r Q S pend n listed a w->InvP tb ops listed pend w
 | 0,_,_,_,h=>h.1
 | _+1,_,_,_,h=>h.1
theorem wpH_less{pend pend':Pend}(hs:∀q∈pend,q∈pend'):∀(n:Nat)(listed:Array Bool)(a:Act)(w:World),
  wpH P tb ops r Q S pend' n listed a w->wpH P tb ops r Q S pend n listed a w
 | 0,_,_,_,h=>⟨fun q hq=>h.1 q (hs q hq),h.2⟩
 | n+1,_,_,_,h=>⟨fun q hq=>h.1 q (hs q hq),h.2.1,fun i hi=>wpOpIn_mono (fun a w h=>wpH_less hs n _ a w h) (h.2.2 i hi)⟩
def YieldsV(P:Program)(ops:Array Oper)(o:Oper)(v:Value)(a:Act)(w:World):Prop:=
 (Region.wanted o (yielded ops a.tmps)=true/\(execOp a.eval o).run P w=.ok (.value v) w)\/(Region.wanted o (yielded ops a.tmps)=false/\v=undef)
theorem YieldsV.put(hns:Region.noSelect ops=true){i:Nat}{o oj:Oper}(hi:ops[i]? =some o){v u:Value}{a:Act}{w:World}(h:YieldsV P ops o v a w)(hap:o.apart ops oj=true):
  YieldsV P ops o v (a.put oj.dst u) w:=by
 obtain⟨_,_,h3⟩:=Oper.apart_spec hap
 unfold YieldsV at*
 rw[wanted_put o a oj.dst u h3,execOp_put o (fun cs b=>Region.noSelect_spec hns i o cs b hi) a oj.dst u h3]
 exact h
theorem YieldsV.congr{o:Oper}{v:Value}{a a':Act}{w:World}(h:YieldsV P ops o v a w)(ht:a'.tmps=a.tmps):YieldsV P ops o v a' w:=by
 have he:a'.eval=a.eval:=by
  funext x
  cases x<;>simp[Act.eval,ht]
 unfold YieldsV at*
 rw[he,ht]
 exact h
theorem YieldsV.wp{i:Nat}{o:Oper}(hi:ops[i]? =some o)(hnd:∀c,o.op≠ .defer c){v:Value}{a:Act}{w:World}{K:Act->World->Prop}(h:YieldsV P ops o v a w)(hK:K (a.put o.dst v) w):
  wpOpIn (fz r) 0 P ops (Q0 Q S) i K a w:=by
 unfold wpOpIn
 simp only[hi]
 rcases h with ⟨hw,hv⟩|⟨hw,rfl⟩
 ·simp only[hw,if_true]
  refine wpIn_of_upon hnd ?_
  rw[hv]
  exact hK
 ·simp only[hw,Bool.false_eq_true,if_false]
  exact⟨fun f _=>fz_fn r f,hK⟩
theorem wpOpIn_put(hns:Region.noSelect ops=true){j:Nat}{oi oj:Oper}(hj:ops[j]? =some oj)(hap:oi.apart ops oj=true)
  (hnd:∀c,oj.op≠ .defer c)(hSp:∀ch a v w,S ch (Act.put a oi.dst v) w->S ch a w){v:Value}{a:Act}{w:World}{K:Act->World->Prop}(h:wpOpIn (fz r) 0 P ops (Q0 Q S) j K (a.put oi.dst v) w):
  wpOpIn (fz r) 0 P ops (Q0 Q S) j (fun a' w'=>(∃u,a'.tmps=(a.put oj.dst u).tmps)/\K (a'.put oi.dst v) w') a w:=by
 have hj0:=hj
 obtain⟨h1,h2,h3⟩:=Oper.apart_spec hap
 unfold wpOpIn at*
 simp only[hj] at h ⊢
 rw[wanted_put oj a oi.dst v h1] at h
 split
 ·rename_i hw
  simp only[hw,if_true] at h
  refine wpIn_of_upon hnd ?_
  have h':=h.2
  rw[Oper.semAt_eq _ _ _ hnd,execOp_put oj (fun cs b=>Region.noSelect_spec hns j oj cs b hj0) a oi.dst v h1] at h'
  generalize (execOp a.eval oj).run P w=res at*
  cases res with
  | ok x w'=>
   cases x<;>simp only[Oper.uponIn] at h' ⊢
   case value u=>exact⟨⟨u,rfl⟩,by rw[<-Act.put_comm a v u h2];exact h'⟩
   case skip=>exact⟨⟨undef,rfl⟩,by rw[<-Act.put_comm a v undef h2];exact h'⟩
   case defer d=>
    refine⟨⟨undef,by cases oj.dst<;>rfl⟩,?_⟩
    have e:({ a.put oi.dst v with defers:=d::(a.put oi.dst v).defers }:Act)=({ a with defers:=d::a.defers }:Act).put oi.dst v:=Act.put_defers a oi.dst v d
    rw[e,Act.put_comm _ v undef h2] at h'
    exact h'
   case enter f args=>
    refine⟨h'.1,h'.2.mono ?_⟩
    intro e w'' he
    cases e with
    | returned u=>exact⟨⟨u,rfl⟩,by rw[<-Act.put_comm a v u h2];exact he⟩
    | panicked c=>exact hSp _ _ _ _ he
    | outgrown=>obtain⟨_,_,he⟩:=he;exact he.elim
   case row row args=>
    refine⟨h'.1,h'.2.mono ?_⟩
    intro u w'' he
    exact⟨⟨u,rfl⟩,by rw[<-Act.put_comm a v u h2];exact he⟩
   case round l f tmps assign body=>
    refine⟨h'.1,h'.2.mono ?_⟩
    intro e w'' he
    cases e with
    | returned u=>exact⟨⟨u,rfl⟩,by rw[<-Act.put_comm a v u h2];exact he⟩
    | panicked c=>exact hSp _ _ _ _ he
    | outgrown=>obtain⟨_,_,he⟩:=he;exact he.elim
  | halt x w'=>
   cases x<;>simp only[Oper.uponIn] at h' ⊢ <;> first|exact h'|exact hSp _ _ _ _ h'
 ·rename_i hw
  simp only[hw,if_false] at h
  exact⟨fun f _=>fz_fn r f,⟨undef,rfl⟩,by rw[<-Act.put_comm a v undef h2];exact h.2⟩
theorem needB_set{listed:Array Bool}{i j:Nat}(hi:stillB tb ops i=true):needB tb ops (listed.setIfInBounds i true) j=needB tb ops listed j:=by
 unfold needB
 congr 1
 funext k
 by_cases hk:k=i
 ·subst hk;simp[hi]
 ·rw[getD_set_ne false (Ne.symm hk)]
theorem wpH_first(hns:Region.noSelect ops=true)(hnd:∀(j:Nat)(o:Oper),ops[j]? =some o->∀c,o.op≠ .defer c){pend pend':Pend}(hs:∀q∈pend,q∈pend'){i:Nat}{oi:Oper}{v:Value}(hi:ops[i]? =some oi)
  (hstill:stillB tb ops i=true)(hSp:∀ch a v w,S ch (Act.put a oi.dst v) w->S ch a w):
  ∀(n:Nat)(listed:Array Bool)(a:Act)(w:World),HeadInv .any ops ops.size listed->
   (∀j oj,ops[j]? =some oj->j≠i->listed.getD j true=false->(∀e∈oj.after,Region.binds .any e=true->e.on≠i)->oi.apart ops oj=true)->
   i∈Region.ready .any ops listed->
   (∀listed' a' w',HeadInv .any ops ops.size listed'->i∈Region.ready .any ops listed'->InvP tb ops listed' pend' w'->(∀w,YieldsV P ops oi v a w->YieldsV P ops oi v a' w)->YieldsV P ops oi v a' w')->
   InvP tb ops listed pend' w->
   wpH P tb ops r Q S pend' n (listed.setIfInBounds i true) (a.put oi.dst v) w->wpH P tb ops r Q S pend (n+1) listed a w:=by
 intro n
 induction n with
 | zero=>
  intro listed a w hH hfree hr hy hinv H
  refine⟨fun q hq=>hinv q (hs q hq),fun h=>(by rw[h] at hr;cases hr),fun j hj=>?_⟩
  by_cases hji:j=i
  ·subst hji
   exact(hy listed a w hH hr hinv (fun _ h=>h)).wp hi (hnd j oi hi) (wpH_less hs 0 _ _ _ H)
  ·have:=ready_mono hj hji
   rw[H.2.1] at this
   cases this
 | succ n ih=>
  intro listed a w hH hfree hr hy hinv H
  refine⟨fun q hq=>hinv q (hs q hq),fun h=>(by rw[h] at hr;cases hr),fun j hj=>?_⟩
  by_cases hji:j=i
  ·subst hji
   exact(hy listed a w hH hr hinv (fun _ h=>h)).wp hi (hnd j oi hi) (wpH_less hs (n+1) _ _ _ H)
  ·have h1:=H.2.2 j (ready_mono hj hji)
   obtain⟨hjun,oj,hoj,hall⟩:=mem_ready.1 hj
   have hnot:∀e∈oj.after,Region.binds .any e=true->e.on≠i:=fun e he hb heq=>by
    have h2:=hall e he hb
    have h0:=(mem_ready.1 hr).1
    rw[heq] at h2
    rw[getD_both h0] at h2
    cases h2
   have hap:=hfree j oj hoj hji hjun hnot
   have h2:=wpOpIn_put hns hoj hap (hnd j oj hoj) hSp h1
   refine wpOpIn_mono (fun a' w' h3=>?_) h2
   obtain⟨⟨u,hu⟩,h3⟩:=h3
   have hH':HeadInv .any ops ops.size (listed.setIfInBounds j true):=hH.set hj (Array.getElem?_eq_some_iff.1 hoj).1
   have hfree':∀k ok,ops[k]? =some ok->k≠i->(listed.setIfInBounds j true).getD k true=false->
     (∀e∈ok.after,Region.binds .any e=true->e.on≠i)->oi.apart ops ok=true:=fun k ok hk hki hun hno=>by
    refine hfree k ok hk hki ?_ hno
    by_cases hjk:j=k
    ·subst hjk;exact hjun
    ·rw[getD_set_ne true hjk] at hun;exact hun
   have hkeep:∀w,YieldsV P ops oi v a w->YieldsV P ops oi v a' w:=fun w h=>((h.put (u:=u) hns hi hap).congr hu)
   have hinv':InvP tb ops (listed.setIfInBounds j true) pend' w':=fun q hq hn=>by
    have h4:=wpH_inv h3 q hq
    rw[Array.setIfInBounds_comm _ _ (Ne.symm hji),needB_set hstill] at h4
    exact h4 hn
   refine ih (listed.setIfInBounds j true) a' w' hH' hfree' (ready_mono hr (Ne.symm hji)) (fun l' a'' w'' a1 a2 a3 a4=>hy l' a'' w'' a1 a2 a3 (fun w h=>a4 w (hkeep w h))) hinv' ?_
   rw[Array.setIfInBounds_comm _ _ hji]
   exact h3
theorem before_edge(hb:beforeIn ops=true){i k:Nat}{o:Oper}(hk:ops[k]? =some o)(hw:waitsB ops i k=true)(hi:i<ops.size):
  ∃e∈o.after,Region.binds .any e=true/\(e.on=i\/waitsB ops i e.on=true):=by
 have h1:=List.all_eq_true.1 hb k (List.mem_range.2 (Array.getElem?_eq_some_iff.1 hk).1)
 rw[hk] at h1
 have h2:=List.all_eq_true.1 h1 i (List.mem_range.2 hi)
 rw[hw] at h2
 simp only[Bool.not_true,Bool.false_or] at h2
 obtain⟨e,he,h3⟩:=Array.any_eq_true'.1 h2
 simp only[Bool.and_eq_true,Bool.or_eq_true,beq_iff_eq] at h3
 exact⟨e,he,h3.1,h3.2⟩
theorem not_done(hb:beforeIn ops=true)(hlt:∀(k:Nat)(o:Oper),ops[k]? =some o->∀e∈o.after,Region.binds .any e=true->e.on<k){listed:Array Bool}(hH:HeadInv .any ops ops.size listed){i:Nat}(hi:i<ops.size)(hun:listed.getD i true=false):
  ∀k,waitsB ops i k=true->listed.getD k false=true->False:=by
 intro k
 induction k using Nat.strongRecOn with
 | _ k ih=>
  intro hw hl
  cases hk:ops[k]? with
  | none=>
   have:ops.size<=k:=by simpa using hk
   rw[Array.getD_eq_getD_getElem?,Array.getElem?_eq_none (by rw[hH.size];exact this)] at hl
   cases hl
  | some o=>
   obtain⟨e,he,hbi,hor⟩:=before_edge hb hk hw hi
   have hl':=hH.closed k o hk hl e he hbi
   rcases hor with rfl|hor
   ·rw[getD_both hun] at hl';cases hl'
   ·exact ih e.on (hlt k o hk e he hbi) hor hl'
theorem needB_of(hb:beforeIn ops=true)(hlt:∀(k:Nat)(o:Oper),ops[k]? =some o->∀e∈o.after,Region.binds .any e=true->e.on<k){listed:Array Bool}(hH:HeadInv .any ops ops.size listed){i:Nat}(hi:i<ops.size)(hun:listed.getD i true=false):
  needB tb ops listed i=true:=by
 refine List.all_eq_true.2 fun k hk=>?_
 simp only[Bool.or_eq_true,Bool.not_eq_true']
 by_cases hw:waitsB ops i k=true
 ·refine .inl (.inr ?_)
  cases hl:listed.getD k false with
  | false=>rfl
  | true=>exact(not_done hb hlt hH hi hun k hw hl).elim
 ·exact .inr (by simpa using hw)
def edgesBack(ops:Array Oper):Bool:=
 (List.range ops.size).all fun k=>match ops[k]? with
  | some o=>o.after.all fun e=> !Region.binds .any e||Nat.blt e.on k
  | none=>true
theorem edgesBack_spec(h:edgesBack ops=true)(k:Nat)(o:Oper)(hk:ops[k]? =some o)(e:Edge)(he:e∈o.after)(hb:Region.binds .any e=true):e.on<k:=by
 have h1:=List.all_eq_true.1 h k (List.mem_range.2 (Array.getElem?_eq_some_iff.1 hk).1)
 rw[hk] at h1
 have h2:=Array.all_eq_true_iff_forall_mem.1 h1 e he
 rw[hb] at h2
 simpa using h2
def noDefer(ops:Array Oper):Bool:=ops.all fun o=>match o.op with | .defer _=>false|_=>true
theorem noDefer_spec(h:noDefer ops=true)(j:Nat)(o:Oper)(ho:ops[j]? =some o)(c:Call):o.op≠ .defer c:=by
 intro e
 have:=Array.all_eq_true_iff_forall_mem.1 h o (Array.mem_of_getElem? ho)
 rw[e] at this
 cases this
end
inductive Pl where
 | fin
 | non
 | st (i:Nat) (p:Pl)
 | ac (i:Nat) (keep:List Nat) (p q:Pl)
def inL(t:Nat):List Nat->Bool
 | []=>false
 | k::l=>match Nat.beq t k with
  | true=>true
  | false=>inL t l
theorem inL_iff{t:Nat}:∀ {l:List Nat},inL t l=true↔t∈l
 | []=>by simp[inL]
 | k::l=>by
  simp only[inL,List.mem_cons]
  split
  ·rename_i e;simp[Nat.eq_of_beq_eq_true e]
  ·rename_i e
   have:t≠k:=fun h=>by subst h;rw[show Nat.beq t t=true from Nat.beq_refl t] at e;cases e
   simp[this,inL_iff]
def pendK(keep:List Nat)(w:World):Pend->Prop->Prop
 | [],A=>A
 | (i,F)::rest,A=>match inL i keep with
  | true=>F w/\pendK keep w rest A
  | false=>pendK keep w rest A
def exq(P:Program)(tb:Tab)(ops:Array Oper):Pl->Pend->Fr->World->(Fr->World->Prop)->Prop
 | .fin,_,f,w,K=>K f w
 | .non,_,_,_,_=>True
 | .st i p,pend,f,w,K=>match nth ops.toList i with
  | some o=>match wantB ops f o with
   | true=>match o.op with
    | .load T a=>LoadP tb w T (ev f a) fun v=>spl (srcB ops.toList i) v fun v=>exq P tb ops p ((i,loadF tb T (ev f a) v)::pend) (put f o.dst v) w K
    | op=>pux P tb op (ev f) fun v=>spl (srcB ops.toList i) v fun v=>exq P tb ops p pend (put f o.dst v) w K
   | false=>exq P tb ops p pend (put f o.dst undef) w K
  | none=>False
 | .ac i keep p q,pend,f,w,K=>match q with
  | .non=>match nth ops.toList i with
   | some o=>match wantB ops f o with
    | true=>acx P tb o (ev f) w fun v w'=>spl (srcB ops.toList i) v fun v=>pendK keep w' pend (exq P tb ops p pend (put f o.dst v) w' K)
    | false=>pendK keep w pend (exq P tb ops p pend (put f o.dst undef) w K)
   | none=>False
  | q=>(match nth ops.toList i with
   | some o=>match wantB ops f o with
    | true=>acx P tb o (ev f) w fun v w'=>spl (srcB ops.toList i) v fun v=>pendK keep w' pend (exq P tb ops p pend (put f o.dst v) w' K)
    | false=>pendK keep w pend (exq P tb ops p pend (put f o.dst undef) w K)
   | none=>False)/\exq P tb ops q pend f w K
def Pl.isNon:Pl->Bool
 | .non=>true
 | _=>false
def planOk(tb:Tab)(ops:Array Oper):Pl->Nat->Array Bool->List Nat->List Nat->Bool
 | .fin,_,listed,_,_=>(Region.ready .any ops listed).isEmpty
 | .non,_,_,_,rs=>rs.isEmpty
 | .st i p,n,listed,ld,_=>match n with
  | 0=>false
  | n+1=>decide ((Region.ready .any ops listed).find? (stillB tb ops)=some i)&&Region.free .any ops listed i && !p.isNon &&
    planOk tb ops p n (listed.setIfInBounds i true) (i::ld) (Region.ready .any ops (listed.setIfInBounds i true))
 | .ac i keep p q,n,listed,ld,rs=>match n,rs with
  | n+1,r::rs=>decide ((Region.ready .any ops listed).find? (stillB tb ops)=none)&&Nat.beq r i&&(ld.all fun j=> !needB tb ops (listed.setIfInBounds i true) j||inL j keep) && !p.isNon &&
    planOk tb ops p n (listed.setIfInBounds i true) ld (Region.ready .any ops (listed.setIfInBounds i true))&&planOk tb ops q (n+1) listed ld rs
  | _,_=>false
section
variable {P:Program} {tb:Tab} {ops:Array Oper} {r:Option Nat} {Q:Act->World->Prop} {S:List PanicEntry->Act->World->Prop}
theorem pendK_out{keep:List Nat}{listed:Array Bool}{w:World}{A:Prop}:∀ {pend:Pend},(∀q∈pend,needB tb ops listed q.1=true->inL q.1 keep=true)->pendK keep w pend A->InvP tb ops listed pend w/\A
 | [],_,h=>⟨fun q hq=>by simp at hq,h⟩
 | (i,F)::rest,hk,h=>by
  unfold pendK at h
  split at h
  ·obtain⟨h1,h2⟩:=pendK_out (listed:=listed) (fun q hq=>hk q (List.mem_cons_of_mem _ hq)) h.2
   refine⟨fun q hq hn=>?_,h2⟩
   rcases List.mem_cons.1 hq with rfl|hq
   ·exact h.1
   ·exact h1 q hq hn
  ·rename_i hi
   obtain⟨h1,h2⟩:=pendK_out (listed:=listed) (fun q hq=>hk q (List.mem_cons_of_mem _ hq)) h
   refine⟨fun q hq hn=>?_,h2⟩
   rcases List.mem_cons.1 hq with rfl|hq
   ·have:=hk (i,F) (List.mem_cons_self ..) hn
    rw[hi] at this;cases this
   ·exact h1 q hq hn
def ActQ(P:Program)(tb:Tab)(ops:Array Oper)(keep:List Nat)(p:Pl)(pend:Pend)(f:Fr)(w:World)(K:Fr->World->Prop)(i:Nat):Prop:=
 match nth ops.toList i with
 | some o=>match wantB ops f o with
  | true=>acx P tb o (ev f) w fun v w'=>spl (srcB ops.toList i) v fun v=>pendK keep w' pend (exq P tb ops p pend (put f o.dst v) w' K)
  | false=>pendK keep w pend (exq P tb ops p pend (put f o.dst undef) w K)
 | none=>False
theorem exq_ac{i:Nat}{keep:List Nat}{p q:Pl}{pend:Pend}{f:Fr}{w:World}{K:Fr->World->Prop}(h:exq P tb ops (.ac i keep p q) pend f w K):
  ActQ P tb ops keep p pend f w K i/\exq P tb ops q pend f w K:=by
 cases q with
 | non=>exact⟨h,trivial⟩
 | fin=>exact h
 | st _ _=>exact h
 | ac _ _ _ _=>exact h
theorem exq_sound(hT:tb.Ok P){N:Nat}(hd:dstOk N ops.toList=true)(hns:Region.noSelect ops=true)(hnd:noDefer ops=true)(hb:beforeIn ops=true)(hlt:edgesBack ops=true)
  {ds:List Df}{K:Fr->World->Prop}{f₀:Fr}(hSp:∀o∈ops.toList,∀ch a v w,S ch (Act.put a o.dst v) w->S ch a w)(hQ:∀f a w,Rel N a f ds->AgreeOff (dsts ops.toList) f₀ f->K f w->Q a w):
  ∀(pl:Pl)(n:Nat)(listed:Array Bool)(ld rs:List Nat)(pend:Pend)(f:Fr)(w:World)(a:Act),planOk tb ops pl n listed ld rs=true->exq P tb ops pl pend f w K->Rel N a f ds->AgreeOff (dsts ops.toList) f₀ f->
   HeadInv .any ops ops.size listed->InvP tb ops listed pend w->(∀q∈pend,q.1∈ld)->
   (pl.isNon=false->rs=Region.ready .any ops listed->wpH P tb ops r Q S pend n listed a w)/\
   ((∃i k p q,pl=.ac i k p q)\/pl=.non->(∀i∈rs,i∈Region.ready .any ops listed)->∀m,n=m+1->∀i∈rs,wpOpIn (fz r) 0 P ops (Q0 Q S) i (wpH P tb ops r Q S pend m (listed.setIfInBounds i true)) a w)
 | .fin,n,listed,ld,rs,pend,f,w,a,hp,h,hR,hA,hH,hI,_=>by
  refine⟨fun _ hrs=>?_,fun hc=>by rcases hc with ⟨_,_,_,_,h⟩|h<;>cases h⟩
  simp only[planOk,List.isEmpty_iff] at hp
  cases n with
  | zero=>exact⟨hI,hp,hQ f a w hR hA h⟩
  | succ n=>exact⟨hI,fun _=>hQ f a w hR hA h,fun i hi=>by rw[hp] at hi;cases hi⟩
 | .non,n,listed,ld,rs,pend,f,w,a,hp,h,hR,hA,hH,hI,_=>by
  refine⟨fun h=>by simp[Pl.isNon] at h,fun _ _ m _ i hi=>?_⟩
  simp only[planOk,List.isEmpty_iff] at hp
  rw[hp] at hi;cases hi
 | .st i p,n,listed,ld,rs,pend,f,w,a,hp,h,hR,hA,hH,hI,hld=>by
  refine⟨fun _ hrs=>?_,fun hc=>by rcases hc with ⟨_,_,_,_,h⟩|h<;>cases h⟩
  cases n with
  | zero=>simp[planOk] at hp
  | succ n=>
   simp only[planOk,Bool.and_eq_true,decide_eq_true_eq,Bool.not_eq_true'] at hp
   obtain⟨⟨⟨hfind,hfree⟩,hnon⟩,hp⟩:=hp
   have hst:stillB tb ops i=true:=List.find?_some hfind
   have hir:i∈Region.ready .any ops listed:=List.mem_of_find?_eq_some hfind
   simp only[exq] at h
   split at h
   case h_2=>exact h.elim
   rename_i o ho
   rw[nth_eq,Array.getElem?_toList] at ho
   have hmem:o∈ops.toList:=Array.mem_toList_iff.2 (Array.mem_of_getElem? ho)
   have hdst:=dstOk.of hd hmem
   have hin:∀e,o.dst=some e->e∈dsts ops.toList:=fun e he=>List.mem_filterMap.2 ⟨o,hmem,he⟩
   have hlti:i<ops.size:=(Array.getElem?_eq_some_iff.1 ho).1
   have hH':=hH.set hir hlti
   have hwant:=wantB_eq hd hR o
   have hfs:=Region.free_spec ho hfree
   have fin:∀(v:Value)(pend':Pend),(∀q∈pend,q∈pend')->(∀q∈pend',q.1∈i::ld)->exq P tb ops p pend' (put f o.dst v) w K->
     (∀listed' w',HeadInv .any ops ops.size listed'->i∈Region.ready .any ops listed'->InvP tb ops listed' pend' w'->YieldsV P ops o v a w')->InvP tb ops listed pend' w->
     wpH P tb ops r Q S pend (n+1) listed a w:=fun v pend' hs hl' hx hy hI'=>
    wpH_first hns (noDefer_spec hnd) hs ho hst (hSp o hmem) n listed a w hH hfs hir (fun l' a' w' a1 a2 a3 a4=>a4 w' (hy l' w' a1 a2 a3)) hI'
     ((exq_sound hT hd hns hnd hb hlt hSp hQ p n _ (i::ld) _ pend' _ w _ hp hx (hR.put hdst v) (hA.trans (AgreeOff.put hin v)) hH' (fun q hq hn=>hI' q hq (by rw[needB_set hst] at hn;exact hn)) hl').1 hnon rfl)
   split at h
   ·rename_i hwt
    rw[hwt] at hwant
    split at h
    ·rename_i T p' hop
     unfold LoadP at h
     split at h
     case h_2=>exact h.elim
     rename_i ti b off hti hpt
     obtain⟨x,hx,h⟩:=h
     have h:=h.out
     refine fin _ _ (fun q hq=>List.mem_cons_of_mem _ hq) (fun q hq=>?_) h (fun listed' w' a1 a2 a3=>.inl ⟨hwant,?_⟩) (fun q hq hn=>?_)
     ·rcases List.mem_cons.1 hq with rfl|hq
      ·exact List.mem_cons_self ..
      ·exact List.mem_cons_of_mem _ (hld q hq)
     ·have hF:=a3 (i,_) (List.mem_cons_self ..) (needB_of hb (edgesBack_spec hlt) a1 hlti (mem_ready.1 a2).1)
      have hF':LdF w' ti b off (ti.sh.enc x):=by simpa only[loadF,hti,hpt] using hF
      have:=loadVar_of (P:=P) (hT _ _ hti) hF'
      rw[hR.eval]
      simp[execOp,hop,Instr.loadAt,hpt,Instr.sureAddr,this]
     ·rcases List.mem_cons.1 hq with rfl|hq
      ·simpa only[loadF,hti,hpt] using hx
      ·exact hI q hq hn
    ·rename_i op hno
     obtain⟨v,hv,hY⟩:=pux_sound hT (ty:=o.type) h
     refine fin v pend (fun q hq=>hq) (fun q hq=>List.mem_cons_of_mem _ (hld q hq)) hv.out (fun listed' w' _ _ _=>.inl ⟨hwant,?_⟩) hI
     rw[hR.eval]
     exact hY w' o.dst o.pos o.after o.guard
   ·rename_i hwf
    rw[hwf] at hwant
    exact fin undef pend (fun q hq=>hq) (fun q hq=>List.mem_cons_of_mem _ (hld q hq)) h (fun listed' w' _ _ _=>.inr ⟨hwant,rfl⟩) hI
 | .ac i keep p q,n,listed,ld,rs,pend,f,w,a,hp,h,hR,hA,hH,hI,hld=>by
  cases n with
  | zero=>simp[planOk] at hp
  | succ n=>
   cases rs with
   | nil=>simp[planOk] at hp
   | cons r0 rs=>
    simp only[planOk,Bool.and_eq_true,decide_eq_true_eq,Bool.not_eq_true'] at hp
    obtain⟨⟨⟨⟨⟨hfind,hri⟩,hkeep⟩,hnon⟩,hp1⟩,hp2⟩:=hp
    have hri:=Nat.eq_of_beq_eq_true hri
    subst hri
    obtain⟨hact,hq⟩:=exq_ac h
    have hB:(∀i∈r0::rs,i∈Region.ready .any ops listed)->∀i∈r0::rs,wpOpIn (fz r) 0 P ops (Q0 Q S) i (wpH P tb ops r Q S pend n (listed.setIfInBounds i true)) a w:=by
     intro hsub i hi
     have hcase:i=r0\/i∈rs:=List.mem_cons.1 hi
     by_cases hir0:i=r0
     ·subst hir0
      unfold ActQ at hact
      split at hact
      case h_2=>exact hact.elim
      rename_i o ho
      rw[nth_eq,Array.getElem?_toList] at ho
      have hmem:o∈ops.toList:=Array.mem_toList_iff.2 (Array.mem_of_getElem? ho)
      have hdst:=dstOk.of hd hmem
      have hin:∀e,o.dst=some e->e∈dsts ops.toList:=fun e he=>List.mem_filterMap.2 ⟨o,hmem,he⟩
      have hH':=hH.set (hsub i hi) (Array.getElem?_eq_some_iff.1 ho).1
      have hwant:=wantB_eq hd hR o
      have hkp:∀q∈pend,needB tb ops (listed.setIfInBounds i true) q.1=true->inL q.1 keep=true:=fun q hq hn=>by
       have:=List.all_eq_true.1 hkeep q.1 (hld q hq)
       rw[hn] at this
       simpa using this
      unfold wpOpIn
      simp only[ho]
      rw[hwant]
      split at hact
      ·rename_i hwt
       rw[hwt]
       simp only[if_true]
       refine acx_sound hT hR.eval hact fun v w' hv=>?_
       obtain⟨hI',hx⟩:=pendK_out hkp hv.out
       exact(exq_sound hT hd hns hnd hb hlt hSp hQ p n _ ld _ pend _ w' _ hp1 hx (hR.put hdst v) (hA.trans (AgreeOff.put hin v)) hH' hI' hld).1 hnon rfl
      ·rename_i hwf
       rw[hwf]
       simp only[Bool.false_eq_true,if_false]
       obtain⟨hI',hx⟩:=pendK_out hkp hact
       exact⟨fun f _=>fz_fn r f,(exq_sound hT hd hns hnd hb hlt hSp hQ p n _ ld _ pend _ w _ hp1 hx (hR.put hdst undef) (hA.trans (AgreeOff.put hin undef)) hH' hI' hld).1 hnon rfl⟩
     ·have hi':i∈rs:=hcase.resolve_left hir0
      have ih:=(exq_sound hT hd hns hnd hb hlt hSp hQ q (n+1) listed ld rs pend f w a hp2 hq hR hA hH hI hld).2
      refine ih ?_ (fun i hi=>hsub i (List.mem_cons_of_mem _ hi)) n rfl i hi'
      cases q with
      | non=>exact .inr rfl
      | ac i k p q=>exact .inl ⟨i,k,p,q,rfl⟩
      | fin=>
       simp only[planOk,List.isEmpty_iff] at hp2
       have:=hsub i hi
       rw[hp2] at this;cases this
      | st j p'=>
       simp only[planOk,Bool.and_eq_true,decide_eq_true_eq] at hp2
       rw[hp2.1.1.1] at hfind
       cases hfind
    refine⟨fun _ hrs=>⟨hI,fun h0=>(by rw[<-hrs] at h0;cases h0),fun i hi=>?_⟩,fun _ hsub m hm i hi=>?_⟩
    ·rw[<-hrs] at hi
     exact hB (fun i hi=>by rw[<-hrs];exact hi) i hi
    ·cases hm
     exact hB hsub i hi
theorem wpAnyIn_weak{Q:Act->World->Prop}{Q':Exit->Act->World->Prop}(hQ:∀a w,Q a w->Q' .normal a w)(hS:∀ch a w,S ch a w->Q' (.panic ch) a w):∀(n:Nat)(listed:Array Bool)(a:Act)(w:World),
  wpAnyIn (fz r) 0 P .any ops (Q0 Q S) n listed a w->wpAnyIn (fz r) 0 P .any ops Q' n listed a w
 | 0,_,_,_,h=>⟨h.1,hQ _ _ h.2⟩
 | n+1,listed,a,w,h=>⟨fun h0=>hQ _ _ (h.1 h0),fun i hi=>by
   have h1:=h.2 i hi
   have h2:wpOpIn (fz r) 0 P ops (Q0 Q S) i (wpAnyIn (fz r) 0 P .any ops Q' n (listed.setIfInBounds i true)) a w:=wpOpIn_mono (fun a w h=>wpAnyIn_weak hQ hS n _ a w h) h1
   unfold wpOpIn at h2 ⊢
   split
   ·rename_i ho;simp only[ho] at h2;exact h2
   ·rename_i o ho
    simp only[ho] at h2
    split
    ·rename_i hw
     simp only[hw,if_true] at h2
     refine⟨h2.1,?_⟩
     have h3:=h2.2
     generalize (o.semAt (fz r).round a.eval).run P w=res at*
     cases res with
     | ok x w'=>
      cases x<;>simp only[Oper.uponIn] at h3 ⊢ <;> first
       | exact h3
       | exact⟨h3.1,h3.2.mono fun e w'' he=>by cases e<;>first|exact he|exact hS _ _ _ he|exact he.elim|exact(by obtain⟨_,_,he⟩:=he;exact he.elim)⟩
     | halt x w'=>cases x<;>simp only[Oper.uponIn] at h3 ⊢ <;> first|exact h3|exact hS _ _ _ h3|exact h3.elim
    ·rename_i hw
     simp only[hw] at h2
     exact h2⟩
end
def intsD:(n:Nat)->List Value->intN n
 | 0,_=>()
 | 1,vs=>(match vs with | .int _ x::_=>x|_=>0)
 | n+2,vs=>((match vs with | .int _ x::_=>x|_=>0),intsD (n+1) (match vs with|_::r=>r|[]=>[]))
def sameI(k j:IntKind):Bool:=match k,j with | .i64,.i64=>true | .u64,.u64=>true | .u8,.u8=>true | .i32,.i32=>true | .u32,.u32=>true | .i8,.i8=>true | .i16,.i16=>true | .u16,.u16=>true|_,_=>false
def intsC(k:IntKind):Nat->List Value->Bool
 | 0,vs=>match vs with|[]=>true|_=>false
 | 1,vs=>match vs with|[.int j _]=>sameI k j|_=>false
 | n+2,vs=>match vs with
  | .int j _::r=>match sameI k j with
   | true=>intsC k (n+1) r
   | false=>false
  | _=>false
theorem sameI_eq{k j:IntKind}(h:sameI k j=true):k=j:=by cases k<;>cases j<;>first|rfl|cases h
theorem intsC_dec{k:IntKind}:∀ {n:Nat}{vs:List Value},intsC k n vs=true->vs=intsE k n (intsD n vs)
 | 0,[],_=>rfl
 | 0,_::_,h=>by cases h
 | 1,[],h=>by cases h
 | 1,[v],h=>by
  cases v<;>simp[intsC] at h
  have:=sameI_eq h;subst this;rfl
 | 1,_::_::_,h=>by simp[intsC] at h
 | n+2,[],h=>by simp[intsC] at h
 | n+2,v::r,h=>by
  cases v<;>simp[intsC] at h
  split at h
  ·rename_i hs
   have:=sameI_eq hs;subst this
   have:=intsC_dec (n:=n+1) h
   show _::r=.int _ _::intsE _ (n+1) (intsD (n+1) r)
   rw[<-this];rfl
  ·cases h
def Leaf.dec:(l:Leaf)->Value->l.den
 | .int _,v=>match v with | .int _ n=>n|_=>0
 | .bool,v=>match v with | .bool b=>b|_=>false
 | .str,v=>match v with | .string s=>s|_=>ByteArray.empty
 | .ptr,v=>match v with | .pointer p=>p|_=>none
 | .sl,v=>match v with | .slice p n c=>⟨p,n,c⟩|_=>⟨none,0,0⟩
 | .map,v=>match v with | .map r=>r|_=>none
 | .any,v=>v
 | .box,v=>match v with | .pointer (some ⟨b,_,none⟩)=>b|_=>Nat.zero
 | .clo,v=>match v with | .func (.func f) ⟨[]⟩ l=>(f,l)|_=>(0,#[])
 | .yld,v=>match v with | .func (.yield l) ⟨[]⟩ ⟨[]⟩=>l|_=>0
 | .ints _ n,v=>intsD n (match v with | .agg ⟨l⟩=>l|_=>[])
 | .arr,v=>match v with | .agg ⟨l⟩=>l|_=>[]
def Leaf.chk:Leaf->Value->Bool
 | .int k,v=>match v with | .int j _=>(match k,j with | .i64,.i64=>true | .u64,.u64=>true | .u8,.u8=>true | .i32,.i32=>true | .u32,.u32=>true | .i8,.i8=>true | .i16,.i16=>true | .u16,.u16=>true|_,_=>false)|_=>false
 | .bool,v=>match v with | .bool _=>true|_=>false
 | .str,v=>match v with | .string _=>true|_=>false
 | .ptr,v=>match v with | .pointer _=>true|_=>false
 | .sl,v=>match v with | .slice _ _ _=>true|_=>false
 | .map,v=>match v with | .map _=>true|_=>false
 | .any,_=>true
 | .box,v=>match v with | .pointer (some ⟨_,o,none⟩)=>Nat.beq o 0|_=>false
 | .clo,v=>match v with | .func (.func _) ⟨[]⟩ _=>true|_=>false
 | .yld,v=>match v with | .func (.yield _) ⟨[]⟩ ⟨[]⟩=>true|_=>false
 | .ints k n,v=>match v with | .agg ⟨l⟩=>intsC k n l|_=>false
 | .arr,v=>match v with | .agg _=>true|_=>false
theorem Leaf.chk_dec{l:Leaf}{v:Value}(h:l.chk v=true):v=l.enc (l.dec v):=by
 cases l with
 | int k=>cases v<;>simp[Leaf.chk] at h;rename_i j n;cases k<;>cases j<;>first|rfl|cases h
 | bool=>cases v<;>simp[Leaf.chk] at h;rfl
 | str=>cases v<;>simp[Leaf.chk] at h;rfl
 | ptr=>cases v<;>simp[Leaf.chk] at h;rfl
 | sl=>cases v<;>simp[Leaf.chk] at h;rfl
 | map=>cases v<;>simp[Leaf.chk] at h;rfl
 | any=>rfl
 | box=>
  simp only[Leaf.chk] at h
  split at h
  ·have:=Nat.eq_of_beq_eq_true h
   subst this;rfl
  ·cases h
 | clo=>
  simp only[Leaf.chk] at h
  split at h
  ·rfl
  ·cases h
 | yld=>
  simp only[Leaf.chk] at h
  split at h
  ·rfl
  ·cases h
 | ints k n=>
  simp only[Leaf.chk] at h
  split at h
  ·rename_i l
   have:=intsC_dec h
   show Value.agg ⟨l⟩=Value.agg (intsE k n (intsD n l)).toArray
   rw[<-this]
  ·cases h
 | arr=>
  simp only[Leaf.chk] at h
  split at h
  ·rfl
  ·cases h
def decs:(ls:List Leaf)->List Value->dens ls
 | [],_=>()
 | [l],vs=>l.dec (match vs with|v::_=>v|[]=>undef)
 | l::m::ls,vs=>(l.dec (match vs with|v::_=>v|[]=>undef),decs (m::ls) (match vs with|_::r=>r|[]=>[]))
def chks:List Leaf->List Value->Bool
 | [],vs=>match vs with|[]=>true|_=>false
 | [l],vs=>match vs with|[v]=>l.chk v|_=>false
 | l::m::ls,vs=>match vs with
  | v::r=>match l.chk v with
   | true=>chks (m::ls) r
   | false=>false
  | []=>false
theorem chks_dec:∀ {ls:List Leaf}{vs:List Value},chks ls vs=true->vs=encs ls (decs ls vs)
 | [],[],_=>rfl
 | [],_::_,h=>by cases h
 | [l],[],h=>by cases h
 | [l],[v],h=>by simp only[chks] at h;simp only[encs,decs];rw[<-Leaf.chk_dec h]
 | [l],_::_::_,h=>by cases h
 | l::m::ls,[],h=>by cases h
 | l::m::ls,v::r,h=>by
  simp only[chks] at h
  split at h
  ·rename_i hv
   simp only[encs,decs]
   rw[<-Leaf.chk_dec hv,<-chks_dec h]
  ·cases h
def Sh.dec:(s:Sh)->Value->s.den
 | .one l,v=>l.dec v
 | .agg ls,v=>decs ls (match v with | .agg cs=>cs.toList|_=>[])
 | .tup ls,v=>decs ls (match v with | .tuple cs=>cs.toList|_=>[])
 | .pre ls,v=>(decs ls (takeL (lenL ls) (match v with | .agg cs=>cs.toList|_=>[])),dropL (lenL ls) (match v with | .agg cs=>cs.toList|_=>[]))
def Sh.chk:Sh->Value->Bool
 | .one l,v=>l.chk v
 | .agg ls,v=>match v with | .agg cs=>chks ls cs.toList|_=>false
 | .tup ls,v=>match v with | .tuple cs=>chks ls cs.toList|_=>false
 | .pre ls,v=>match v with | .agg cs=>chks ls (takeL (lenL ls) cs.toList)|_=>false
theorem Sh.chk_dec{s:Sh}{v:Value}(h:s.chk v=true):v=s.enc (s.dec v):=by
 cases s with
 | one l=>exact Leaf.chk_dec h
 | agg ls=>
  cases v<;>simp only[Sh.chk] at h<;>first|cases h|skip
  simp only[Sh.enc,Sh.dec]
  rw[<-chks_dec h]
 | tup ls=>
  cases v<;>simp only[Sh.chk] at h<;>first|cases h|skip
  simp only[Sh.enc,Sh.dec]
  rw[<-chks_dec h]
 | pre ls=>
  cases v<;>simp only[Sh.chk] at h<;>first|cases h|skip
  simp only[Sh.enc,Sh.dec]
  rw[<-chks_dec h,appL_eq,takeL_eq,dropL_eq,List.take_append_drop]
abbrev Car:=List (Nat×Sh)
@[reducible] def carDen:Car->Type
 | []=>Unit
 | [q]=>q.2.den
 | q::q'::c=>q.2.den×carDen (q'::c)
def carDec:(c:Car)->Fr->carDen c
 | [],_=>()
 | [q],f=>q.2.dec (f q.1)
 | q::q'::c,f=>(q.2.dec (f q.1),carDec (q'::c) f)
def carChk:Car->Fr->Bool
 | [],_=>true
 | [q],f=>q.2.chk (f q.1)
 | q::q'::c,f=>match q.2.chk (f q.1) with
  | true=>carChk (q'::c) f
  | false=>false
def carEnc:(c:Car)->carDen c->List (Nat×Value)
 | [],_=>[]
 | [q],x=>[(q.1,q.2.enc x)]
 | q::q'::c,x=>(q.1,q.2.enc x.1)::carEnc (q'::c) x.2
def lk(t:Nat):List (Nat×Value)->Option Value
 | []=>none
 | (k,v)::l=>match Nat.beq t k with
  | true=>some v
  | false=>lk t l
def ovr(f g:Fr)(wr:List Nat)(cs:List (Nat×Value)):Fr:=fun t=>
 match lk t cs with
 | some v=>v
 | none=>match inL t wr with
  | true=>g t
  | false=>f t
def Nx(c:Car)(f:Fr)(M:carDen c->Prop):Prop:=
 match carChk c f with
 | true=>M (carDec c f)
 | false=>False
theorem Nx.out{c:Car}{f:Fr}{M:carDen c->Prop}(h:Nx c f M):carChk c f=true/\M (carDec c f):=by
 unfold Nx at h
 split at h
 ·rename_i hc;exact⟨hc,h⟩
 ·exact h.elim
theorem lk_car:∀ {c:Car}{f:Fr}{t:Nat}{v:Value},carChk c f=true->lk t (carEnc c (carDec c f))=some v->f t=v
 | [],_,_,_,_,h=>by cases h
 | [q],f,t,v,hc,h=>by
  simp only[carEnc,carDec,lk] at h
  split at h
  ·rename_i e
   have:=Nat.eq_of_beq_eq_true e
   subst this
   cases h
   exact Sh.chk_dec hc
  ·cases h
 | q::q'::c,f,t,v,hc,h=>by
  simp only[carChk] at hc
  split at hc
  ·rename_i hq
   simp only[carEnc,carDec,lk] at h
   split at h
   ·rename_i e
    have:=Nat.eq_of_beq_eq_true e
    subst this
    cases h
    exact Sh.chk_dec hq
   ·exact lk_car hc h
  ·cases hc
theorem ovr_eq{f f':Fr}{wr:List Nat}{c:Car}(hA:AgreeOff wr f f')(hc:carChk c f'=true):ovr f f' wr (carEnc c (carDec c f'))=f':=by
 funext t
 unfold ovr
 split
 ·rename_i v hv
  exact(lk_car hc hv).symm
 ·split
  ·rfl
  ·rename_i h
   exact(hA t fun ht=>by rw[inL_iff.2 ht] at h;cases h).symm
theorem exists_least(p:Nat->Prop)(h:∃n,p n):∃n,p n/\∀m,p m->n<=m:=by
 obtain⟨n,hn⟩:=h
 induction n using Nat.strongRecOn with
 | ind n ih=>
  by_cases hs:∃m,m<n/\p m
  ·obtain⟨m,hm,hp⟩:=hs;exact ih m hm hp
  ·exact⟨n,hn,fun m hp=>Nat.le_of_not_lt fun hlt=>hs ⟨m,hlt,hp⟩⟩
open Classical in
noncomputable def leastN(p:Nat->Prop):Nat:=if h:∃n,p n then (exists_least p h).choose else 0
theorem leastN_is{p:Nat->Prop}(h:∃n,p n):p (leastN p):=by
 unfold leastN;rw[dif_pos h];exact(exists_least p h).choose_spec.1
theorem leastN_le{p:Nat->Prop}{m:Nat}(h:p m):leastN p<=m:=by
 unfold leastN;rw[dif_pos ⟨m,h⟩];exact(exists_least p ⟨m,h⟩).choose_spec.2 m h
inductive An where
 | nil
 | node (a b:An)
 | loop (car:Car) (wr:List Nat) (a:An)
 | join (car:Car) (wr:List Nat) (a b:An)
 | draw (p:Pl)
 | rng (car:Car) (a:An)
def An.l:An->An
 | .node a _=>a
 | .join _ _ a _=>a
 | _=>.nil
def An.r:An->An
 | .node _ b=>b
 | .join _ _ _ b=>b
 | _=>.nil
abbrev Post:=Exit->Fr->List Df->World->Prop
def thenQ(K:Fr->List Df->World->Prop)(Q:Post):Post
 | .normal,f,ds,w=>K f ds w
 | e,f,ds,w=>Q e f ds w
def blockQ(id:Nat)(Q:Post):Post
 | .exit i,f,ds,w=>match Nat.beq i id with
  | true=>Q .normal f ds w
  | false=>Q (.exit i) f ds w
 | e,f,ds,w=>Q e f ds w
def scopeQ(Q:Post):Post
 | .goto _,_,_,_=>False
 | e,f,ds,w=>Q e f ds w
def Wp(P:Program)(N:Nat)(r:Option Nat)(c:Code)(Q:Post)(f:Fr)(ds:List Df)(w:World):Prop:=
 ∀a,Rel N a f ds->c.wpIn (fz r) 0 P (fun e a' w'=>∃f' ds',Rel N a' f' ds'/\Q e f' ds' w') a w
def frC(g:Fr)(cs:List (Nat×Value)):Fr:=fun t=>
 match lk t cs with
 | some v=>v
 | none=>g t
theorem frC_eq{f:Fr}{c:Car}(hc:carChk c f=true):frC f (carEnc c (carDec c f))=f:=by
 funext t
 unfold frC
 split
 ·rename_i v hv
  exact(lk_car hc hv).symm
 ·rfl
def rangePost(f:Fr)(Kn Kr:List Df->World->Prop)(Kx:Nat->List Df->World->Prop):Post
 | .normal,f',ds,w=>f'=f/\Kn ds w
 | .ret,f',ds,w=>f'=f/\Kr ds w
 | .exit id,f',ds,w=>f'=f/\Kx id ds w
 | _,_,_,_=>False
def RangeP(P:Program)(_tb:Tab)(N:Nat)(r:Option Nat)(_an:An)(g:Operand)(ps:Array Tmp)(assign body:Code)(f:Fr)(ds:List Df)(w:World)
  (Kn Kr:List Df->World->Prop)(Kx:Nat->List Df->World->Prop):Prop:=
 Wp P N r (.rangeFunc g ps assign body) (rangePost f Kn Kr Kx) f ds w
def ex(P:Program)(tb:Tab)(N:Nat)(r:Option Nat):Code->An->Post->Fr->List Df->World->Prop
 | .skip,_,Q,f,ds,w=>Q .normal f ds w
 | .ret,_,Q,f,ds,w=>Q .ret f ds w
 | .exit id,_,Q,f,ds,w=>Q (.exit id) f ds w
 | .seq x y,an,Q,f,ds,w=>match an with
  | .join car wr a b=>∃M:carDen car->World->Prop,ex P tb N r x a (thenQ (fun f' ds' w'=>ds'=ds/\Nx car f' fun s=>M s w') Q) f ds w/\
    ∀s w' g,M s w'->ex P tb N r y b Q (ovr f g wr (carEnc car s)) ds w'
  | an=>ex P tb N r x an.l (thenQ (fun f' ds' w'=>ex P tb N r y an.r Q f' ds' w') Q) f ds w
 | .cond c x y,an,Q,f,ds,w=>match ev f c with
  | .bool b=>IfB b (ex P tb N r x an.l Q f ds w) (ex P tb N r y an.r Q f ds w)
  | _=>False
 | .block id c,an,Q,f,ds,w=>ex P tb N r c an (blockQ id Q) f ds w
 | .scope c,an,Q,f,ds,w=>ex P tb N r c an (scopeQ Q) f ds w
 | .label _,_,Q,f,ds,w=>Q .normal f ds w
 | .loop c,an,Q,f,ds,w=>match an with
  | .loop car wr a=>∃I:Nat->carDen car->World->Prop,(Nx car f fun s=>∃n,I n s w)/\
    ∀n s w' g,I n s w'->ex P tb N r c a (thenQ (fun f' ds' w''=>ds'=ds/\Nx car f' fun s'=>∃m,m<n/\I m s' w'') Q) (ovr f g wr (carEnc car s)) ds w'
  | _=>False
 | .region _ ops draw,an,Q,f,ds,w=>match draw with
  | false=>exl P tb ops 0 ops.toList f w fun f' w'=>Q .normal f' ds w'
  | true=>match an with
   | .draw p=>exq P tb ops p [] f w.drew fun f' w'=>Q .normal f' ds w'
   | _=>False
 | .rangeFunc g ps assign body,an,Q,f,ds,w=>match an with
  | .rng car a=>Nx car f fun s=>∀g',RangeP P tb N r a g ps assign body (frC g' (carEnc car s)) ds w (fun ds' w'=>Q .normal (frC g' (carEnc car s)) ds' w')
    (fun ds' w'=>Q .ret (frC g' (carEnc car s)) ds' w') (fun id ds' w'=>Q (.exit id) (frC g' (carEnc car s)) ds' w')
  | _=>False
 | _,_,_,_,_,_=>False
def codeAt:List Nat->Code->Code
 | [],c=>c
 | i::l,.seq a b=>codeAt l (match i with|0=>a|_=>b)
 | i::l,.cond _ a b=>codeAt l (match i with|0=>a|_=>b)
 | i::l,.rangeFunc _ _ a b=>codeAt l (match i with|0=>a|_=>b)
 | _::l,.block _ c=>codeAt l c
 | _::l,.scope c=>codeAt l c
 | _::l,.loop c=>codeAt l c
 | _,_=>.skip
def bodyOf(f:Func):Code:=match f.body with
 | some c=>c
 | none=>.skip
def rG:Code->Operand
 | .rangeFunc g _ _ _=>g
 | _=>.func 0
def rP:Code->Array Tmp
 | .rangeFunc _ ps _ _=>ps
 | _=>#[]
def rA:Code->Code
 | .rangeFunc _ _ a _=>a
 | _=>.skip
def rB:Code->Code
 | .rangeFunc _ _ _ b=>b
 | _=>.skip
def wrs:Code->List Nat
 | .seq x y=>wrs x++wrs y
 | .cond _ x y=>wrs x++wrs y
 | .block _ c=>wrs c
 | .scope c=>wrs c
 | .loop c=>wrs c
 | .region _ ops _=>dsts ops.toList
 | _=>[]
def subL(l m:List Nat):Bool:=l.all fun t=>inL t m
def okC(tb:Tab)(N:Nat):Code->An->Bool
 | .seq x y,an=>match an with
  | .join _ wr a b=>okC tb N x a&&okC tb N y b&&subL (wrs x) wr
  | an=>okC tb N x an.l&&okC tb N y an.r
 | .cond _ x y,an=>okC tb N x an.l&&okC tb N y an.r
 | .block _ c,an=>okC tb N c an
 | .scope c,an=>okC tb N c an
 | .loop c,an=>match an with
  | .loop _ wr a=>okC tb N c a&&subL (wrs c) wr
  | _=>true
 | .region _ ops draw,an=>match draw with
  | false=>dstOk N ops.toList
  | true=>dstOk N ops.toList&&Region.noSelect ops&&noDefer ops&&beforeIn ops&&edgesBack ops&&(match an with
   | .draw p=> !p.isNon&&planOk tb ops p ops.size (Array.replicate ops.size false) [] (Region.ready .any ops (Array.replicate ops.size false))
   | _=>true)
 | _,_=>true
theorem subL_mem{l m:List Nat}(h:subL l m=true):∀t,t∈l->t∈m:=fun t ht=>inL_iff.1 (List.all_eq_true.1 h t ht)
section
variable {P:Program} {tb:Tab} {N:Nat} {r:Option Nat}
theorem stepR_scope{b:Frame}{a:Act}{k:List Item}{cs:List Frame}{w:World}{c:Code}:step P (lone (b.atR a (.code (.scope c)::k)) cs w)=.next (lone (b.atR a (.code c:: .inScope c::k)) cs w):=
 step_lone_go (by simp[stepG,stepG.exec,Frame.atR])
theorem stepR_inScope{b:Frame}{a:Act}{k:List Item}{cs:List Frame}{w:World}{c:Code}:step P (lone (b.atR a (.inScope c::k)) cs w)=.next (lone (b.atR a k) cs w):=
 step_lone_go (by simp[stepG,stepG.exec,Frame.atR])
def noGo(Q:Exit->Act->World->Prop):Exit->Act->World->Prop
 | .goto _,_,_=>False
 | e,a,w=>Q e a w
theorem wpIn_scope'{F:Fence}{n:Nat}{Q:Exit->Act->World->Prop}{a:Act}{w:World}{c:Code}(h:c.wpIn F n P (noGo Q) a w):(Code.scope c).wpIn F n P Q a w:=by
 intro b k cs hro hb hr
 have h0:(lone (b.atR a (.code (.scope c)::k)) cs w).fenced P F:=fenced_calm hb hr rfl
 obtain⟨e,a₁,w₁,hq,harr⟩:=h b (.inScope c::k) cs hro hb hr
 cases e with
 | normal=>exact⟨.normal,a₁,w₁,hq,.head h0 stepR_scope (StepsIn.trans harr (.one (fenced_calm hb hr rfl) stepR_inScope))⟩
 | exit id'=>
  have hx:exitTo id' (.inScope c::k)=exitTo id' k:=by simp[exitTo]
  exact⟨.exit id',a₁,w₁,hq,fun k' hk=>.head h0 stepR_scope (harr.1 k' (by rw[hx];exact hk)),
   fun hr' hk=>let ⟨k₁,h1,h2⟩:=harr.2 hr' (by rw[hx];exact hk);⟨k₁,h1,.head h0 stepR_scope h2⟩⟩
 | goto l=>exact hq.elim
 | ret=>exact⟨_,a₁,w₁,hq,.of_steps (.one h0 stepR_scope) harr⟩
 | panic ch=>exact⟨_,a₁,w₁,hq,.of_steps (.one h0 stepR_scope) harr⟩
 | outgrown=>exact⟨_,a₁,w₁,hq,.of_steps (.one h0 stepR_scope) harr⟩
theorem ex_sound(hT:tb.Ok P)(hm:P.follows .mixedOrders=true):∀(c:Code)(an:An)(Q:Post)(f:Fr)(ds:List Df)(w:World),okC tb N c an=true->ex P tb N r c an Q f ds w->
  Wp P N r c (fun e f' ds' w'=>AgreeOff (wrs c) f f'/\Q e f' ds' w') f ds w
 | .skip,an,Q,f,ds,w,_,h=>fun a hR=>wpIn_skip ⟨f,ds,hR,AgreeOff.refl _ _,h⟩
 | .ret,an,Q,f,ds,w,_,h=>fun a hR=>wpIn_ret ⟨f,ds,hR,AgreeOff.refl _ _,h⟩
 | .exit id,an,Q,f,ds,w,_,h=>fun a hR=>wpIn_exit ⟨f,ds,hR,AgreeOff.refl _ _,h⟩
 | .seq x y,an,Q,f,ds,w,hok,h=>by
  intro a hR
  refine wpIn_seq ?_
  have plain:okC tb N x an.l=true->okC tb N y an.r=true->ex P tb N r x an.l (thenQ (fun f' ds' w'=>ex P tb N r y an.r Q f' ds' w') Q) f ds w->
    x.wpIn (fz r) 0 P (Exit.then (y.wpIn (fz r) 0 P fun e a' w'=>∃f' ds',Rel N a' f' ds'/\AgreeOff (wrs (.seq x y)) f f'/\Q e f' ds' w') fun e a' w'=>∃f' ds',Rel N a' f' ds'/\AgreeOff (wrs (.seq x y)) f f'/\Q e f' ds' w') a w:=by
   intro h1 h2 h
   refine wpIn_mono (ex_sound hT hm x an.l _ f ds w h1 h a hR) ?_
   rintro e a₁ w₁ ⟨f₁,ds₁,hR₁,hA₁,hQ₁⟩
   have hA₁':AgreeOff (wrs (.seq x y)) f f₁:=hA₁.mono fun t ht=>List.mem_append_left _ ht
   cases e with
   | normal=>
    refine wpIn_mono (ex_sound hT hm y an.r _ f₁ ds₁ w₁ h2 hQ₁ a₁ hR₁) ?_
    rintro e a₂ w₂ ⟨f₂,ds₂,hR₂,hA₂,hQ₂⟩
    exact⟨f₂,ds₂,hR₂,hA₁'.trans (hA₂.mono fun t ht=>List.mem_append_right _ ht),hQ₂⟩
   | _=>exact⟨f₁,ds₁,hR₁,hA₁',hQ₁⟩
  cases an with
  | join car wr a' b'=>
   simp only[okC,Bool.and_eq_true] at hok
   obtain⟨⟨h1,h2⟩,h3⟩:=hok
   simp only[ex] at h
   obtain⟨M,hx,hy⟩:=h
   refine wpIn_mono (ex_sound hT hm x a' _ f ds w h1 hx a hR) ?_
   rintro e a₁ w₁ ⟨f₁,ds₁,hR₁,hA₁,hQ₁⟩
   have hA₁':AgreeOff (wrs (.seq x y)) f f₁:=hA₁.mono fun t ht=>List.mem_append_left _ ht
   cases e with
   | normal=>
    obtain⟨rfl,hN⟩:=hQ₁
    obtain⟨hc,hM⟩:=hN.out
    have h4:=hy _ _ f₁ hM
    rw[ovr_eq (hA₁.mono (subL_mem h3)) hc] at h4
    refine wpIn_mono (ex_sound hT hm y b' _ f₁ ds₁ w₁ h2 h4 a₁ hR₁) ?_
    rintro e a₂ w₂ ⟨f₂,ds₂,hR₂,hA₂,hQ₂⟩
    exact⟨f₂,ds₂,hR₂,hA₁'.trans (hA₂.mono fun t ht=>List.mem_append_right _ ht),hQ₂⟩
   | _=>exact⟨f₁,ds₁,hR₁,hA₁',hQ₁⟩
  | nil=>
   simp only[okC,Bool.and_eq_true] at hok
   exact plain hok.1 hok.2 h
  | node a' b'=>
   simp only[okC,Bool.and_eq_true] at hok
   exact plain hok.1 hok.2 h
  | loop car wr a'=>
   simp only[okC,Bool.and_eq_true] at hok
   exact plain hok.1 hok.2 h
  | draw _=>
   simp only[okC,Bool.and_eq_true] at hok
   exact plain hok.1 hok.2 h
  | rng _ _=>
   simp only[okC,Bool.and_eq_true] at hok
   exact plain hok.1 hok.2 h
 | .cond c x y,an,Q,f,ds,w,hok,h=>by
  intro a hR
  simp only[okC,Bool.and_eq_true] at hok
  simp only[ex] at h
  split at h
  case h_2=>exact h.elim
  rename_i b hb
  have he:a.eval c=.bool b:=by rw[hR.eval];exact hb
  rcases h.cases with ⟨rfl,h⟩|⟨rfl,h⟩
  ·refine wpIn_cond he (wpIn_mono (ex_sound hT hm x an.l _ f ds w hok.1 h a hR) ?_)
   rintro e a₁ w₁ ⟨f₁,ds₁,hR₁,hA₁,hQ₁⟩
   exact⟨f₁,ds₁,hR₁,hA₁.mono fun t ht=>List.mem_append_left _ ht,hQ₁⟩
  ·refine wpIn_cond he (wpIn_mono (ex_sound hT hm y an.r _ f ds w hok.2 h a hR) ?_)
   rintro e a₁ w₁ ⟨f₁,ds₁,hR₁,hA₁,hQ₁⟩
   exact⟨f₁,ds₁,hR₁,hA₁.mono fun t ht=>List.mem_append_right _ ht,hQ₁⟩
 | .block id c,an,Q,f,ds,w,hok,h=>by
  intro a hR
  refine wpIn_block (wpIn_mono (ex_sound hT hm c an _ f ds w hok h a hR) ?_)
  rintro e a₁ w₁ ⟨f₁,ds₁,hR₁,hA₁,hQ₁⟩
  cases e with
  | exit i=>
   simp only[Exit.inBlock]
   simp only[blockQ] at hQ₁
   by_cases hi:i=id
   ·subst hi
    rw[if_pos rfl]
    rw[show Nat.beq i i=true from Nat.beq_refl i] at hQ₁
    exact⟨f₁,ds₁,hR₁,hA₁,hQ₁⟩
   ·rw[if_neg hi]
    have hb:Nat.beq i id=false:=by
     cases hb:Nat.beq i id with
     | false=>rfl
     | true=>exact(hi (Nat.eq_of_beq_eq_true hb)).elim
    rw[hb] at hQ₁
    exact⟨f₁,ds₁,hR₁,hA₁,hQ₁⟩
  | _=>exact⟨f₁,ds₁,hR₁,hA₁,hQ₁⟩
 | .loop c,an,Q,f,ds,w,hok,h=>by
  intro a hR
  cases an with
  | loop car wr an'=>
   simp only[okC,Bool.and_eq_true] at hok
   obtain⟨h1,h3⟩:=hok
   simp only[ex] at h
   obtain⟨I,h0,hstep⟩:=h
   obtain⟨hc0,hI0⟩:=h0.out
   let fr:Act->Fr:=fun a t=>a.tmps.getD t undef
   have hfr:∀ {a f' ds'},Rel N a f' ds'->fr a=f':=fun h=>funext h.val
   refine wpIn_loop (fun a' w'=>Rel N a' (fr a') ds/\AgreeOff (wrs c) f (fr a')/\carChk car (fr a')=true/\∃n,I n (carDec car (fr a')) w') (fun a' w'=>leastN fun n=>I n (carDec car (fr a')) w')
    ⟨by rw[hfr hR];exact hR,by rw[hfr hR];exact AgreeOff.refl _ _,by rw[hfr hR];exact hc0,by rw[hfr hR];exact hI0⟩ ?_
   rintro a' w' ⟨hR',hA',hc',hI'⟩
   have h4:=hstep _ _ _ (fr a') (leastN_is hI')
   rw[ovr_eq (hA'.mono (subL_mem h3)) hc'] at h4
   refine wpIn_mono (ex_sound hT hm c an' _ (fr a') ds w' h1 h4 a' hR') ?_
   rintro e a₁ w₁ ⟨f₁,ds₁,hR₁,hA₁,hQ₁⟩
   cases e with
   | normal=>
    obtain⟨rfl,hN⟩:=hQ₁
    obtain⟨hc₁,m,hμ,hI₁⟩:=hN.out
    refine⟨⟨by rw[hfr hR₁];exact hR₁,by rw[hfr hR₁];exact hA'.trans hA₁,by rw[hfr hR₁];exact hc₁,m,by rw[hfr hR₁];exact hI₁⟩,?_⟩
    rw[hfr hR₁]
    exact Nat.lt_of_le_of_lt (leastN_le hI₁) hμ
   | _=>exact⟨f₁,ds₁,hR₁,hA'.trans hA₁,hQ₁⟩
  | nil=>exact h.elim
  | node _ _=>exact h.elim
  | join _ _ _ _=>exact h.elim
  | draw _=>exact h.elim
  | rng _ _=>exact h.elim
 | .region id ops draw,an,Q,f,ds,w,hok,h=>by
  intro a hR
  cases draw with
  | false=>
   refine wpIn_region ?_
   rw[List.range_eq_range']
   have:=exl_sound (r:=r) hT hok ops.toList 0 f a w (by simp) h hR (AgreeOff.refl _ _) (Q:=fun e a' w'=>∃f' ds',Rel N a' f' ds'/\AgreeOff (wrs (.region id ops false)) f f'/\Q e f' ds' w')
    (fun f' a' w' hR' hA' hK=>⟨f',ds,hR',hA',hK⟩)
   rw[Array.length_toList] at this
   exact this
  | true=>
   simp only[okC,Bool.and_eq_true] at hok
   obtain⟨⟨⟨⟨⟨h1,h2⟩,h3⟩,h4⟩,h5⟩,h6⟩:=hok
   cases an with
   | draw p=>
    simp only[Bool.and_eq_true,Bool.not_eq_true'] at h6
    refine wpIn_region_any hm ?_
    have inv0:HeadInv .any ops ops.size (Array.replicate ops.size false):=
     ⟨by simp,fun j oj _ hl=>(by rw[getD_replicate_false] at hl;cases hl),fun t h h'=>absurd h' (Nat.not_lt.2 h)⟩
    have:=(exq_sound (r:=r) (S:=fun _ _ _=>False) (Q:=fun a' w'=>∃f' ds',Rel N a' f' ds'/\AgreeOff (wrs (.region id ops true)) f f'/\Q .normal f' ds' w') hT h1 h2 h3 h4 h5 (f₀:=f) (fun _ _ _ _ _ _ h=>h)
     (fun f' a' w' hR' hA' hK=>⟨f',ds,hR',hA',hK⟩) p ops.size _ [] _ [] f _ a h6.2 h hR (AgreeOff.refl _ _) inv0 (fun q hq=>by simp at hq) (fun q hq=>by simp at hq)).1 h6.1 rfl
    have:=wpH_any (Q':=fun e a' w'=>∃f' ds',Rel N a' f' ds'/\AgreeOff (wrs (.region id ops true)) f f'/\Q e f' ds' w') (fun a w h=>h) ops.size _ a _ this
    exact wpAnyIn_weak (fun a w h=>h) (fun _ _ _ h=>h.elim) _ _ _ _ this
   | nil=>exact h.elim
   | node _ _=>exact h.elim
   | loop _ _ _=>exact h.elim
   | join _ _ _ _=>exact h.elim
   | rng _ _=>exact h.elim
 | .rangeFunc g ps assign body,an,Q,f,ds,w,_,h=>by
  intro a hR
  cases an with
  | rng car an'=>
   simp only[ex] at h
   obtain⟨hc,h⟩:=h.out
   have h:=h f
   rw[frC_eq hc] at h
   refine wpIn_mono (h a hR) ?_
   rintro e a₁ w₁ ⟨f₁,ds₁,hR₁,hQ₁⟩
   cases e with
   | normal=>obtain⟨rfl,hQ₁⟩:=hQ₁;exact⟨f₁,ds₁,hR₁,AgreeOff.refl _ _,hQ₁⟩
   | ret=>obtain⟨rfl,hQ₁⟩:=hQ₁;exact⟨f₁,ds₁,hR₁,AgreeOff.refl _ _,hQ₁⟩
   | exit id=>obtain⟨rfl,hQ₁⟩:=hQ₁;exact⟨f₁,ds₁,hR₁,AgreeOff.refl _ _,hQ₁⟩
   | goto _=>exact hQ₁.elim
   | panic _=>exact hQ₁.elim
   | outgrown=>exact hQ₁.elim
  | nil=>exact h.elim
  | node _ _=>exact h.elim
  | loop _ _ _=>exact h.elim
  | join _ _ _ _=>exact h.elim
  | draw _=>exact h.elim
 | .scope c,an,Q,f,ds,w,hok,h=>by
  intro a hR
  refine wpIn_scope' (wpIn_mono (ex_sound hT hm c an _ f ds w hok h a hR) ?_)
  rintro e a₁ w₁ ⟨f₁,ds₁,hR₁,hA₁,hQ₁⟩
  cases e with
  | goto _=>exact hQ₁.elim
  | normal=>exact⟨f₁,ds₁,hR₁,hA₁,hQ₁⟩
  | exit _=>exact⟨f₁,ds₁,hR₁,hA₁,hQ₁⟩
  | ret=>exact⟨f₁,ds₁,hR₁,hA₁,hQ₁⟩
  | panic _=>exact⟨f₁,ds₁,hR₁,hA₁,hQ₁⟩
  | outgrown=>exact⟨f₁,ds₁,hR₁,hA₁,hQ₁⟩
 | .label _,_,_,f,ds,w,_,h=>fun a hR=>wpIn_label ⟨f,ds,hR,AgreeOff.refl _ _,h⟩
 | .goto _,_,_,_,_,_,_,h=>h.elim
 | .refuse _,_,_,_,_,_,_,h=>h.elim
end
def resP(tb:Tab)(f:Fr)(w:World):List ResultVar->(List Value->Prop)->Prop
 | [],K=>K []
 | .tmp t::l,K=>resP tb f w l fun vs=>K (f t::vs)
 | .cell a T::l,K=>LoadP tb w T (f a) fun v=>resP tb f w l fun vs=>K (v::vs)
def tupV:List Value->Value
 | [v]=>v
 | vs=>.tuple vs.toArray
def marksP(w:World):List Df->(World->Prop)->Prop
 | [],K=>K w
 | .fn _::_,_=>False
 | .col D::ds,K=>w.heap[D]? =some (.deferred (some []))/\∀w',IsUpd w D (.deferred none) w'->marksP w' ds K
def retQ(tb:Tab)(rs:List ResultVar)(R:RV):Post
 | .normal,f,ds,w=>marksP w ds fun w'=>resP tb f w' rs fun vs=>R (tupV vs) w'
 | .ret,f,ds,w=>marksP w ds fun w'=>resP tb f w' rs fun vs=>R (tupV vs) w'
 | _,_,_,_=>False
def argFr:Nat->List Value->Fr
 | _,[]=>fun _=>undef
 | i,v::l=>put (argFr (i+1) l) (some i) v
theorem argFr_get:∀(l:List Value)(i t:Nat),argFr i l t=if t<i then undef else l.getD (t-i) undef
 | [],i,t=>by simp[argFr]
 | v::l,i,t=>by
  simp only[argFr,put]
  split
  ·rename_i h
   have:=Nat.eq_of_beq_eq_true h
   subst this
   simp
  ·rename_i h
   have hne:t≠i:=fun e=>by subst e;rw[show Nat.beq t t=true from Nat.beq_refl t] at h;cases h
   rw[argFr_get l (i+1) t]
   by_cases hlt:t<i
   ·rw[if_pos (by omega),if_pos hlt]
   ·rw[if_neg (by omega),if_neg hlt,show t-i=(t-(i+1))+1 by omega]
    simp
section
variable {P:Program} {tb:Tab}
def resF(tmps:Array Value):ResultVar->Sem Value
 | .tmp t=>pure (tmps.getD t undef)
 | .cell a t=>do loadVar t (<-asAddr (tmps.getD a undef))
theorem resP_run(hT:tb.Ok P){tmps:Array Value}{f:Fr}(hv:∀t,tmps.getD t undef=f t){w:World}:∀(rs:List ResultVar)(K:List Value->Prop),resP tb f w rs K->
  ∃vs,K vs/\(rs.mapM (resF tmps)).run P w=.ok vs w
 | [],K,h=>⟨[],h,by simp⟩
 | .tmp t::l,K,h=>by
  obtain⟨vs,hK,hr⟩:=resP_run hT hv l _ h
  refine⟨_,hK,?_⟩
  have h0:(resF tmps (.tmp t)).run P w=.ok (f t) w:=by simp only[resF,Sem.run_pure,hv]
  simp only[List.mapM_cons,Sem.run_bind,Sem.run_pure,Result.andThen_ok,hr,h0]
 | .cell b T::l,K,h=>by
  simp only[resP] at h
  unfold LoadP at h
  split at h
  case h_2=>exact h.elim
  rename_i ti b' o hti hp
  obtain⟨x,hx,h⟩:=h
  obtain⟨vs,hK,hr⟩:=resP_run hT hv l _ h
  refine⟨_,hK,?_⟩
  have h1:=loadVar_of (P:=P) (hT _ _ hti) hx
  have h0:(resF tmps (.cell b T)).run P w=.ok (ti.sh.enc x) w:=by simp only[resF,hv,hp,asAddr,Sem.run_bind,Sem.run_pure,Result.andThen_ok,h1]
  simp only[List.mapM_cons,Sem.run_bind,Sem.run_pure,Result.andThen_ok,hr,h0]
theorem results_run(hT:tb.Ok P){tmps:Array Value}{f:Fr}(hv:∀t,tmps.getD t undef=f t){w:World}{fn:Func}{K:Value->Prop}(h:resP tb f w fn.results.toList fun vs=>K (tupV vs)):
  ∃v,K v/\(results fn tmps).run P w=.ok v w:=by
 obtain⟨vs,hK,hr⟩:=resP_run hT hv fn.results.toList _ h
 refine⟨_,hK,?_⟩
 have e:results fn tmps=(do let vs <-fn.results.mapM (resF tmps);pure (if h:vs.size=1 then vs[0] else .tuple vs)):=by
  unfold results
  congr 2
 rw[e,Array.mapM_eq_mapM_toList]
 simp only[Sem.run_bind,Sem.run_map,hr,Result.andThen_ok,Sem.run_pure]
 match vs with
 | []=>rfl
 | [v]=>rfl
 | v::u::l=>rfl
theorem isUpd_putObj{w:World}{r:Nat}{o:Obj}(h:w.heap[r]? =some o)(o':Obj):IsUpd w r o' (w.putObj r o'):=isUpd_set h o' w.drawn
theorem leaves_of(hT:tb.Ok P){fn:Func}{f:Fr}{R:RV}(tmps:Array Value)(hv:∀t,tmps.getD t undef=f t):
  ∀(ds:List Df)(w:World),marksP w ds (fun w'=>resP tb f w' fn.results.toList fun vs=>R (tupV vs) w')->
   LeavesInM Fence.wide 0 P fn tmps (fun e w'=>∃v,e=.returned v/\R v w') (ds.map mark) .returning w
 | [],w,h=>by
  obtain⟨v,hK,hr⟩:=results_run (P:=P) hT hv (K:=fun v=>R v w) h
  exact⟨v,hr,v,rfl,hK⟩
 | .fn _::_,_,h=>h.elim
 | .col D::ds,w,h=>by
  obtain⟨hD,h⟩:=h
  refine⟨by simp,.inl ⟨D,_,rfl,run_takeDeferred hD,?_⟩⟩
  exact leaves_of hT tmps hv ds _ (h _ (isUpd_putObj hD _))
def rg:List Nat->List Nat
 | a::b::l=>List.range' a (b+1-a)++rg l
 | _=>[]
def sts(l:List Nat)(x:Pl):Pl:=l.foldr .st x
def oi:Sh:=.one (.int .i64)
def ob:Sh:=.one .bool
def nd(a:An):An:=.node .nil a
theorem call_of(hT:tb.Ok P)(hm:P.follows .mixedOrders=true){f:FuncId}{fn:Func}{c:Code}{args:Array Value}{w:World}{R:RV}
  (hE:Entr P f)(hf:P.funcs[f]? =some fn)(hb:fn.body=some c)(an:An)(hok:okC tb fn.ntmps c an=true)(hsz:args.size<=fn.ntmps)
  (h:ex P tb fn.ntmps none c an (retQ tb fn.results.toList R) (argFr 0 args.toList) [] w):CW P f args w R:=by
 refine⟨hE,callsIn_of_wp_marks hf hb trivial ?_⟩
 have hR:Rel fn.ntmps { tmps:=args++Array.replicate (fn.ntmps-args.size) undef,defers:=[] } (argFr 0 args.toList) []:=by
  refine⟨by simp;omega,fun t=>?_,rfl⟩
  rw[argFr_get]
  simp only[Nat.not_lt_zero,if_false,Nat.sub_zero]
  rw[Array.getD_eq_getD_getElem?,Array.getElem?_append]
  split
  ·rename_i ht;simp[ht]
  ·rename_i ht
   have:args.toList.getD t undef=undef:=by simp[List.getD,Nat.not_lt.1 ht]
   rw[this,Array.getElem?_replicate]
   split<;>rfl
 have:=ex_sound hT hm c an _ _ _ w hok h _ hR
 refine wpIn_mono this ?_
 rintro e a' w' ⟨f',ds',hR',_,hQ⟩
 cases e with
 | normal=>simp only[bodyPostM,hR'.defers];exact leaves_of hT a'.tmps hR'.val ds' w' hQ
 | ret=>simp only[bodyPostM,hR'.defers];exact leaves_of hT a'.tmps hR'.val ds' w' hQ
 | exit _=>exact hQ.elim
 | goto _=>exact hQ.elim
 | panic _=>exact hQ.elim
 | outgrown=>exact hQ.elim
theorem entr_of{f:FuncId}{fn:Func}(hf:P.funcs[f]? =some fn)(hb:fn.body.isNone=false)(hn:(fn.name == "runtime.NumGoroutine")=false):Entr P f:=by
 intro args w
 simp only[callFunc,Sem.run_bind,run_program,Result.andThen_ok,hf,hn,hb,Bool.false_eq_true,if_false,Sem.run_pure]
end
def Obj.keep:Obj->Bool
 | .cells .. =>true
 | .map .. =>true
 | _=>false
structure Stb(n₀:Nat)(W W':World):Prop where
 size:W.heap.size<=W'.heap.size
 low:∀i:Nat,i<n₀->W'.heap[i]? =W.heap[i]?
 keep:∀(i:Nat) o,W.heap[i]? =some o->Gx.Obj.keep o=true->W'.heap[i]? =some o
 rest:Rest W W'
theorem Stb.trans{n₀:Nat}{A B C:World}(h:Stb n₀ A B)(k:Stb n₀ B C):Stb n₀ A C:=
 ⟨Nat.le_trans h.size k.size,fun i hi=>(k.low i hi).trans (h.low i hi),fun i o ho hk=>k.keep i o (h.keep i o ho hk) hk,h.rest.trans k.rest⟩
theorem Stb.mono{m n:Nat}{A B:World}(h:Stb n A B)(hm:m<=n):Stb m A B:=⟨h.size,fun i hi=>h.low i (Nat.lt_of_lt_of_le hi hm),h.keep,h.rest⟩
theorem Stb.alloc{n₀:Nat}{W W':World}{o:Obj}{b:Nat}(h:IsAlloc W o b W')(hn:n₀<=W.heap.size):Stb n₀ W W':=
 ⟨by rw[h.size];omega,fun i hi=>h.old i (by omega),fun i o ho _=>by
  have:i<W.heap.size:=(Array.getElem?_eq_some_iff.1 ho).1
  rw[h.old i this];exact ho,h.rest⟩
theorem Stb.upd{n₀:Nat}{W W':World}{o o':Obj}{b:Nat}(h:IsUpd W b o' W')(hb:W.heap[b]? =some o)(hk:Gx.Obj.keep o=false)(hn:n₀<=b):Stb n₀ W W':=
 ⟨by rw[h.size];exact Nat.le_refl _,fun i hi=>h.old i (by omega),fun i o2 ho hk2=>by
  by_cases e:i=b
  ·subst e;rw[hb] at ho;cases ho;rw[hk] at hk2;cases hk2
  ·rw[h.old i e];exact ho,h.rest⟩
theorem Stb.drawn(n₀:Nat)(W:World)(d:Nat):Stb n₀ W { W with drawn:=d }:=⟨Nat.le_refl _,fun _ _=>rfl,fun _ _ h _=>h,⟨rfl,rfl,rfl⟩⟩
def Its(W W':World):Prop:=∀(i:Nat) m s q t,W.heap[i]? =some (.mapIter m s q t)->W'.heap[i]? =some (.mapIter m s q t)
theorem Its.trans{A B C:World}(h:Its A B)(k:Its B C):Its A C:=fun i m s q t e=>k i m s q t (h i m s q t e)
theorem Its.upd{W W':World}{o o':Obj}{b:Nat}(h:IsUpd W b o' W')(hb:W.heap[b]? =some o)(ho:∀m s q t,o≠ .mapIter m s q t):Its W W':=fun i m s q t e=>by
 by_cases hi:i=b
 ·subst hi;rw[hb] at e;exact absurd (Option.some.inj e) (ho _ _ _ _)
 ·rw[h.old i hi];exact e
def Abid{β:Type}(n₀:Nat)(I:β->World->Prop):Prop:=∀s W W',I s W->Stb n₀ W W'->I s W'
def Iter{α:Type}(P:Program)(g:FuncId)(lb:Array Value)(enc:α->Array Value)(bnd:Bool)(Nxt:List α->α->Prop)(Fin:List α->Prop)(Inv:World->Prop):Prop:=
 Entr P g/\∀(l:Nat)(J Jx:List α->World->Prop)(W:World),Abid W.heap.size J->Abid W.heap.size Jx->(∀pre W',J pre W'->Inv W')->(∀pre W',J pre W'->W.heap.size<=W'.heap.size)->
  (bnd=true->∃B,∀pre W',J pre W'->pre.length<=B)->
  (∀pre x W1,J pre W1->Nxt pre x->YW P l (enc x) W1 fun b W'=>match b with|true=>J (pre++[x]) W'/\Its W1 W'|false=>Jx (pre++[x]) W')->J [] W->
  CW P g (#[.func (.yield l) #[] #[]]++lb) W fun _ W'=>(∃xs,Fin xs/\J xs W')\/(∃pre,Jx pre W')
def roundQ(l D:Nat)(W0:World)(Jn:World->Prop)(Jx:Code->World->Prop):Post
 | .normal,_,_,w=>(w.heap[l]? =W0.heap[l]? /\w.heap[D]? =W0.heap[D]?)/\Jn w
 | .ret,_,_,w=>(w.heap[l]? =W0.heap[l]? /\w.heap[D]? =W0.heap[D]?)/\Jx .ret w
 | .exit id,_,_,w=>(w.heap[l]? =W0.heap[l]? /\w.heap[D]? =W0.heap[D]?)/\Jx (.exit id) w
 | _,_,_,_=>False
def jumpQ(Kr:List Df->World->Prop)(Kx:Nat->List Df->World->Prop)(ds:List Df)(w:World):Code->Prop
 | .ret=>Kr ds w
 | .exit id=>Kx id ds w
 | _=>False
def putAll(f:Fr):List Tmp->List Value->Fr
 | t::ts,v::vs=>putAll (put f (some t) v) ts vs
 | _,_=>f
section
variable {P:Program} {tb:Tab}
theorem foldl_setIfInBounds{N:Nat}:∀(ps:List Tmp)(vs:List Value)(tmps:Array Value)(f:Fr),tmps.size=N->(∀t,tmps.getD t undef=f t)->(∀p∈ps,p<N)->
  ((ps.zip vs).foldl (fun(t:Array Value) (q:Tmp×Value)=>t.setIfInBounds q.1 q.2) tmps).size=N/\
   ∀t,((ps.zip vs).foldl (fun(t:Array Value) (q:Tmp×Value)=>t.setIfInBounds q.1 q.2) tmps).getD t undef=putAll f ps vs t
 | [],vs,tmps,f,hs,hv,_=>by cases vs<;>exact⟨hs,hv⟩
 | p::ps,[],tmps,f,hs,hv,_=>⟨hs,hv⟩
 | p::ps,v::vs,tmps,f,hs,hv,hp=>by
  have hR:Rel N ({ tmps,defers:=[] }:Act) f []:=⟨hs,hv,rfl⟩
  have h1:=hR.put (d:=some p) (fun e he=>by cases he;exact hp p (by simp)) v
  exact foldl_setIfInBounds ps vs (tmps.setIfInBounds p v) (put f (some p) v) h1.size h1.val (fun q hq=>hp q (by simp[hq]))
def BodyP(P:Program)(tb:Tab)(N l D n₀:Nat)(an:An)(ps:Array Tmp)(assign body:Code)(f:Fr)(Jn:World->Prop)(Jx:Code->World->Prop)(args:List Value)(W:World):Prop:=
 ex P tb N (some l) assign .nil (thenQ (fun f' ds' w'=>ds'=[]/\(w'.heap[l]? =W.heap[l]? /\w'.heap[D]? =W.heap[D]?)/\
  ∀w'',Stb n₀ w' w''->Its w' w''->(∃rc:Loop,w''.heap[l]? =some (.loop rc))->ex P tb N (some l) body an (roundQ l D w'' Jn Jx) f' [] w'') (fun _ _ _ _=>False)) (putAll f ps.toList args) [] W
theorem round_of(hT:tb.Ok P)(hm:P.follows .mixedOrders=true){α:Type}{N l D n₀:Nat}{an:An}{ps:Array Tmp}{assign body:Code}{f:Fr}{I:List α->World->Prop}{Ix:Code->List α->World->Prop}{pre:List α}{x:α}{args:Array Value}{W:World}
  {fn:FuncId}{tmps:Array Value}(hs:tmps.size=N)(hv:∀t,tmps.getD t undef=f t)(hps:∀p∈ps.toList,p<N)(hok1:okC tb N assign .nil=true)(hok2:okC tb N body an=true)(hsz:args.size=ps.size)
  (hn:n₀<=l){Dr:Nat}{rec:Loop}(hrec:rec={ state:=.ready,pending:=none,fn,tmps,params:=ps,assign,body,defers:=Dr })(hl:W.heap[l]? =some (.loop rec))
  (hI:Abid n₀ I)(hIx:∀c,Abid n₀ (Ix c)){E:World->Prop}(hE:∀A B o,E A->IsUpd A l o B->(∃rc:Loop,A.heap[l]? =some (.loop rc))->E B)(hB:BodyP P tb N l D n₀ an ps assign body f (fun W'=>I (pre++[x]) W'/\E W') (fun c=>Ix c (pre++[x])) args.toList W):
  YW P l args W fun b W'=>(D≠l->W'.heap[D]? =W.heap[D]?)/\match b with
   | true=>W'.heap[l]? =some (.loop rec)/\I (pre++[x]) W'/\E W'
   | false=>∃c,W'.heap[l]? =some (.loop { rec with state:=.done,pending:=some c })/\Ix c (pre++[x]) W':=by
 have hy:=run_yield (P:=P) (args:=args) hl (by rw[hrec];exact hsz)
 rw[hrec] at hy
 refine⟨fn,_,assign,body,hy,?_⟩
 refine roundIn_of_wpIn (F:=Fence.wide) trivial ?_
 obtain⟨hs',hv'⟩:=foldl_setIfInBounds ps.toList args.toList tmps f hs hv hps
 have hzip:(ps.zip args).foldl (fun tmps (x:Tmp×Value)=>tmps.setIfInBounds x.1 x.2) tmps=(ps.toList.zip args.toList).foldl (fun(t:Array Value) (q:Tmp×Value)=>t.setIfInBounds q.1 q.2) tmps:=by
  rw[<-Array.foldl_toList,Array.toList_zip]
 have hR:Rel N ({ tmps:=(ps.zip args).foldl (fun tmps (x:Tmp×Value)=>tmps.setIfInBounds x.1 x.2) tmps,defers:=[] }:Act) (putAll f ps.toList args.toList) []:=by
  rw[hzip];exact⟨hs',hv',rfl⟩
 have h1:=ex_sound (r:=some l) hT hm assign .nil _ _ _ W hok1 hB _ hR
 refine wpIn_mono (F:=fz (some l)) h1 ?_
 rintro e a₁ w₁ ⟨f₁,ds₁,hR₁,_,hQ₁⟩
 cases e with
 | normal=>
  obtain⟨rfl,⟨hkl,hkD⟩,hQ₁⟩:=hQ₁
  have hl₁:w₁.heap[l]? =some (.loop rec):=hkl.trans hl
  have hst:rec.state=.ready:=by rw[hrec]
  refine⟨_,run_beginRound hl₁ hst,?_⟩
  have hu:=isUpd_putObj hl₁ (.loop { rec with state:=.busy })
  have hb:=hQ₁ _ (Stb.upd hu hl₁ rfl hn) (Its.upd hu hl₁ (by simp)) ⟨_,hu.new⟩
  have h2:=ex_sound (r:=some l) hT hm body an _ f₁ [] _ hok2 hb _ hR₁
  refine wpIn_mono (F:=fz (some l)) h2 ?_
  rintro e a₂ w₂ ⟨f₂,ds₂,hR₂,_,hQ₂⟩
  have hDw:D≠l->(w₁.putObj l (.loop { rec with state:=.busy })).heap[D]? =W.heap[D]? :=fun hlD=>(hu.old D hlD).trans hkD
  have fin:∀(jump:Option Code),(w₂.heap[l]? =(w₁.putObj l (.loop { rec with state:=.busy })).heap[l]? /\w₂.heap[D]? =(w₁.putObj l (.loop { rec with state:=.busy })).heap[D]?)->
    ∃w₃,(Instr.endRound l jump).run P w₂=.ok (.bool jump.isNone) w₃/\w₃.heap[l]? =some (.loop { rec with state:=if jump.isNone then .ready else .done,pending:=jump })/\(D≠l->w₃.heap[D]? =W.heap[D]?)/\Stb n₀ w₂ w₃/\(E w₂->E w₃):=fun jump hk=>by
   have hl₂:w₂.heap[l]? =some (.loop { rec with state:=.busy }):=hk.1.trans hu.new
   have hu₂:=isUpd_putObj hl₂ (.loop { rec with state:=if jump.isNone then .ready else .done,pending:=jump })
   exact⟨_,run_endRound jump hl₂,hu₂.new,fun hlD=>(hu₂.old D hlD).trans (hk.2.trans (hDw hlD)),Stb.upd hu₂ hl₂ rfl hn,fun h=>hE _ _ _ h hu₂ ⟨_,hl₂⟩⟩
  cases e with
  | normal=>
   obtain⟨hk,hI₂,hE₂⟩:=hQ₂
   obtain⟨w₃,hr,hl₃,hD₃,hS,hEE⟩:=fin none hk
   refine⟨_,w₃,hr,true,rfl,hD₃,?_,hI _ _ _ hI₂ hS,hEE hE₂⟩
   rw[hl₃]
   simp[hrec]
  | ret=>
   obtain⟨hk,hI₂⟩:=hQ₂
   obtain⟨w₃,hr,hl₃,hD₃,hS,_⟩:=fin (some .ret) hk
   exact⟨_,w₃,hr,false,rfl,hD₃,_,hl₃,hIx _ _ _ _ hI₂ hS⟩
  | exit id=>
   obtain⟨hk,hI₂⟩:=hQ₂
   obtain⟨w₃,hr,hl₃,hD₃,hS,_⟩:=fin (some (.exit id)) hk
   exact⟨_,w₃,hr,false,rfl,hD₃,_,hl₃,hIx _ _ _ _ hI₂ hS⟩
  | goto _=>exact hQ₂.elim
  | panic _=>exact hQ₂.elim
  | outgrown=>exact hQ₂.elim
 | exit _=>exact hQ₁.elim
 | goto _=>exact hQ₁.elim
 | ret=>exact hQ₁.elim
 | panic _=>exact hQ₁.elim
 | outgrown=>exact hQ₁.elim
theorem range_none(hT:tb.Ok P)(hm:P.follows .mixedOrders=true){α:Type}{N:Nat}{an:An}{g:Operand}{ps:Array Tmp}{assign body:Code}{f:Fr}{ds:List Df}{w:World}{Kn Kr:List Df->World->Prop}{Kx:Nat->List Df->World->Prop}
  {gf:FuncId}{lb:Array Value}(hg:ev f g=.func (.func gf) #[] lb){enc:α->Array Value}{bnd:Bool}{Nxt:List α->α->Prop}{Fin:List α->Prop}{Inv:World->Prop}(spec:Iter P gf lb enc bnd Nxt Fin Inv)
  (hok1:okC tb N assign .nil=true)(hok2:okC tb N body an=true)(hps:ps.toList.all (fun p=>Nat.blt p N)=true)(henc:∀x,(enc x).size=ps.size)
  (I:List α->World->Prop)(Ix:Code->List α->World->Prop)(hI:Abid w.heap.size I)(hIx:∀c,Abid w.heap.size (Ix c))(hInv:∀pre W,I pre W->Inv W)
  (hbnd:bnd=true->∃B,∀pre W,I pre W->pre.length<=B)(h0:I [] w)
  (hbody:∀pre x W,I pre W->Nxt pre x->w.heap.size+1<W.heap.size->BodyP P tb N (w.heap.size+1) w.heap.size w.heap.size an ps assign body f (fun W'=>I (pre++[x]) W'/\Its W W') (fun c=>Ix c (pre++[x])) (enc x).toList W)
  (hdone:∀xs W,Fin xs->I xs W->W.heap[w.heap.size]? =some (.deferred (some []))->Kn (.col w.heap.size::ds) W)
  (hstop:∀c pre W,Ix c pre W->W.heap[w.heap.size]? =some (.deferred (some []))->jumpQ Kr Kx (.col w.heap.size::ds) W c):
  RangeP P tb N none an g ps assign body f ds w Kn Kr Kx:=by
 intro a hR
 refine wpIn_rangeFunc ?_
 intro fn _
 obtain⟨rec,hrec⟩:∃rec:Loop,rec={ state:=.ready,pending:=none,fn,tmps:=a.tmps,params:=ps,assign,body,defers:=w.heap.size }:=⟨_,rfl⟩
 obtain⟨W1,hW1⟩:∃W1,(w.alloc (.deferred (some []))).alloc (.loop rec)=W1:=⟨_,rfl⟩
 have e1:IsAlloc w (.deferred (some [])) w.heap.size (w.alloc (.deferred (some []))):=isAlloc_push w _ w.drawn
 have e2:IsAlloc (w.alloc (.deferred (some []))) (.loop rec) (w.heap.size+1) W1:=by
  have:=isAlloc_push (w.alloc (.deferred (some []))) (.loop rec) (w.alloc (.deferred (some []))).drawn
  rw[e1.size] at this
  rw[<-hW1];exact this
 have hL1:W1.heap[w.heap.size+1]? =some (.loop rec):=e2.new
 have hK1:W1.heap[w.heap.size]? =some (.deferred (some [])):=by rw[e2.old _ (by rw[e1.size];omega)];exact e1.new
 have hS1:Stb w.heap.size w W1:=(Stb.alloc e1 (Nat.le_refl _)).trans (Stb.alloc e2 (by rw[e1.size];omega))
 have hsz1:W1.heap.size=w.heap.size+2:=by rw[e2.size,e1.size]
 have hev:a.eval g=.func (.func gf) #[] lb:=by rw[hR.eval];exact hg
 have hpsN:∀p∈ps.toList,p<N:=fun p hp=>by have:=List.all_eq_true.1 hps p hp;rw[Nat.blt_eq] at this;exact this
 refine⟨w.heap.size+1,[{ target:=.collected w.heap.size,args:=#[] }],W1,{ target:=.fn (.func gf) lb,args:=#[.func (.yield (w.heap.size+1)) #[] #[]] },W1,gf,
  #[.func (.yield (w.heap.size+1)) #[] #[]]++lb,W1,?_,?_,fun f' _=>trivial,?_,fz_depth none,?_⟩
 ·rw[<-hW1,hrec];exact run_enterLoop_outer _ _ _ _ _
 ·simp only[resolve]
  rw[hev]
  simp[Deferred.ofValue,Act.eval]
 ·simp only[invoke]
  exact spec.1 _ _
 ·refine fz_callsIn.2 ?_
  have hc:=spec.2 (w.heap.size+1)
   (fun pre W=>I pre W/\W.heap[w.heap.size+1]? =some (.loop rec)/\W.heap[w.heap.size]? =some (.deferred (some [])))
   (fun pre W=>∃c,Ix c pre W/\W.heap[w.heap.size+1]? =some (.loop { rec with state:=.done,pending:=some c })/\W.heap[w.heap.size]? =some (.deferred (some [])))
   W1
   (fun s A B hs hS=>⟨hI s A B hs.1 (hS.mono (by omega)),(hS.low _ (by omega)).trans hs.2.1,(hS.low _ (by omega)).trans hs.2.2⟩)
   (fun s A B hs hS=>by obtain⟨c,hc,h1,h2⟩:=hs;exact⟨c,hIx c s A B hc (hS.mono (by omega)),(hS.low _ (by omega)).trans h1,(hS.low _ (by omega)).trans h2⟩)
   (fun pre W h=>hInv pre W h.1)
   (fun pre W h=>by have:w.heap.size+1<W.heap.size:=(Array.getElem?_eq_some_iff.1 h.2.1).1;omega)
   (fun hb=>by obtain⟨B,hB⟩:=hbnd hb;exact⟨B,fun pre W h=>hB pre W h.1⟩)
   (fun pre x W h hx=>by
    have hlt:w.heap.size+1<W.heap.size:=(Array.getElem?_eq_some_iff.1 h.2.1).1
    refine(round_of hT hm (l:=w.heap.size+1) (D:=w.heap.size) (n₀:=w.heap.size) hR.size hR.val hpsN hok1 hok2 (henc x) (by omega) hrec h.2.1 hI hIx (E:=Its W) (fun A B o hE hu hl=>by obtain⟨rc,hl⟩:=hl;exact hE.trans (Its.upd hu hl (by simp))) (hbody pre x W h.1 hx hlt)).mono ?_
    rintro b W' ⟨hD,hb⟩
    cases b with
    | true=>exact⟨⟨hb.2.1,hb.1,(hD (by omega)).trans h.2.2⟩,hb.2.2⟩
    | false=>obtain⟨c,h1,h2⟩:=hb;exact⟨c,h2,h1,(hD (by omega)).trans h.2.2⟩)
   ⟨hI _ _ _ h0 hS1,hL1,hK1⟩
  refine hc.2.mono ?_
  rintro e W2 ⟨v,rfl,h⟩
  have hds:∀(a':Act),a'={ a with defers:=[{ target:=.collected w.heap.size,args:=#[] }]++a.defers }->Rel N a' f (.col w.heap.size::ds):=fun a' e=>by
   subst e
   exact⟨hR.size,hR.val,by rw[hR.defers];rfl⟩
  rcases h with ⟨xs,hF,hi,hl,hk⟩|⟨pre,c,hi,hl,hk⟩
  ·obtain⟨w4,o4,hr4,hu⟩:∃w4 o4,(Instr.endLoop (w.heap.size+1)).run P W2=.ok rec.pending w4/\IsUpd W2 (w.heap.size+1) o4 w4:=
    ⟨_,_,run_endLoop (P:=P) hl (by rw[hrec];simp),isUpd_putObj hl _⟩
   have hp:rec.pending=none:=by rw[hrec]
   rw[hp] at hr4
   refine⟨none,w4,hr4,?_⟩
   exact⟨f,.col w.heap.size::ds,hds _ rfl,rfl,hdone xs _ hF (hI _ _ _ hi (Stb.upd hu hl rfl (by omega))) ((hu.old _ (by omega)).trans hk)⟩
  ·have hu:=isUpd_putObj hl (.loop { rec with state:=.exhausted,pending:=some c })
   refine⟨some c,_,by have:=run_endLoop (P:=P) hl (by simp);exact this,?_⟩
   have hj:=hstop c pre _ (hIx c _ _ _ hi (Stb.upd hu hl rfl (by omega))) ((hu.old _ (by omega)).trans hk)
   unfold jumpQ at hj
   split at hj
   ·exact wpIn_ret ⟨f,.col w.heap.size::ds,hds _ rfl,rfl,hj⟩
   ·exact wpIn_exit ⟨f,.col w.heap.size::ds,hds _ rfl,rfl,hj⟩
   ·exact hj.elim
end
abbrev Qx(p:Option Addr)(i n:Int)(K:Nat->Nat->Prop):Prop:=∃b o:Nat,p=some ⟨b,o,none⟩/\(0<=i/\i<n)/\K b o
abbrev Qi(w:World)(b o:Nat)(K:Int->Prop):Prop:=∃n:Int,w.cell? ⟨b,o,none⟩=some (Value.int IntKind.i64 n)/\K n
abbrev Qb(w:World)(b o:Nat)(K:Bool->Prop):Prop:=∃t:Bool,w.cell? ⟨b,o,none⟩=some (Value.bool t)/\K t
abbrev Qs(w:World)(b o:Nat)(K:Sl->Prop):Prop:=∃s:Sl,w.cell? ⟨b,o,none⟩=some (Value.slice s.1 s.2 s.3)/\K s
abbrev Qn{α:Type}(y:Nat->α->World->Prop)(b:Nat)(x:α)(w:World):Prop:=([]:List Df)=[]/\∃b':Nat,b'<b/\y b' x w
abbrev Ql{α:Type}(x0:α)(w:World)(B:(Nat->α->World->Prop)->Nat->α->World->Prop):Prop:=∃(y:Nat->α->World->Prop),(∃b:Nat,y b x0 w)/\∀(b:Nat)(x:α)(w:World)(_:Nat->Value),y b x w->B y b x w
abbrev Qu(P:Program)(k:FuncId)(a:Array Value)(w:World)(K:Sl->World->Prop):Prop:=CX P k a w fun v w=>∃s:Sl,v=Value.slice s.1 s.2 s.3/\K s w
abbrev Qv(P:Program)(k:FuncId)(a:Array Value)(w:World)(K:Bool->World->Prop):Prop:=CX P k a w fun v w=>∃t:Bool,v=Value.bool t/\K t w
abbrev Qw(P:Program)(k:FuncId)(a:Array Value)(w:World)(K:Int->World->Prop):Prop:=CX P k a w fun v w=>∃n:Int,v=Value.int IntKind.i64 n/\K n w
abbrev Qy(s:Sl):Value:=Value.slice s.1 s.2 s.3
abbrev Qz(n:Int):Value:=Value.int IntKind.i64 n
end Go.Proofs.YtoahfpabpdjkkaaGreat.Gx
