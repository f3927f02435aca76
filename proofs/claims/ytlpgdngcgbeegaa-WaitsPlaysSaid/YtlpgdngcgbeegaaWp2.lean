/- Merged by pack.py: GxC, WaitA, GxH, MxA, GxT, GxLS, Srt, GxLJ. -/
import Derived.Test.YtlpgdngcgbeegaaWp1
import Derived.Below
import Derived.Laws.StructEq
import Derived.ChangeKeysEq
import Derived.Lib.Overlaps
import Derived.ChangeSame
import Derived.ProofKit
import Derived.ChangeArms
import Derived.OpenShut
import Derived.Carry
import Derived.Test.YtlpgdngcgbeegaaProg
import Derived.KernelRfl
namespace Go.Proofs.Ytlpgdngcgbeegaa.Gx
open Go
structure Ch(F:Nat->Prop)(w w':World):Prop where
 rest:Rest w w'
 size:w.heap.size<=w'.heap.size
 old:∀i,i<w.heap.size->¬F i->w'.heap[i]? =w.heap[i]?
theorem Ch.refl(F:Nat->Prop)(w:World):Ch F w w:=⟨Rest.refl _,Nat.le_refl _,fun _ _ _=>rfl⟩
theorem Ch.trans{F:Nat->Prop}{a b c:World}(h:Ch F a b)(k:Ch F b c):Ch F a c:=
 ⟨h.rest.trans k.rest,Nat.le_trans h.size k.size,fun i hi hF=>(k.old i (Nat.lt_of_lt_of_le hi h.size) hF).trans (h.old i hi hF)⟩
theorem Ch.mono{F G:Nat->Prop}{a b:World}(h:Ch F a b)(hF:∀i,i<a.heap.size->F i->G i):Ch G a b:=
 ⟨h.rest,h.size,fun i hi hG=>h.old i hi fun hf=>hG (hF i hi hf)⟩
theorem Ch.then{F G:Nat->Prop}{a b c:World}(h:Ch F a b)(k:Ch G b c)(hG:∀i,i<a.heap.size->G i->F i):Ch F a c:=
 ⟨h.rest.trans k.rest,Nat.le_trans h.size k.size,fun i hi hF=>(k.old i (Nat.lt_of_lt_of_le hi h.size) fun hg=>hF (hG i hi hg)).trans (h.old i hi hF)⟩
theorem IsAlloc.ch{w w':World}{o:Obj}{b:Nat}(h:IsAlloc w o b w')(F:Nat->Prop):Ch F w w':=
 ⟨h.rest,by rw[h.size];omega,fun i hi _=>h.old i hi⟩
theorem IsUpd.ch{w w':World}{o:Obj}{b:Nat}(h:IsUpd w b o w'):Ch (fun i=>i=b) w w':=
 ⟨h.rest,by rw[h.size];exact Nat.le_refl _,fun i _ hb=>h.old i hb⟩
theorem Ch.ofStb{w w':World}{n:Nat}(h:Stb n w w'):Ch (fun i=>n<=i) w w':=
 ⟨h.rest,h.size,fun i _ hn=>h.low i (Nat.lt_of_not_le hn)⟩
theorem Ch.drawn(F:Nat->Prop)(w:World)(d:Nat):Ch F w { w with drawn:=d }:=⟨⟨rfl,rfl,rfl⟩,Nat.le_refl _,fun _ _ _=>rfl⟩
abbrev Ext(w w':World):Prop:=Ch (fun _=>False) w w'
theorem Ext.at{w w':World}(h:Ext w w'){i:Nat}{o:Obj}(ho:w.heap[i]? =some o):w'.heap[i]? =some o:=by
 have hi:i<w.heap.size:=(Array.getElem?_eq_some_iff.1 ho).1
 rw[h.old i hi id];exact ho
theorem Ext.below{w w':World}(h:Ext w w'):RowKit.Below w.heap.size w w':=
 ⟨h.rest.os,h.rest.tape,h.rest.output,h.size,fun k hk=>h.old k hk id⟩
theorem Ch.at{F:Nat->Prop}{w w':World}(h:Ch F w w'){i:Nat}{o:Obj}(ho:w.heap[i]? =some o)(hF:¬F i):w'.heap[i]? =some o:=by
 have hi:i<w.heap.size:=(Array.getElem?_eq_some_iff.1 ho).1
 rw[h.old i hi hF];exact ho
theorem heap_lt{w:World}{i:Nat}{o:Obj}(ho:w.heap[i]? =some o):i<w.heap.size:=(Array.getElem?_eq_some_iff.1 ho).1
theorem cell_of{w:World}{b:Nat}{cs:Array Value}{T:TypeId}{q:Nat×Nat}(h:w.heap[b]? =some (.cells cs T q))(o:Nat):w.cell? ⟨b,o,none⟩=cs[o]? :=by
 simp[World.cell?,h]
theorem cellsAt_of{w:World}{b o:Nat}{cs:Array Value}{T:TypeId}{q:Nat×Nat}(h:w.heap[b]? =some (.cells cs T q)){l:List Value}(hl:∀i v,l[i]? =some v->cs[o+i]? =some v):CellsAt w b o l:=by
 intro i v hv
 rw[cell_of h];exact hl i v hv
theorem marks_one{w:World}{D:Nat}{K:World->Prop}(hD:w.heap[D]? =some (.deferred (some [])))(h:∀w',IsUpd w D (.deferred none) w'->K w'):marksP w [D] K:=⟨hD,h⟩
theorem store_one{w:World}{b o:Nat}{v:Value}{old:Array Value}{T:TypeId}{K:World->Prop}(hb:w.heap[b]? =some (.cells old T (0,0)))(ho:o<old.size)(h1:v.oneCell'=true)
  (hK:∀w',IsUpd w b (.cells (old.setIfInBounds o v) T (0,0)) w'->K w'):StoreP w b o [v] K:=
 ⟨old,T,hb,by simp;omega,by intro x hx;simp at hx;subst hx;exact h1,hK⟩
theorem zc_len(z:Array Value)(n:Nat):(zc z n).length=n*z.size:=by
 unfold zc
 rw[Array.length_toList]
 simp[Builtin.zeroCells]
set_option linter.unusedSimpArgs false
def partV(tj:TI)(cs:Array Value)(off:Nat):Option Value:=
 match tj.kd.isAgg with
 | true=>some (.agg (takeL tj.size (dropL off cs.toList)).toArray)
 | false=>nth cs.toList off
def eqK:IntKind->IntKind->Bool
 | .i64,.i64=>true | .u64,.u64=>true | .u8,.u8=>true | .i32,.i32=>true | .u32,.u32=>true | .i8,.i8=>true | .i16,.i16=>true | .u16,.u16=>true
 | _,_=>false
theorem eqK_eq{j k:IntKind}(h:eqK j k=true):j=k:=by cases j<;>cases k<;>first|rfl|cases h
def eqF(tb:Tab)(E:TypeId->Value->Value->Option Bool)(xs ys:Array Value):List Field->Option Bool
 | []=>some true
 | f::fs=>match decide (f.name= "_") with
  | true=>none
  | false=>match tb f.type with
   | none=>none
   | some tj=>match partV tj xs f.offset,partV tj ys f.offset with
    | some x,some y=>match E f.type x y,eqF tb E xs ys fs with
     | some a,some b=>some (a&&b)
     | _,_=>none
    | _,_=>none
section
variable {P:Program} {tb:Tab}
end
def blk(s:Sl):List Nat:=match s.p with
 | some a=>[a.block]
 | none=>[]
abbrev slV(s:Sl):Value:=.slice s.p s.n s.c
def OwS(w:World)(s:Sl)(sz:Nat)(cs:List Value):Prop:=
 (s=⟨none,0,0⟩/\cs=[])\/∃b arr T,s.p=some ⟨b,0,none⟩/\w.heap[b]? =some (.cells arr T (0,0))/\arr.size=s.c*sz/\s.n<=s.c/\arr.toList.take (s.n*sz)=cs
abbrev One(cs:List Value):Prop:=∀x∈cs,x.oneCell'=true
theorem OwS.nil(w:World)(sz:Nat):OwS w ⟨none,0,0⟩ sz []:=.inl ⟨rfl,rfl⟩
theorem OwS.keep{w w':World}{s:Sl}{sz:Nat}{cs:List Value}(h:OwS w s sz cs)(hw:∀b∈blk s,w'.heap[b]? =w.heap[b]?):OwS w' s sz cs:=by
 rcases h with h|⟨b,arr,T,h1,h2,h3⟩
 ·exact .inl h
 ·exact .inr ⟨b,arr,T,h1,by rw[hw b (by simp[blk,h1])];exact h2,h3⟩
theorem OwS.lt{w:World}{s:Sl}{sz:Nat}{cs:List Value}(h:OwS w s sz cs):∀b∈blk s,b<w.heap.size:=by
 rcases h with ⟨rfl,_⟩|⟨b,arr,T,h1,h2,h3⟩
 ·intro b hb;simp[blk] at hb
 ·intro b' hb;simp[blk,h1] at hb;subst hb;exact heap_lt h2
theorem OwS.ch{w w':World}{s:Sl}{sz:Nat}{cs:List Value}{F:Nat->Prop}(h:OwS w s sz cs)(hc:Ch F w w')(hF:∀b∈blk s,¬F b):OwS w' s sz cs:=
 h.keep fun b hb=>hc.old b (h.lt b hb) (hF b hb)
theorem OwS.ext{w w':World}{s:Sl}{sz:Nat}{cs:List Value}(h:OwS w s sz cs)(hc:Ext w w'):OwS w' s sz cs:=h.ch hc fun _ _=>id
theorem OwS.len{w:World}{s:Sl}{sz:Nat}{cs:List Value}(h:OwS w s sz cs):cs.length=s.n*sz:=by
 rcases h with ⟨rfl,rfl⟩|⟨b,arr,T,_,_,h4,h5,rfl⟩
 ·simp
 ·have:s.n*sz<=s.c*sz:=Nat.mul_le_mul_right _ h5
  rw[List.length_take,Array.length_toList,h4];omega
theorem OwS.len1{w:World}{s:Sl}{cs:List Value}(h:OwS w s 1 cs):s.n=cs.length:=by rw[h.len,Nat.mul_one]
theorem OwS.cap{w:World}{s:Sl}{sz:Nat}{cs:List Value}(h:OwS w s sz cs):s.n<=s.c:=by
 rcases h with ⟨rfl,rfl⟩|⟨b,arr,T,_,_,_,h5,_⟩
 ·exact Nat.le_refl _
 ·exact h5
theorem OwS.ptr{w:World}{s:Sl}{sz:Nat}{cs:List Value}(h:OwS w s sz cs)(hn:0<s.n):∃b,s.p=some ⟨b,0,none⟩:=by
 rcases h with ⟨rfl,_⟩|⟨b,arr,T,h1,_⟩
 ·exact absurd hn (Nat.lt_irrefl _)
 ·exact⟨b,h1⟩
theorem slAddr_some(b o c l sz:Nat):slAddr (some ⟨b,o,none⟩) c l sz=some ⟨b,o+(if c=l then 0 else l*sz),none⟩:=by
 unfold slAddr
 split
 ·rfl
 ·simp[Addr.add]
theorem slAddr_none(c l sz:Nat):slAddr none c l sz=none:=by unfold slAddr;split<;>rfl
theorem slAddr_zero(p:Option Addr)(c sz:Nat):slAddr p c 0 sz=p:=by
 cases p with
 | none=>exact slAddr_none _ _ _
 | some a=>
  unfold slAddr
  split
  ·rfl
  ·simp[Addr.add]
theorem OwS.read{w:World}{s:Sl}{sz:Nat}{cs:List Value}(h:OwS w s sz cs)(i m:Nat)(him:i+m<=s.n):ReadC w (slAddr s.p s.c i sz) (m*sz) ((cs.drop (i*sz)).take (m*sz)):=by
 have hl:=h.len
 rcases h with ⟨rfl,rfl⟩|⟨b,arr,T,h1,h3,h4,h5,rfl⟩
 ·rw[slAddr_none]
  simp[ReadC]
 ·rw[h1,slAddr_some]
  have e:(i+m)*sz<=s.n*sz:=Nat.mul_le_mul_right _ him
  rw[Nat.add_mul] at e
  refine⟨by rw[List.length_take,List.length_drop,hl];omega,cellsAt_of h3 fun j v hv=>?_⟩
  rw[List.getElem?_take] at hv
  split at hv
  ·rename_i hj
   split
   ·rename_i hc
    have:s.n=i:=by omega
    subst this
    have:m=0:=by omega
    subst this
    simp at hj
   ·rw[List.getElem?_drop,List.getElem?_take] at hv
    split at hv
    ·rw[show 0+i*sz+j=i*sz+j by omega];simpa using hv
    ·cases hv
  ·cases hv
theorem OwS.readAll{w:World}{s:Sl}{sz:Nat}{cs:List Value}(h:OwS w s sz cs):ReadC w s.p (s.n*sz) cs:=by
 have hl:=h.len
 rcases h with ⟨rfl,rfl⟩|⟨b,arr,T,h1,h3,h4,h5,rfl⟩
 ·rfl
 ·rw[h1]
  refine⟨hl,cellsAt_of h3 fun i v hv=>?_⟩
  rw[Nat.zero_add]
  rw[List.getElem?_take] at hv
  split at hv
  ·simpa using hv
  ·cases hv
theorem OwS.elem{w:World}{s:Sl}{sz:Nat}{cs:List Value}(h:OwS w s sz cs){i:Nat}(hi:i<s.n){l:List Value}(hl:(cs.drop (i*sz)).take sz=l):
  ∃b,s.p=some ⟨b,0,none⟩/\CellsAt w b (i*sz) l:=by
 obtain⟨b,hp⟩:=h.ptr (by omega)
 refine⟨b,hp,?_⟩
 have:=h.read i 1 (by omega)
 rw[hp,slAddr_some,Nat.one_mul] at this
 have hc:=h.cap
 rw[if_neg (by omega),hl] at this
 have:=this.2
 rw[Nat.zero_add] at this
 exact this
theorem OwS.elem1{w:World}{s:Sl}{cs:List Value}(h:OwS w s 1 cs){i:Nat}{v:Value}(hv:cs[i]? =some v):∃b,s.p=some ⟨b,0,none⟩/\w.cell? ⟨b,i,none⟩=some v:=by
 have hi:i<s.n:=by rw[h.len1];exact(List.getElem?_eq_some_iff.1 hv).1
 obtain⟨b,hp,hc⟩:=h.elem hi (l:=[v]) (by
  rw[Nat.mul_one]
  obtain⟨hi',rfl⟩:=List.getElem?_eq_some_iff.1 hv
  rw[List.drop_eq_getElem_cons hi'];rfl)
 exact⟨b,hp,by simpa using hc 0 v rfl⟩
theorem OwS.cut{w:World}{s:Sl}{sz:Nat}{cs:List Value}(h:OwS w s sz cs){k:Nat}(hk:k<=s.n):OwS w ⟨s.p,k,s.c⟩ sz (cs.take (k*sz)):=by
 rcases h with ⟨rfl,rfl⟩|⟨b,arr,T,h1,h3,h4,h5,rfl⟩
 ·have:k=0:=Nat.le_zero.1 hk
  subst this
  exact .inl ⟨rfl,by simp⟩
 ·refine .inr ⟨b,arr,T,h1,h3,h4,Nat.le_trans hk h5,?_⟩
  dsimp only
  rw[List.take_take,Nat.min_eq_left (Nat.mul_le_mul_right _ hk)]
theorem setsA_list{old:Array Value}{o:Nat}{vs:List Value}(h:o+vs.length<=old.size):(setsA old o vs).toList=old.toList.take o++vs++old.toList.drop (o+vs.length):=by
 rw[setsA_eq old o vs h];rfl
theorem OwS.store{w:World}{s:Sl}{sz:Nat}{cs vs:List Value}{b o:Nat}{K:World->Prop}(h:OwS w s sz cs)(hp:s.p=some ⟨b,0,none⟩)(ho:o+vs.length<=s.n*sz)(h1:One vs)
  (hK:∀w',OwS w' s sz (cs.take o++vs++cs.drop (o+vs.length))->Ch (fun i=>i=b) w w'->K w'):StoreP w b o vs K:=by
 have hl:=h.len
 rcases h with ⟨rfl,rfl⟩|⟨b',arr,T,hp',h3,h4,h5,rfl⟩
 ·cases hp
 ·rw[hp'] at hp
  cases hp
  have e1:s.n*sz<=s.c*sz:=Nat.mul_le_mul_right _ h5
  cases vs with
  | nil=>
   refine hK w (.inr ⟨b,arr,T,hp',h3,h4,h5,?_⟩) (Ch.refl _ _)
   simp
  | cons v vs=>
   refine⟨arr,T,h3,by simp only[List.length_cons] at ho;omega,h1,fun w' hu=>hK w' (.inr ⟨b,_,T,hp',hu.new,?_,h5,?_⟩) hu.ch⟩
   ·rw[<-Array.length_toList,setsA_list (by rw[h4];omega)]
    simp only[List.length_append,List.length_take,List.length_drop,Array.length_toList,h4];omega
   ·rw[setsA_list (by rw[h4];omega)]
    have hA:arr.toList.length=s.c*sz:=by rw[Array.length_toList,h4]
    apply List.ext_getElem?
    intro j
    simp only[List.getElem?_take,List.getElem?_append,List.length_append,List.length_take,List.getElem?_drop,hA,List.length_cons] at*
    by_cases c1:j<s.n*sz
    ·simp only[c1,if_true]
     have:min (min o (s.n*sz)) (s.c*sz)=min o (s.c*sz):=by omega
     simp only[Nat.min_eq_left (show o<=s.c*sz by omega),Nat.min_eq_left (show o<=s.n*sz by omega),Nat.min_eq_left (show s.n*sz<=s.c*sz by omega)]
     repeat' split
     all_goals first|rfl|(exfalso;omega)
    ·simp only[c1,if_false]
     repeat' split
     all_goals first|rfl|(exfalso;omega)
theorem OwS.storeTail{w:World}{s:Sl}{sz:Nat}{cs vs:List Value}{b o:Nat}{K:World->Prop}(h:OwS w s sz cs)(hp:s.p=some ⟨b,0,none⟩)(hn:s.n*sz<=o)(ho:o+vs.length<=s.c*sz)(h1:One vs)
  (hK:∀w',OwS w' s sz cs->Ch (fun i=>i=b) w w'->K w'):StoreP w b o vs K:=by
 rcases h with ⟨rfl,rfl⟩|⟨b',arr,T,hp',h3,h4,h5,rfl⟩
 ·cases hp
 ·rw[hp'] at hp
  cases hp
  cases vs with
  | nil=>exact hK w (.inr ⟨b,arr,T,hp',h3,h4,h5,rfl⟩) (Ch.refl _ _)
  | cons v vs=>
   refine⟨arr,T,h3,by simp only[List.length_cons] at ho;omega,h1,fun w' hu=>hK w' (.inr ⟨b,_,T,hp',hu.new,?_,h5,?_⟩) hu.ch⟩
   ·rw[<-Array.length_toList,setsA_list (by rw[h4];omega)]
    simp only[List.length_append,List.length_take,List.length_drop,Array.length_toList,h4];omega
   ·rw[setsA_list (by rw[h4];omega),List.append_assoc,List.take_append_of_le_length (by rw[List.length_take,Array.length_toList,h4];omega),List.take_take,Nat.min_eq_left hn]
theorem OwS.append{w:World}{s:Sl}{T:TypeId}{sz cnt:Nat}{cs new:List Value}{te:TI}{K:Sl->World->Prop}(h:OwS w s sz cs)(hsz:te.size=sz)(hz:te.zero.cells.size=sz)
  (hn:new.length=cnt*sz)(h1:One new)(hr:Roomy (s.n+cnt) te.bytes)
  (hK:∀s' w',OwS w' s' sz (cs++new)->s'.n=s.n+cnt->Ch (fun i=>i∈blk s) w w'->(∀i∈blk s',i∈blk s\/w.heap.size<=i)->(s.n+cnt<=s.c->s'=⟨s.p,s.n+cnt,s.c⟩)->K s' w'):AppendP te T w s.p s.n s.c cnt new K:=by
 have hlen:=h.len
 have hread:=h.readAll
 refine⟨fun hc=>?_,fun hc=>⟨hr,cs,by rw[hsz];exact hread,fun k hk b w' ha=>?_⟩⟩
 ·rcases h with ⟨rfl,rfl⟩|⟨b,arr,T',hp,ho,hs,hle,rfl⟩
  ·have:cnt=0:=by simpa using hc
   subst this
   have:new=[]:=by simpa using hn
   subst this
   exact hK _ _ (.inl ⟨rfl,by simp⟩) rfl (Ch.refl _ _) (fun i hi=>.inl hi) fun _=>rfl
  ·rw[hp]
   dsimp only
   rw[hsz,Nat.zero_add]
   have hmul:(s.n+cnt)*sz<=s.c*sz:=Nat.mul_le_mul_right _ hc
   rw[Nat.add_mul] at hmul
   have hb:blk s=[b]:=by simp[blk,hp]
   cases new with
   | nil=>
    have e:cnt*sz=0:=by simpa using hn.symm
    refine hK ⟨some ⟨b,0,none⟩,s.n+cnt,s.c⟩ w (.inr ⟨b,arr,T',rfl,ho,hs,hc,?_⟩) rfl (Ch.refl _ _) (fun i hi=>.inl (by rw[hb];simpa [blk] using hi)) fun _=>by rw[hp]
    rw[Nat.add_mul,e];simp
   | cons v vs=>
    refine⟨arr,T',ho,by simp only[List.length_cons] at hn;omega,h1,fun w' hu=>?_⟩
    have e:=setsA_list (old:=arr) (o:=s.n*sz) (vs:=v::vs) (by rw[hn];omega)
    refine hK _ _ (.inr ⟨b,_,T',rfl,hu.new,?_,hc,?_⟩) rfl (hu.ch.mono fun i _ hi=>by rw[hb];simpa using hi) (fun i hi=>.inl (by rw[hb];simpa [blk] using hi)) fun _=>by rw[hp]
    ·rw[<-Array.length_toList,e];simp only[List.length_append,List.length_take,List.length_drop,Array.length_toList,hs,hn];omega
    ·rw[e]
     dsimp only
     rw[Nat.add_mul,<-hn]
     rw[List.take_append_of_le_length (by simp only[List.length_append,List.length_take,Array.length_toList,hs];omega),List.take_of_length_le]
     simp only[List.length_append,List.length_take,Array.length_toList,hs];omega
 ·have e:IsAlloc w (.cells (cs++new++zc te.zero.cells (k-(s.n+cnt))).toArray T (0,0)) b w':=⟨ha.here,ha.size,ha.new,ha.old,⟨ha.rest.os,ha.rest.tape,ha.rest.output⟩⟩
  refine hK _ _ (.inr ⟨b,_,T,rfl,e.new,?_,hk,?_⟩) rfl (e.ch _) (fun i hi=>.inr (Nat.le_of_eq (e.here.symm.trans (by simpa [blk] using hi:i=b).symm))) fun hc'=>absurd hc (Nat.not_lt.2 hc')
  ·simp only[List.size_toArray,List.length_append,zc_len,hlen,hn,hz]
   rw[<-Nat.add_mul,<-Nat.add_mul]
   congr 1
   omega
  ·dsimp only
   rw[List.take_append_of_le_length (by simp only[List.length_append,hlen,hn,Nat.add_mul];omega),List.take_of_length_le]
   simp only[List.length_append,hlen,hn,Nat.add_mul];omega
theorem OwS.new{w w':World}{cs:List Value}{T:TypeId}{b:Nat}(h:IsAlloc w (.cells cs.toArray T (0,0)) b w'){n sz:Nat}(hn:cs.length=n*sz):OwS w' ⟨some ⟨b,0,none⟩,n,n⟩ sz cs:=
 .inr ⟨b,_,T,rfl,h.new,by simpa using hn,Nat.le_refl _,by dsimp only;rw[<-hn];simp⟩
set_option linter.unusedVariables false
theorem cell_ch{F:Nat->Prop}{w w':World}{a:Addr}{v:Value}(h:w.cell? a=some v)(hc:Ch F w w')(hF:¬F a.block):w'.cell? a=some v:=by
 have hb:a.block<w.heap.size:=by
  unfold World.cell? at h
  split at h
  ·rename_i ho;exact heap_lt ho
  ·cases h
 unfold World.cell? at h ⊢
 rw[hc.old _ hb hF];exact h
theorem CellsAt.ch{F:Nat->Prop}{w w':World}{b o:Nat}{cs:List Value}(h:CellsAt w b o cs)(hc:Ch F w w')(hF:¬F b):CellsAt w' b o cs:=
 fun i v hv=>cell_ch (h i v hv) hc hF
theorem ReadC.ch{F:Nat->Prop}{w w':World}{p:Option Addr}{m:Nat}{cs:List Value}(h:ReadC w p m cs)(hc:Ch F w w')(hF:∀a,p=some a->¬F a.block):ReadC w' p m cs:=by
 unfold ReadC at h ⊢
 split at h
 ·exact⟨h.1,h.2.ch hc (hF _ rfl)⟩
 ·exact h
 ·exact h
def Rd(w:World)(s:Sl)(sz:Nat)(cs:List Value):Prop:=cs.length=s.n*sz/\ReadC w s.p (s.n*sz) cs
theorem OwS.rd{w:World}{s:Sl}{sz:Nat}{cs:List Value}(h:OwS w s sz cs):Rd w s sz cs:=⟨h.len,h.readAll⟩
theorem Rd.ch{F:Nat->Prop}{w w':World}{s:Sl}{sz:Nat}{cs:List Value}(h:Rd w s sz cs)(hc:Ch F w w')(hF:∀b∈blk s,¬F b):Rd w' s sz cs:=
 ⟨h.1,h.2.ch hc fun a ha=>hF _ (by simp[blk,ha])⟩
theorem Rd.ext{w w':World}{s:Sl}{sz:Nat}{cs:List Value}(h:Rd w s sz cs)(hc:Ext w w'):Rd w' s sz cs:=h.ch hc fun _ _=>id
theorem Rd.elem{w:World}{s:Sl}{sz:Nat}{cs:List Value}(h:Rd w s sz cs){i:Nat}(hi:i<s.n)(hz:0<sz){l:List Value}(hl:(cs.drop (i*sz)).take sz=l):
  ∃b o,s.p=some ⟨b,o,none⟩/\CellsAt w b (o+i*sz) l:=by
 obtain⟨hn,hr⟩:=h
 have e:(i+1)*sz<=s.n*sz:=Nat.mul_le_mul_right _ hi
 rw[Nat.add_mul,Nat.one_mul] at e
 unfold ReadC at hr
 split at hr
 ·rename_i b o hp
  refine⟨b,o,hp,fun j v hv=>?_⟩
  rw[<-hl,List.getElem?_take] at hv
  split at hv
  ·rw[List.getElem?_drop] at hv
   have:=hr.2 _ _ hv
   rw[show o+i*sz+j=o+(i*sz+j) by omega];exact this
  ·cases hv
 ·have:=hr.1;omega
 ·subst hr
  simp at hn
  omega
theorem Rd.elem1{w:World}{s:Sl}{cs:List Value}(h:Rd w s 1 cs){i:Nat}{v:Value}(hv:cs[i]? =some v):∃b o,s.p=some ⟨b,o,none⟩/\w.cell? ⟨b,o+i,none⟩=some v:=by
 have hi:i<s.n:=by have:=h.1;rw[Nat.mul_one] at this;rw[<-this];exact(List.getElem?_eq_some_iff.1 hv).1
 obtain⟨b,o,hp,hc⟩:=h.elem hi (by omega) (l:=[v]) (by
  rw[Nat.mul_one]
  obtain⟨hi',rfl⟩:=List.getElem?_eq_some_iff.1 hv
  rw[List.drop_eq_getElem_cons hi'];rfl)
 exact⟨b,o,hp,by simpa using hc 0 v rfl⟩
def CloneF(te:TI)(e sz:Nat)(t0:Sl)(w:World)(R:RV):Prop:=
 IfB t0.1.isNone (R (Value.slice none (0:Nat) (0:Nat)) w)
 ((0:Nat)*sz<=(16777216:Nat)/\
 AllocP w (Obj.cells #[] e) fun(b1:Nat) (w2:World)=>
 ∃(l3:List Value),
 ReadC w2 t0.1 (t0.2*sz) l3/\
 AppendP te e w2 (some ({ block:=b1,off:=(0:Nat) }:Addr)) (0:Nat) (0:Nat) t0.2 l3 fun(s4:Sl) (w5:World)=>R (Value.slice s4.1 s4.2 s4.3) w5)
theorem CloneF_of{te:TI}{e sz:Nat}{t0:Sl}{w:World}{R:RV}{cs:List Value}(h:Rd w t0 sz cs)(hsz:te.size=sz)(hz:te.zero.cells.size=sz)(h1:One cs)(hr:Roomy t0.n te.bytes)
  (hK:∀s' w',OwS w' s' sz cs->s'.n=t0.n->Ext w w'->(∀i∈blk s',w.heap.size<=i)->R (slV s') w')(hnil:t0.p=none->t0.n=0):CloneF te e sz t0 w R:=by
 refine IfB.intro (fun hp=>?_) (fun hp=>⟨by simp,fun b1 w2 h2=>⟨cs,h.2.ch (h2.ch (fun _=>False)) (fun _ _=>id),?_⟩⟩)
 ·have hp':t0.p=none:=by cases hq:t0.p with|none=>rfl|some _=>rw[show t0.1=t0.p from rfl,hq] at hp;cases hp
  have hn:=hnil hp'
  have:cs=[]:=by have:=h.1;rw[hn] at this;simpa using this
  subst this
  exact hK ⟨none,0,0⟩ w (.nil _ _) hn.symm (Ch.refl _ _) (by simp[blk])
 ·have ho:OwS w2 ⟨some ⟨b1,0,none⟩,0,0⟩ sz []:=.inr ⟨b1,_,e,rfl,h2.new,by simp,Nat.le_refl _,by simp⟩
  refine ho.append (cnt:=t0.n) hsz hz h.1 h1 (by simpa using hr) fun s' w' ho' hn' hc hb _=>?_
  have hb1:∀i∈blk (⟨some ⟨b1,0,none⟩,0,0⟩:Sl),w.heap.size<=i:=by intro i hi;simp[blk] at hi;rw[hi,h2.here];exact Nat.le_refl _
  refine hK s' w' (by simpa using ho') (by simpa using hn') ((h2.ch _).then hc fun i hi hm=>absurd (hb1 i hm) (by omega)) fun i hi=>?_
  rcases hb i hi with h|h
  ·exact hb1 i h
  ·have:=h2.size;omega
theorem zc_one{z:Array Value}(h:One z.toList)(n:Nat):One (zc z n):=by
 intro x hx
 unfold zc Builtin.zeroCells at hx
 rw[Array.mem_toList_iff,Array.mem_map] at hx
 obtain⟨i,hi,rfl⟩:=hx
 have hi':=Array.mem_range.1 hi
 have h0:0<z.size:=by
  rcases Nat.eq_zero_or_pos z.size with h0|h0
  ·rw[h0] at hi';simp at hi'
  ·exact h0
 have hlt:=Nat.mod_lt i h0
 apply h
 rw[show z[i%z.size]! =z[i%z.size] from getElem!_pos z (i%z.size) hlt]
 exact Array.mem_toList_iff.2 (Array.getElem_mem _)
theorem wrap_of{n:Int}(h0: -9223372036854775808<=n)(h1:n<=9223372036854775807):IntKind.i64.wrap n=n:=by rw[IntKind.wrap_i64];omega
def IndexF(P:Program){δ:Type}(E:World->Nat->Nat->Nat->δ->Prop)(V:δ->Value)(t0:Sl)(t1:Nat×Array Value)(w:World)(R:RV):Prop:=
 ∃(y1:Nat->Int->World->Prop),
 (∃(b2:Nat),y1 b2 (0:Int) w)/\
 ∀(b3:Nat)(n4:Int)(w5:World)(y6:Nat->Value),
 y1 b3 n4 w5->
 IfB (decide (n4<(t0.n:Int)))
 (∃(b8:Nat),
 ∃(b9:Nat),
 t0.1=some ({ block:=b8,off:=b9 }:Addr)/\
 ((0:Int)<=n4/\n4<(t0.2:Int))/\
 ∃(s10:δ),
 E w5 b8 b9 n4.toNat s10/\
 CX P t1.1 { toList:=V s10::t1.snd.1 } w5 fun(v11:Value) (w12:World)=>
 ∃(t13:Bool),v11=Value.bool t13/\IfB t13 (R (Value.int IntKind.i64 n4) w12) (([]:List Nat)=[]/\∃(b14:Nat),b14<b3/\y1 b14 (IntKind.i64.wrap (n4+(1:Int))) w12))
 (R (Value.int IntKind.i64 (-1:Int)) w5)
def idxV(o:Option Nat):Int:=match o with
 | some i=>i
 | none=> -1
theorem IndexF_of{P:Program}{δ ε:Type}{E:World->Nat->Nat->Nat->δ->Prop}{V:δ->Value}{t0:Sl}{t1:Nat×Array Value}{w:World}{R:RV}(xs:List ε)(f:ε->δ)(q:ε->Bool)(hn:t0.n=xs.length)(hb:t0.n<=4611686018427387904)
  (hE:∀(i:Nat)(x:ε)(w5:World),xs[i]? =some x->Ext w w5->∃b o,t0.p=some ⟨b,o,none⟩/\E w5 b o i (f x))
  (hq:∀(i:Nat)(x:ε)(w5:World),xs[i]? =some x->Ext w w5->∀R':RV,(∀w',Ext w5 w'->R' (.bool (q x)) w')->CX P t1.1 { toList:=V (f x)::t1.2.toList } w5 R')
  (hK:∀w',Ext w w'->R (.int .i64 (idxV (xs.findIdx? q))) w'):IndexF P E V t0 t1 w R:=by
 refine⟨fun k n w5=>∃i:Nat,n=i/\i<=xs.length/\k+i=xs.length/\Ext w w5/\∀j<i,∀x,xs[j]? =some x->q x=false,⟨xs.length,0,rfl,Nat.zero_le _,rfl,Ch.refl _ _,fun j hj=>absurd hj (Nat.not_lt_zero _)⟩,?_⟩
 rintro k n w5 g ⟨i,rfl,hi,hk,hx,hlow⟩
 refine IfB.dec (fun hlt=>?_) (fun hge=>?_)
 ·have hi':i<xs.length:=by omega
  have hxi:xs[i]? =some xs[i]:=List.getElem?_eq_getElem hi'
  obtain⟨b,o,hp,he⟩:=hE i _ w5 hxi hx
  refine⟨b,o,hp,⟨by omega,hlt⟩,f xs[i],by rw[Int.toNat_natCast];exact he,?_⟩
  refine hq i _ w5 hxi hx _ fun w' hx'=>⟨q xs[i],rfl,IfB.intro (fun ht=>?_) (fun hf=>?_)⟩
  ·have:xs.findIdx? q=some i:=by
    rw[List.findIdx?_eq_some_iff_getElem]
    exact⟨hi',ht,fun j hj=>by have:=hlow j hj _ (List.getElem?_eq_getElem (by omega));simp[this]⟩
   have h2:=hK w' (hx.trans hx')
   rw[this] at h2
   exact h2
  ·refine⟨rfl,k-1,by omega,i+1,by rw[wrap_of (by omega) (by omega)];omega,hi',by omega,hx.trans hx',fun j hj x hjx=>?_⟩
   by_cases hji:j<i
   ·exact hlow j hji x hjx
   ·have:j=i:=by omega
    subst this
    rw[hxi] at hjx;cases hjx;exact hf
 ·have:xs.findIdx? q=none:=by
   rw[List.findIdx?_eq_none_iff]
   intro x hx'
   obtain⟨j,hj,rfl⟩:=List.getElem_of_mem hx'
   exact hlow j (by omega) _ (List.getElem?_eq_getElem hj)
  have h2:=hK w5 hx
  rw[this] at h2
  exact h2
theorem take_succ_get{α:Type}{l:List α}{i:Nat}{x:α}(h:l[i]? =some x):l.take (i+1)=l.take i++[x]:=by
 rw[List.take_add_one,h];rfl
theorem extDrew(w:World):Ext w w.drew:=⟨drew_rest w,Nat.le_refl _,fun _ _ _=>rfl⟩
theorem store_all{w:World}{b:Nat}{vs:List Value}{old:Array Value}{T:TypeId}{K:World->Prop}(hb:w.heap[b]? =some (.cells old T (0,0)))(hl:old.size=vs.length)(h1:One vs)
  (hK:∀w',IsUpd w b (.cells vs.toArray T (0,0)) w'->K w'):StoreP w b 0 vs K:=by
 cases vs with
 | nil=>
  have:old=#[]:=Array.eq_empty_of_size_eq_zero hl
  subst this
  exact hK w ⟨rfl,hb,fun _ _=>rfl,Rest.refl _⟩
 | cons v vs=>
  refine⟨old,T,hb,by rw[hl];simp,h1,fun w' hu=>hK w' ?_⟩
  have e:=setsA_list (old:=old) (o:=0) (vs:=v::vs) (by rw[hl];simp)
  have e2:setsA old 0 (v::vs)=(v::vs).toArray:=by
   apply Array.toList_inj.1
   rw[e,Nat.zero_add,<-hl,List.drop_of_length_le (by simp)]
   simp
  rw[e2] at hu
  exact hu
theorem Ext.fresh{w w1 w2:World}{o o':Obj}{b:Nat}(h:IsAlloc w o b w1)(k:IsUpd w1 b o' w2):Ext w w2:=
 (h.ch _).then k.ch fun i hi e=>by have:=h.here;omega
theorem OwS.stb{n:Nat}{w w':World}{s:Sl}{sz:Nat}{cs:List Value}(h:OwS w s sz cs)(hS:Stb n w w'):OwS w' s sz cs:=by
 rcases h with h|⟨b,arr,T,h1,h2,h3⟩
 ·exact .inl h
 ·exact .inr ⟨b,arr,T,h1,hS.keep _ _ h2 rfl,h3⟩
theorem OwS.lit{w:World}{s:Sl}{sz bl:Nat}{cs new:List Value}{te:TI}{T T':TypeId}{K:Sl->World->Prop}(h:OwS w s sz cs)(hb:w.heap[bl]? =some (.cells new.toArray T' (0,0)))(hnew:new.length=sz)(h1:One new)(hsz:te.size=sz)(hz:te.zero.cells.size=sz)
  (hn:s.n<=1000000)(hby:te.bytes<=100000)
  (hK:∀s' w',OwS w' s' sz (cs++new)->s'.n=s.n+1->Ch (fun i=>i∈blk s) w w'->(∀i∈blk s',i∈blk s\/w.heap.size<=i)->K s' w'):
  ∃l,ReadC w (some ⟨bl,0,none⟩) (1*sz) l/\AppendP te T w s.p s.n s.c 1 l K:=by
 refine⟨new,⟨by omega,cellsAt_of hb fun i v hv=>by simpa using hv⟩,h.append (cnt:=1) hsz hz (by omega) h1 ⟨by omega,?_⟩ fun s' w' a b c d _=>hK s' w' a b c d⟩
 exact Nat.le_trans (Nat.mul_le_mul (show 2*(s.n+1)<=3000000 by omega) hby) (by decide)
theorem Rd.len1{w:World}{s:Sl}{cs:List Value}(h:Rd w s 1 cs):s.n=cs.length:=by have:=h.1;omega
theorem Its.ch{F:Nat->Prop}{W W':World}(hc:Ch F W W')(hF:∀i,F i->∀m s q t,W.heap[i]? ≠some (.mapIter m s q t)):Its W W':=fun i m s q t e=>by
 have hi:=heap_lt e
 rw[hc.old i hi fun h=>hF i h m s q t e];exact e
theorem OwS.blkIt{w:World}{s:Sl}{sz:Nat}{cs:List Value}(h:OwS w s sz cs){i:Nat}(hi:i∈blk s)(m:Option Nat)(q:Nat)(a:Array Nat)(t:Nat):w.heap[i]? ≠some (.mapIter m q a t):=by
 rcases h with ⟨rfl,_⟩|⟨b,arr,T,h1,h2,_⟩
 ·simp[blk] at hi
 ·simp only[blk,h1] at hi
  simp at hi
  rw[hi,h2];simp
theorem notIt{w:World}{i:Nat}{cs:Array Value}{T:TypeId}{p:Nat×Nat}(h:w.heap[i]? =some (.cells cs T p))(m:Option Nat)(q:Nat)(a:Array Nat)(t:Nat):w.heap[i]? ≠some (.mapIter m q a t):=by rw[h];simp
section
variable {β:Type} {enc:β->Value}
def MpE(enc:β->Value)(es:List MapEntry)(f:List (Int×β))(ck:Nat):Prop:=
 es.map (fun e=>(e.key,e.val))=f.map (fun p=>(Value.int .i64 p.1,enc p.2))/\(f.map (·.1)).Nodup/\(∀e∈es,e.born<ck)/\(es.map (·.born)).Nodup
def Mp(enc:β->Value)(w:World)(r:Nat)(f:List (Int×β)):Prop:=∃es ck,w.heap[r]? =some (.map es ck)/\MpE enc es.toList f ck
theorem Mp.ch{F:Nat->Prop}{w w':World}{r:Nat}{f:List (Int×β)}(h:Mp enc w r f)(hc:Ch F w w')(hF:¬F r):Mp enc w' r f:=by
 obtain⟨es,ck,h1,h2⟩:=h
 exact⟨es,ck,hc.at h1 hF,h2⟩
theorem Mp.ext{w w':World}{r:Nat}{f:List (Int×β)}(h:Mp enc w r f)(hc:Ext w w'):Mp enc w' r f:=h.ch hc id
theorem Mp.new{w w':World}{r:Nat}(h:IsAlloc w (.map #[] 0) r w'):Mp enc w' r []:=⟨_,_,h.new,rfl,.nil,by simp,.nil⟩
theorem Mp.lt{w:World}{r:Nat}{f:List (Int×β)}(h:Mp enc w r f):r<w.heap.size:=by
 obtain⟨es,ck,h1,h2⟩:=h
 exact heap_lt h1
def getM(f:List (Int×β))(k:Int):Option β:=(f.find? fun p=>p.1 == k).map (·.2)
theorem getM_nil(k:Int):getM ([]:List (Int×β)) k=none:=rfl
theorem getM_cons(p:Int×β)(f:List (Int×β))(k:Int):getM (p::f) k=if p.1=k then some p.2 else getM f k:=by
 unfold getM
 by_cases h:p.1=k
 ·rw[if_pos h,List.find?_cons_of_pos (by simpa using h)];rfl
 ·rw[if_neg h,List.find?_cons_of_neg (by simpa using h)]
theorem getM_append(f f':List (Int×β))(k:Int):getM (f++f') k=match getM f k with|some v=>some v|none=>getM f' k:=by
 induction f with
 | nil=>rfl
 | cons p f ih=>
  rw[List.cons_append,getM_cons,getM_cons,ih]
  split<;>rfl
theorem getM_none{f:List (Int×β)}{k:Int}(h:∀p∈f,p.1≠k):getM f k=none:=by
 unfold getM
 rw[List.find?_eq_none.2 (by intro p hp;simpa using h p hp)];rfl
theorem getM_mem{f:List (Int×β)}{k:Int}{v:β}(h:getM f k=some v):(k,v)∈f:=by
 unfold getM at h
 rw[Option.map_eq_some_iff] at h
 obtain⟨p,hp,rfl⟩:=h
 have h1:=List.mem_of_find?_eq_some hp
 have h2:=List.find?_some hp
 have:p.1=k:=by simpa using h2
 rw[<-this];exact h1
theorem getM_key{f:List (Int×β)}{k:Int}:k∈f.map (·.1)↔getM f k≠none:=by
 induction f with
 | nil=>simp[getM_nil]
 | cons p f ih=>
  rw[getM_cons,List.map_cons,List.mem_cons,ih]
  by_cases h:p.1=k
  ·rw[if_pos h];simp[h]
  ·rw[if_neg h]
   constructor
   ·rintro(e|e)
    ·exact absurd e.symm h
    ·exact e
   ·exact .inr
theorem find_is{k:Int}:∀ {es:List MapEntry}{f:List (Int×β)}(i:Nat),es.map (fun e=>(e.key,e.val))=f.map (fun p=>(Value.int .i64 p.1,enc p.2))->
  ∃r,Instr.findNow (.int .i64) (.int .i64 k) es i=some r/\((r=none/\∀p∈f,p.1≠k)\/∃f1 v f2,f=f1++(k,v)::f2/\r=some (i+f1.length,enc v)/\∀p∈f1,p.1≠k)
 | [],[],i,_=>⟨none,rfl,.inl ⟨rfl,by simp⟩⟩
 | [],_::_,i,h=>by simp at h
 | _::_,[],i,h=>by simp at h
 | e::es,p::f,i,h=>by
  simp only[List.map_cons,List.cons.injEq,Prod.mk.injEq] at h
  obtain⟨⟨h1,h2⟩,h3⟩:=h
  by_cases hk:k=p.1
  ·refine⟨some (i,e.val),by simp[Instr.findNow,h1,Instr.sameNow,hk],.inr ⟨[],p.2,f,by rw[hk];rfl,by rw[h2];rfl,by simp⟩⟩
  ·obtain⟨r,hr,h⟩:=find_is (k:=k) (i+1) h3
   have hkb:(k == p.1)=false:=beq_eq_false_iff_ne.2 hk
   refine⟨r,by simp[Instr.findNow,h1,Instr.sameNow,hkb,hr],?_⟩
   rcases h with ⟨h4,h5⟩|⟨f1,v,f2,rfl,h5,h6⟩
   ·refine .inl ⟨h4,fun q hq=>?_⟩
    rcases List.mem_cons.1 hq with rfl|hq
    ·exact fun e=>hk e.symm
    ·exact h5 q hq
   ·refine .inr ⟨p::f1,v,f2,rfl,by rw[h5,List.length_cons,Nat.add_assoc,Nat.add_comm 1],fun q hq=>?_⟩
    rcases List.mem_cons.1 hq with rfl|hq
    ·exact fun e=>hk e.symm
    ·exact h6 q hq
theorem Mp.get{w:World}{r:Nat}{f:List (Int×β)}(h:Mp enc w r f){k:Int}{z:Value}{K:Value->Bool->Prop}(hK:match getM f k with|some v=>K (enc v) true|none=>K z false):
  MapGetP (.int .i64) w (.map (some r)) (.int .i64 k) z K:=by
 obtain⟨es,ck,hr,h1,h2,h3,h4⟩:=h
 obtain⟨q,hq,h⟩:=find_is (k:=k) 0 h1
 refine⟨es.toList,⟨es,ck,hr,rfl⟩,q,hq,?_⟩
 rcases h with ⟨rfl,h5⟩|⟨f1,v,f2,rfl,rfl,h6⟩
 ·rw[getM_none h5] at hK;exact hK
 ·rw[getM_append,getM_none h6,getM_cons,if_pos rfl] at hK;exact hK
theorem Mp.set{w:World}{r:Nat}{f:List (Int×β)}(h:Mp enc w r f){k:Int}{v:β}{K:World->Prop}
  (hK:∀f' w',(∀k',getM f' k'=if k=k' then some v else getM f k')->Mp enc w' r f'->Ch (fun i=>i=r) w w'->K w'):
  MapSetP (.int .i64) w (.map (some r)) (.int .i64 k) (enc v) K:=by
 obtain⟨es,ck,hr,h1,h2,h3,h4⟩:=h
 obtain⟨q,hq,h⟩:=find_is (k:=k) 0 h1
 refine⟨r,rfl,es,ck,hr,q,hq,?_⟩
 rcases h with ⟨rfl,h5⟩|⟨f1,v0,f2,rfl,rfl,h6⟩
 ·intro w' hu
  refine hK (f++[(k,v)]) w' (fun k'=>?_) ⟨_,_,hu.new,?_,?_,?_,?_⟩ hu.ch
  ·rw[getM_append,getM_cons,getM_nil]
   by_cases hk:k=k'
   ·subst hk;rw[getM_none h5]
   ·rw[if_neg hk,if_neg hk];cases getM f k'<;>rfl
  ·rw[Array.toList_push,List.map_append,List.map_append,h1];rfl
  ·rw[List.map_append,List.nodup_append]
   refine⟨h2,by simp,fun a ha b hb=>?_⟩
   obtain⟨p,hp,rfl⟩:=List.mem_map.1 ha
   simp only[List.map_cons,List.map_nil,List.mem_singleton] at hb
   rw[hb];exact h5 p hp
  ·intro e he
   rw[Array.toList_push,List.mem_append,List.mem_singleton] at he
   rcases he with he|rfl
   ·have:=h3 e he;omega
   ·simp
  ·rw[Array.toList_push,List.map_append,List.nodup_append]
   refine⟨h4,by simp,fun a ha b hb=>?_⟩
   obtain⟨e,he,rfl⟩:=List.mem_map.1 ha
   simp only[List.map_cons,List.map_nil,List.mem_singleton] at hb
   rw[hb]
   have:=h3 e he
   omega
 ·intro w' hu
  rw[Nat.zero_add] at hu
  have hlen:=congrArg List.length h1
  simp only[List.length_map,List.length_append,List.length_cons,Array.length_toList] at hlen
  have hi:f1.length<es.size:=by omega
  have hm:∀ {γ:Type}(F:MapEntry->γ),(es.modify f1.length fun e=>{ e with key:=.int .i64 k,val:=enc v }).toList.map F=(es.toList.map F).set f1.length (F { es[f1.length] with key:=.int .i64 k,val:=enc v }):=fun F=>by
   apply List.ext_getElem?
   intro i
   rw[List.getElem?_map,Array.getElem?_toList,Array.getElem?_modify,List.getElem?_set,List.getElem?_map,Array.getElem?_toList]
   by_cases h:f1.length=i
   ·subst h;simp[hi]
   ·simp[h]
  refine hK (f1++(k,v)::f2) w' (fun k'=>?_) ⟨_,_,hu.new,?_,?_,?_,?_⟩ hu.ch
  ·rw[getM_append,getM_append,getM_cons,getM_cons]
   by_cases hk:k=k'
   ·subst hk;rw[getM_none h6];simp
   ·simp[hk]
  ·rw[hm,h1]
   simp only[List.map_append,List.map_cons]
   rw[List.set_append_right _ _ (by simp)]
   simp
  ·simpa using h2
  ·intro e he
   have hb:e.born∈(es.modify f1.length fun e=>{ e with key:=.int .i64 k,val:=enc v }).toList.map (·.born):=List.mem_map_of_mem he
   rw[hm] at hb
   rcases List.mem_or_eq_of_mem_set hb with hb|hb
   ·obtain⟨e',he',hbe⟩:=List.mem_map.1 hb
    rw[<-hbe];exact h3 e' he'
   ·rw[hb];exact h3 es[f1.length] (by simp)
  ·rw[hm]
   have:(es.toList.map (·.born)).set f1.length es[f1.length].born=es.toList.map (·.born):=by
    apply List.ext_getElem?
    intro i
    rw[List.getElem?_set]
    by_cases h:f1.length=i
    ·subst h;simp[hi]
    ·simp[h]
   rw[this];exact h4
end
def KeysF(P:Program)(t0 t1:Nat)(w:World)(R:RV):Prop:=
 ∃p1:Option Nat,w.cell? ⟨t1,0,none⟩=some (.map p1)/\
 MapItP w (.map p1) fun b2 w3=>∃y4:Nat->Unit->World->Prop,(∃b5,y4 b5 () w3)/\∀(b6:Nat)(y7:Unit)(w8:World)(y9:Nat->Value),y4 b6 y7 w8->
  NextP w8 b2 (fun w11=>R (.tuple #[]) w11) fun v12 v13 w14=>EntryP w14 b2 fun v15 v16=>
   YW P t0 #[v15] w14 fun t17 w18=>IfB (!t17) (R (.tuple #[]) w18) (([]:List Nat)=[]/\∃b19,b19<b6/\y4 b19 () w18)
abbrev iv0(n:Int):Value:=.int .i64 n
def ivA(n:Int):Array Value:=#[.int .i64 n]
abbrev MO:=Option (Nat×Array MapEntry×Nat)
def KeysI(b1:Nat)(p:MO)(W:World):Prop:=
 (∃T,W.heap[b1]? =some (.cells #[.map (p.map (·.1))] T (0,0)))/\match p with
  | none=>True
  | some (r,es,ck)=>W.heap[r]? =some (.map es ck)
def KeysE(p:MO)(ks:List Int):Prop:=match p with
  | none=>ks=[]
  | some (_,es,ck)=>es.toList.map (·.key)=ks.map iv0/\ks.Nodup/\(∀e∈es.toList,e.born<ck)/\(es.toList.map (·.born)).Nodup
theorem find_born{l:List MapEntry}(hn:(l.map (·.born)).Nodup){x:MapEntry}(hx:x∈l):l.find? (fun e=>e.born == x.born)=some x:=by
 induction l with
 | nil=>cases hx
 | cons e l ih=>
  rw[List.map_cons,List.nodup_cons] at hn
  rcases List.mem_cons.1 hx with rfl|hx
  ·rw[List.find?_cons_of_pos (by simp)]
  ·have:e.born≠x.born:=fun h=>hn.1 (h ▸ List.mem_map_of_mem hx)
   rw[List.find?_cons_of_neg (by simpa using this)]
   exact ih hn.2 hx
theorem key_inj{l:List MapEntry}{ks:List Int}(hk:l.map (·.key)=ks.map iv0)(hn:ks.Nodup){x y:MapEntry}(hx:x∈l)(hy:y∈l)(h:x.key=y.key):x=y:=by
 obtain⟨i,hi,rfl⟩:=List.mem_iff_getElem.1 hx
 obtain⟨j,hj,rfl⟩:=List.mem_iff_getElem.1 hy
 have hl:=congrArg List.length hk
 simp only[List.length_map] at hl
 have e1:=congrArg (·[i]?) hk
 have e2:=congrArg (·[j]?) hk
 simp only[List.getElem?_map,List.getElem?_eq_getElem hi,List.getElem?_eq_getElem hj,List.getElem?_eq_getElem (show i<ks.length by omega),List.getElem?_eq_getElem (show j<ks.length by omega),Option.map_some,Option.some.injEq] at e1 e2
 rw[e1,e2] at h
 have:ks[i]'(by omega)=ks[j]'(by omega):=by simpa [iv0] using h
 have hp:=List.pairwise_iff_getElem.1 hn
 rcases Nat.lt_trichotomy i j with h|h|h
 ·exact absurd this (hp i j (by omega) (by omega) h)
 ·subst h;rfl
 ·exact absurd this.symm (hp j i (by omega) (by omega) h)
theorem nodup_len:∀ {a b:List Int},a.Nodup->(∀x∈a,x∈b)->a.length<=b.length
 | [],_,_,_=>Nat.zero_le _
 | x::a,b,hn,h=>by
  rw[List.nodup_cons] at hn
  have hx:=h x List.mem_cons_self
  have ih:=nodup_len (b:=b.erase x) hn.2 fun y hy=>(List.mem_erase_of_ne (fun(e:y=x)=>hn.1 (e ▸ hy))).2 (h y (List.mem_cons_of_mem _ hy))
  rw[List.length_erase_of_mem hx] at ih
  have:=List.length_pos_of_mem hx
  rw[List.length_cons];omega
theorem keys_iter{P:Program}{g:FuncId}(hen:Entr P g){b1:Nat}(hF:∀l W R,KeysF P l b1 W R->CW P g #[.func (.yield l) #[] #[],.pointer (some ⟨b1,0,none⟩)] W R){p:MO}{ks:List Int}(hks:KeysE p ks):
  Iter P g #[.pointer (some ⟨b1,0,none⟩)] ivA false (fun pre x=>x∈ks/\x∉pre) (fun xs=>xs.Perm ks) (KeysI b1 p):=by
 refine⟨hen,fun l J Jx W hJ hJx hInv hSz _ hstep h0=>?_⟩
 obtain⟨⟨T,hT⟩,hM⟩:=hInv _ _ h0
 refine hF l W _ ⟨p.map (·.1),by rw[cell_of hT];rfl,?_⟩
 match p,hks,hM,hInv with
 | none,hks,hM,hInv=>
  have hf:ks=[]:=hks
  subst hf
  refine .inl ⟨rfl,fun b2 w3 h3=>?_⟩
  refine⟨fun _ _ W'=>W'=w3,⟨0,rfl⟩,?_⟩
  rintro _ _ _ _ rfl
  exact .inl ⟨0,#[],0,h3.new,.inl ⟨[],.refl _,hJ _ _ _ h0 (Stb.alloc h3 (Nat.le_refl _))⟩⟩
 | some (r,es,ck),⟨hk,hn,hb,hbn⟩,hM,hInv=>
  refine .inr ⟨r,es,ck,rfl,hM,fun b2 w3 h3=>?_⟩
  have hlk:=congrArg List.length hk
  simp only[List.length_map] at hlk
  refine⟨fun n _ W'=>∃(se:List MapEntry)(pre:List Int),n=ks.length-pre.length/\W'.heap[b2]? =some (.mapIter (some r) ck (se.map (·.born)).toArray ck)/\pre.map iv0=se.map (·.key)/\(∀e∈se,e∈es.toList)/\pre.Nodup/\J pre W'/\W.heap.size<=W'.heap.size,
   ⟨_,[],[],rfl,h3.new,rfl,by simp,.nil,hJ _ _ _ h0 (Stb.alloc h3 (Nat.le_refl _)),by rw[h3.size];omega⟩,?_⟩
  rintro _ _ w8 _ ⟨se,pre,rfl,hit,hpk,hse,hpn,hj,hw8⟩
  obtain⟨_,hM8⟩:=hInv _ _ hj
  have hM8:w8.heap[r]? =some (.map es ck):=hM8
  have pk:∀ {k:Int},k∈pre->∃e∈se,e.key=iv0 k:=fun{k} h=>by
   have:iv0 k∈se.map (·.key):=by rw[<-hpk];exact List.mem_map_of_mem h
   obtain⟨e,he,h⟩:=List.mem_map.1 this
   exact⟨e,he,h⟩
  have sk:∀ {e:MapEntry},e∈es.toList->∃k∈ks,e.key=iv0 k:=fun{e} h=>by
   have:e.key∈ks.map iv0:=by rw[<-hk];exact List.mem_map_of_mem h
   obtain⟨k,hk,h⟩:=List.mem_map.1 this
   exact⟨k,hk,h.symm⟩
  have psub:∀k∈pre,k∈ks:=fun k h=>by
   obtain⟨e,he,h⟩:=pk h
   obtain⟨k',hk',h'⟩:=sk (hse e he)
   rw[h'] at h
   have:k'=k:=by simpa [iv0] using h
   exact this ▸ hk'
  refine .inr ⟨r,ck,_,ck,es,ck,hit,hM8,?_,fun hall d=>?_,fun x hx hns d w' hu=>?_⟩
  ·by_cases he:es.isEmpty=true
   ·exact .inr (.inl he)
   ·have:0<es.size:=by
     rcases Nat.eq_zero_or_pos es.size with h|h
     ·exact absurd (by simp[Array.isEmpty,h]) he
     ·exact h
    exact .inr (.inr ⟨es[0],Array.getElem_mem _,hb _ (by simp)⟩)
  ·refine .inl ⟨pre,?_,hJ _ _ _ hj (Stb.drawn _ _ d)⟩
   refine(List.perm_ext_iff_of_nodup hpn hn).2 fun k=>⟨psub k,fun h=>?_⟩
   have:iv0 k∈es.toList.map (·.key):=by rw[hk];exact List.mem_map_of_mem h
   obtain⟨e,he,hek⟩:=List.mem_map.1 this
   by_cases hc:(se.map (·.born)).toArray.contains e.born=false
   ·have:=hall e (by simpa using he) hc
    have:=hb e he
    omega
   ·have hc:e.born∈se.map (·.born):=by simpa using hc
    obtain⟨e',he',hbb⟩:=List.mem_map.1 hc
    have h1:=find_born hbn he
    have h2:=find_born hbn (hse e' he')
    rw[hbb] at h2
    have:e=e':=Option.some.inj (h1.symm.trans h2)
    subst this
    have:iv0 k∈pre.map iv0:=by rw[hpk,<-hek];exact List.mem_map_of_mem he'
    obtain⟨k',hk',h⟩:=List.mem_map.1 this
    have:k'=k:=by simpa [iv0] using h
    exact this ▸ hk'
  ·have hx':x∈es.toList:=by simpa using hx
   obtain⟨k,hkk,hxk⟩:=sk hx'
   have hit':({ w8 with drawn:=d }:World).heap[b2]? =some (.mapIter (some r) ck (se.map (·.born)).toArray ck):=hit
   have hS:Stb W.heap.size w8 w':=(Stb.drawn _ w8 d).trans (Stb.upd hu hit' rfl (by have:=h3.here;omega))
   have hj':=hJ _ _ _ hj hS
   obtain⟨_,hM'⟩:=hInv _ _ hj'
   have hkp:k∉pre:=fun h=>by
    obtain⟨e,he,hek⟩:=pk h
    have:=key_inj hk hn (hse e he) hx' (hek.trans hxk.symm)
    subst this
    have:(se.map (·.born)).toArray.contains e.born=true:=by simpa using ⟨e,he,rfl⟩
    rw[this] at hns;cases hns
   refine⟨r,ck,_,ck,es,x,hu.new,hM',by simp,?_,?_⟩
   ·rw[<-Array.find?_toList];exact find_born hbn hx'
   ·rw[hxk]
    refine(hstep pre k w' hj' ⟨hkk,hkp⟩).mono fun t w18 ht=>?_
    cases t with
    | false=>exact IfB.yes rfl (.inr ⟨_,ht⟩)
    | true=>
     have hlen:(pre++[k]).length<=ks.length:=by
      have hnd:(pre++[k]).Nodup:=by
       rw[List.nodup_append]
       exact⟨hpn,by simp,fun a ha b hb=>by rw[List.mem_singleton.1 hb];exact fun e=>hkp (e ▸ ha)⟩
      exact nodup_len hnd fun a ha=>by
       rcases List.mem_append.1 ha with h|h
       ·exact psub a h
       ·rw[List.mem_singleton.1 h];exact hkk
     rw[List.length_append,List.length_singleton] at hlen
     refine IfB.no rfl ⟨rfl,ks.length-(pre++[k]).length,by rw[List.length_append,List.length_singleton];omega,se++[x],pre++[k],rfl,?_,?_,?_,?_,ht.1,?_⟩
     ·have:=ht.2 b2 _ _ _ _ hu.new
      rw[this];simp
     ·rw[List.map_append,List.map_append,hpk];simp[hxk]
     ·intro e he
      rcases List.mem_append.1 he with h|h
      ·exact hse e h
      ·rw[List.mem_singleton.1 h];exact hx'
     ·rw[List.nodup_append]
      exact⟨hpn,by simp,fun a ha b hb=>by rw[List.mem_singleton.1 hb];exact fun e=>hkp (e ▸ ha)⟩
     ·exact hSz _ _ ht.1
section
open Go Go.ChangeShapes Go.WideShapes Go.ChangeAt Go.RowKit
variable {H:Type} {enc:TypeId×Value->H} {P:Program}
theorem post_of_below{f:Func}{s:ChangeSpec}{apart fresh handsOn again:Bool}{W W':World}{args:Array Value}{v:Value}{ds gs:List (DataW H)}{before pa pv:List MemPlace}
  (hW:DataW.Whole enc P f.params.toList s.vars apart W args.toList ds gs before)(hB:Below W.heap.size W W')
  (hres:∀(b:Nat)(sp:Nat->Bool)(hd:Bool),DataW.TrodAll enc P W' b sp hd f.resultTypes.toList (v.resultList f.resultTypes.size) (s.fn H (ds++gs)).results [])
  (hargs:∀sp:Nat->Bool,(∀p∈before,sp p.block=true)->DataW.TrodAll enc P W' 0 sp true f.params.toList args.toList (s.fn H (ds++gs)).args pa)
  (hvars:∀sp:Nat->Bool,(∀p∈before,sp p.block=true)->DataW.TrodVars enc P W' sp s.vars (s.fn H (ds++gs)).vars pv)
  (hps:before=pa++pv)
  (hok:∀(j:Nat)(t:TypeId)(r:Value),f.resultTypes[j]? =some t->(v.resultList f.resultTypes.size)[j]? =some r->Value.okWide P W' .any 0 t r):
  s.post enc P f apart fresh handsOn again W args v W':=by
 have low:∀p∈before,p.block<W.heap.size:=hW.lt
 have hold:∀p∈before,(fun b=>decide (b<W.heap.size)) p.block=true:=fun p hp=>decide_eq_true (low p hp)
 refine⟨ds,gs,before,[],pa,pv,hW,hres _ _ _,hargs _ hold,hvars _ hold,World.keptBut_mono (fun p hp=>⟨hp,.inr (by rw[hps] at hp;simpa using hp)⟩) (hB.frame (· ∈before)),fun _=>?_⟩
 obtain⟨_,_,_,_,_,hz,hn⟩:=hW
 refine⟨hok,_,_,([]++pa)++pv,⟨[]++pa,pv,trodAll_append (hargs _ fun _ _=>rfl) (hres _ _ _),hvars _ fun _ _=>rfl,rfl,fun b off hp=>?_,fun ha=>?_⟩,fun p hp _=>?_⟩
 ·rw[List.nil_append,<-hps] at hp
  rw[hB.frozen (low _ hp)]
  exact hz b off hp
 ·have:=hn ha
  rw[hps] at this
  exact this
 ·rw[hps];exact hp
theorem u8_range{n:Int}(h:IntKind.min .u8<=n/\n<=IntKind.max .u8):0<=n/\n<=255:=by
 rw[show IntKind.min .u8=0 from by decide,show IntKind.max .u8=255 from by decide] at h;exact h
end
inductive Ty where
 | int (k:IntKind)|bool|str
 | pair (a b:Ty)
 | sl (e:Ty)
 | arr (n:Nat) (e:Ty)
@[reducible] def Ty.den:Ty->Type
 | .int _=>Int
 | .bool=>Bool
 | .str=>ByteArray
 | .pair a b=>a.den×b.den
 | .sl e=>List e.den
 | .arr _ e=>List e.den
def Ty.sz:Ty->Nat
 | .pair a b=>a.sz+b.sz
 | .arr n e=>n*e.sz
 | _=>1
def rep(A:Nat->Prop)(w:World):(t:Ty)->t.den->List Value->Prop
 | .int k,n,cs=>cs=[.int k n]/\k.min<=n/\n<=k.max
 | .bool,b,cs=>cs=[.bool b]
 | .str,s,cs=>cs=[.string s]/\s.size<=maxLen
 | .pair a b,x,cs=>∃c d,cs=c++d/\rep A w a x.1 c/\rep A w b x.2 d
 | .sl e,l,cs=>∃s:Sl,cs=[slV s]/\s.n=l.length/\s.n<=s.c/\s.n<=maxLen/\(0<s.n->∀i∈blk s,A i)/\
   ∃css:List (List Value),css.length=l.length/\(∀(i:Nat) c x,css[i]? =some c->l[i]? =some x->rep A w e x c)/\Rd w s e.sz css.flatten
 | .arr n e,l,cs=>l.length=n/\∃css:List (List Value),css.length=l.length/\(∀(i:Nat) c x,css[i]? =some c->l[i]? =some x->rep A w e x c)/\cs=css.flatten
theorem flatten_len{css:List (List Value)}{m:Nat}(h:∀c∈css,c.length=m):css.flatten.length=css.length*m:=by
 induction css with
 | nil=>simp
 | cons c css ih=>
  rw[List.flatten_cons,List.length_append,ih fun d hd=>h d (by simp[hd]),h c (by simp),List.length_cons,Nat.add_mul];omega
theorem flatten_get{css:List (List Value)}{m:Nat}(h:∀c∈css,c.length=m):∀ {i:Nat}{c:List Value},css[i]? =some c->(css.flatten.drop (i*m)).take m=c:=by
 induction css with
 | nil=>intro i c hc;cases hc
 | cons d css ih=>
  have hd:=h d (by simp)
  intro i c hc
  cases i with
  | zero=>cases hc;rw[Nat.zero_mul,List.drop_zero,List.flatten_cons,List.take_append_of_le_length (by omega),List.take_of_length_le (by omega)]
  | succ i=>
   rw[List.flatten_cons,Nat.add_mul,Nat.one_mul,List.drop_append,List.drop_of_length_le (by omega),List.nil_append,show i*m+m-d.length=i*m by omega]
   exact ih (fun c hc=>h c (by simp[hc])) hc
theorem rep_len{A:Nat->Prop}{w:World}:∀ {t:Ty}{x:t.den}{cs:List Value},rep A w t x cs->cs.length=t.sz
 | .int _,_,_,h=>by rw[h.1];rfl
 | .bool,_,_,h=>by rw[show _=_ from h];rfl
 | .str,_,_,h=>by rw[h.1];rfl
 | .pair a b,_,_,h=>by
  obtain⟨c,d,rfl,h1,h2⟩:=h
  rw[List.length_append,rep_len h1,rep_len h2];rfl
 | .sl e,_,_,h=>by obtain⟨s,rfl,_⟩:=h;rfl
 | .arr n e,l,_,h=>by
  obtain⟨hn,css,hl,hr,rfl⟩:=h
  have hm:∀c∈css,c.length=e.sz:=fun c hc=>by
   obtain⟨i,hi,rfl⟩:=List.getElem_of_mem hc
   exact rep_len (hr i _ _ (List.getElem?_eq_getElem hi) (List.getElem?_eq_getElem (by omega)))
  rw[flatten_len hm,hl,hn];rfl
theorem rep_lens{A:Nat->Prop}{w:World}{e:Ty}{l:List e.den}{css:List (List Value)}(hl:css.length=l.length)(hr:∀(i:Nat) c x,css[i]? =some c->l[i]? =some x->rep A w e x c):∀c∈css,c.length=e.sz:=fun c hc=>by
 obtain⟨i,hi,rfl⟩:=List.getElem_of_mem hc
 exact rep_len (hr i _ _ (List.getElem?_eq_getElem hi) (List.getElem?_eq_getElem (by omega)))
theorem Rd.nil{w w':World}{s:Sl}{sz:Nat}{cs:List Value}(h:Rd w s sz cs)(h0:s.n=0):Rd w' s sz cs:=by
 obtain⟨h1,h2⟩:=h
 rw[h0,Nat.zero_mul] at h1
 have:cs=[]:=List.eq_nil_of_length_eq_zero h1
 subst this
 refine⟨by rw[h0];simp,?_⟩
 unfold ReadC at h2 ⊢
 split
 ·exact⟨by rw[h0];simp,fun i v hv=>by simp at hv⟩
 ·exact⟨by rw[h0];simp,rfl⟩
 ·rfl
theorem Rd.ch0{F:Nat->Prop}{w w':World}{s:Sl}{sz:Nat}{cs:List Value}(h:Rd w s sz cs)(hc:Ch F w w')(hF:0<s.n->∀b∈blk s,¬F b):Rd w' s sz cs:=by
 by_cases h0:s.n=0
 ·exact h.nil h0
 ·exact h.ch hc (hF (by omega))
theorem rep_ch{A F:Nat->Prop}{w w':World}(hc:Ch F w w')(hF:∀i,A i->¬F i):∀ {t:Ty}{x:t.den}{cs:List Value},rep A w t x cs->rep A w' t x cs
 | .int _,_,_,h=>h
 | .bool,_,_,h=>h
 | .str,_,_,h=>h
 | .pair a b,_,_,h=>by
  obtain⟨c,d,rfl,h1,h2⟩:=h
  exact⟨c,d,rfl,rep_ch hc hF h1,rep_ch hc hF h2⟩
 | .sl e,_,_,h=>by
  obtain⟨s,rfl,h1,h2,h3,h4,css,h5,h6,h7⟩:=h
  exact⟨s,rfl,h1,h2,h3,h4,css,h5,fun i c x hi hx=>rep_ch hc hF (h6 i c x hi hx),h7.ch0 hc fun h0 b hb=>hF b (h4 h0 b hb)⟩
 | .arr n e,l,_,h=>by
  obtain⟨hn,css,hl,hr,rfl⟩:=h
  exact⟨hn,css,hl,fun i c x hi hx=>rep_ch hc hF (hr i c x hi hx),rfl⟩
theorem rep_ext{A:Nat->Prop}{w w':World}(hc:Ext w w'){t:Ty}{x:t.den}{cs:List Value}(h:rep A w t x cs):rep A w' t x cs:=rep_ch hc (fun _ _=>id) h
theorem rep_get{A:Nat->Prop}{w:World}{e:Ty}{l:List e.den}{cs:List Value}(h:rep A w (.sl e) l cs)(hz:0<e.sz){i:Nat}{x:e.den}(hx:l[i]? =some x):
  ∃(s:Sl)(b o:Nat)(c:List Value),cs=[slV s]/\s.n=l.length/\s.p=some ⟨b,o,none⟩/\A b/\CellsAt w b (o+i*e.sz) c/\rep A w e x c:=by
 obtain⟨s,rfl,h1,h2,h3,h4,css,h5,h6,h7⟩:=h
 have hi:i<l.length:=(List.getElem?_eq_some_iff.1 hx).1
 have hc:css[i]? =some (css[i]'(by omega)):=List.getElem?_eq_getElem (by omega)
 obtain⟨b,o,hp,hcc⟩:=h7.elem (i:=i) (by omega) hz (flatten_get (rep_lens h5 h6) hc)
 exact⟨s,b,o,_,rfl,h1,hp,h4 (by omega) b (by simp[blk,hp]),hcc,h6 i _ _ hc hx⟩
def ftB(P:Program)(B:TypeId->Ty->Bool):Nat->List Field->Ty->Bool
 | _,[],_=>false
 | off,[f],ty=>Nat.beq f.offset off&&B f.type ty&&Nat.beq (P.cellsOf f.type) ty.sz
 | off,f::g::fs,ty=>match ty with
  | .pair a b=>Nat.beq f.offset off&&B f.type a&&Nat.beq (P.cellsOf f.type) a.sz&&ftB P B (off+a.sz) (g::fs) b
  | _=>false
def tyB(P:Program):Nat->TypeId->Ty->Bool
 | 0,_,_=>false
 | d+1,t,ty=>match P.underlying t with
  | some (.struct fs)=>ftB P (tyB P d) 0 fs.toList ty&&Nat.beq (P.cellsOf t) ty.sz
  | u=>match u,ty with
   | some (.int k),.int k'=>eqK k k'
   | some .bool,.bool=>true
   | some .string,.str=>true
   | some (.slice e),.sl x=>tyB P d e x&&Nat.beq (P.cellsOf e) x.sz&&Nat.blt 0 x.sz
   | some (.array n e),.arr m x=>Nat.beq n m&&tyB P d e x&&Nat.beq (P.cellsOf e) x.sz&&Nat.beq (P.cellsOf t) (n*x.sz)
   | _,_=>false
section
variable {H:Type} {enc:TypeId×Value->H} {P:Program} {w:World} {base:Nat} {sp:Nat->Bool} {held:Bool}
theorem cells_at{a:Addr}{n:Nat}{c:List Value}(h:w.cells? base a n=some c)(hn:0<n):a.spot=none/\CellsAt w a.block a.off c:=by
 obtain⟨_,hl,hc⟩:=World.cells?_some h
 obtain⟨b,o,s⟩:=a
 have h0:=hc 0 hn
 rw[show (Addr.mk b o s).add 0=⟨b,o,s⟩ from rfl,List.getElem?_eq_getElem (show 0<c.length by omega)] at h0
 have hs:s=none:=by
  unfold World.cell? at h0
  split at h0
  ·cases s with
   | none=>rfl
   | some _=>simp at h0
  ·cases h0
 subst hs
 refine⟨rfl,fun i v hv=>?_⟩
 have:=hc i (by have:=(List.getElem?_eq_some_iff.1 hv).1;omega)
 rw[addr_add,hv] at this
 exact this
theorem pick{α β:Type}{Q:Nat->α->β->Prop}:∀(n:Nat),(∀i,i<n->∃a b,Q i a b)->∃(av:List α)(bs:List β),av.length=n/\bs.length=n/\∀(i:Nat) a b,av[i]? =some a->bs[i]? =some b->Q i a b
 | 0,_=>⟨[],[],rfl,rfl,fun i a b h=>by simp at h⟩
 | n+1,h=>by
  obtain⟨av,bs,h1,h2,h3⟩:=pick n fun i hi=>h i (by omega)
  obtain⟨a,b,hab⟩:=h n (Nat.lt_succ_self n)
  refine⟨av++[a],bs++[b],by simp[h1],by simp[h2],fun i x y hx hy=>?_⟩
  rw[List.getElem?_append] at hx hy
  split at hx
  ·rename_i hi
   rw[if_pos (by omega)] at hy
   exact h3 i x y hx hy
  ·rename_i hi
   rw[if_neg (by omega)] at hy
   have e1:i-av.length=0:=by
    have:=(List.getElem?_eq_some_iff.1 hx).1;simp at this;exact this
   have e2:i-bs.length=0:=by omega
   rw[e1] at hx;rw[e2] at hy
   cases hx;cases hy
   have:i=n:=by omega
   subst this;exact hab
theorem cellsAt_flatten{b m:Nat}:∀ {css:List (List Value)}{o:Nat},(∀(i:Nat) c,css[i]? =some c->CellsAt w b (o+i*m) c)->(∀c∈css,c.length=m)->CellsAt w b o css.flatten
 | [],_,_,_=>fun i v hv=>by simp at hv
 | c::css,o,h,hm=>by
  intro i v hv
  rw[List.flatten_cons,List.getElem?_append] at hv
  split at hv
  ·have:=h 0 c rfl i v hv
   simpa using this
  ·rename_i hi
   have hc:=hm c (by simp)
   have ih:=cellsAt_flatten (css:=css) (o:=o+m) (fun j d hd=>by
    have:=h (j+1) d hd
    rw[show o+m+j*m=o+(j+1)*m by rw[Nat.add_mul];omega];exact this) (fun d hd=>hm d (by simp[hd])) (i-c.length) v hv
   rw[show o+m+(i-c.length)=o+i by omega] at ih
   exact ih
theorem chunks{m:Nat}:∀(n:Nat)(cs:List Value),cs.length=n*m->cs=((List.range n).map fun i=>(cs.drop (i*m)).take m).flatten
 | 0,cs,h=>by
  have:cs=[]:=List.eq_nil_of_length_eq_zero (by omega)
  subst this;rfl
 | n+1,cs,h=>by
  have ih:=chunks (m:=m) n (cs.drop m) (by rw[List.length_drop,h,Nat.add_mul];omega)
  rw[List.range_succ_eq_map,List.map_cons,List.flatten_cons,List.map_map]
  have e:(List.range n).map ((fun i=>(cs.drop (i*m)).take m) ∘ Nat.succ)=(List.range n).map fun i=>((cs.drop m).drop (i*m)).take m:=by
   apply List.map_congr_left
   intro i _
   simp only[Function.comp,List.drop_drop]
   rw[show m+i*m=Nat.succ i*m by rw[Nat.succ_mul];omega]
  rw[e,<-ih]
  simp
theorem ft_rep{B:TypeId->Ty->Bool}{cs:List Value}(hB:∀(f:Field)(ty:Ty),B f.type ty=true->(∃r n,DataW.trod enc P w base sp held n f.type ((cs.drop f.offset).take (P.cellsOf f.type))=some r)->∃x:ty.den,rep (fun _=>True) w ty x ((cs.drop f.offset).take (P.cellsOf f.type))):
  ∀(fs:List Field)(off:Nat)(ty:Ty),ftB P B off fs ty=true->(∀f∈fs,∃r n,DataW.trod enc P w base sp held n f.type ((cs.drop f.offset).take (P.cellsOf f.type))=some r)->∃x:ty.den,rep (fun _=>True) w ty x ((cs.drop off).take ty.sz)
 | [],_,_,h,_=>by cases h
 | [f],off,ty,h,hf=>by
  simp only[ftB,Bool.and_eq_true] at h
  obtain⟨⟨h1,h2⟩,h3⟩:=h
  have e1:=Nat.eq_of_beq_eq_true h1
  have e3:=Nat.eq_of_beq_eq_true h3
  obtain⟨x,hx⟩:=hB f ty h2 (hf f (by simp))
  rw[e1,e3] at hx
  exact⟨x,hx⟩
 | f::g::fs,off,ty,h,hf=>by
  simp only[ftB] at h
  split at h
  ·rename_i a b
   simp only[Bool.and_eq_true] at h
   obtain⟨⟨⟨h1,h2⟩,h3⟩,h4⟩:=h
   have e1:=Nat.eq_of_beq_eq_true h1
   have e3:=Nat.eq_of_beq_eq_true h3
   obtain⟨x,hx⟩:=hB f a h2 (hf f (by simp))
   rw[e1,e3] at hx
   obtain⟨y,hy⟩:=ft_rep hB (g::fs) (off+a.sz) b h4 fun f' hf'=>hf f' (List.mem_cons_of_mem _ hf')
   refine⟨(x,y),_,_,?_,hx,hy⟩
   show (cs.drop off).take (a.sz+b.sz)=_
   rw[List.take_add,List.drop_drop]
  ·cases h
theorem trod_rep:∀(d:Nat)(t:TypeId)(ty:Ty)(fuel:Nat)(cs:List Value)(r:DataW H×List MemPlace),tyB P d t ty=true->DataW.trod enc P w base sp held fuel t cs=some r->∃x:ty.den,rep (fun _=>True) w ty x cs
 | 0,_,_,_,_,_,h,_=>by cases h
 | d+1,t,ty,fuel,cs,r,hty,h=>by
  unfold tyB at hty
  split at hty
  ·rename_i fs hu
   simp only[Bool.and_eq_true] at hty
   obtain⟨h1,h2⟩:=hty
   have htz:=Nat.eq_of_beq_eq_true h2
   obtain⟨xs,n,rfl,_,hl,hxl,hel⟩:=DataW.trod_struct hu h
   have:=ft_rep (enc:=enc) (P:=P) (w:=w) (base:=base) (sp:=sp) (held:=held) (B:=tyB P d) (cs:=cs) (fun f ty hf ⟨r,m,hr⟩=>trod_rep d f.type ty m _ r hf hr) fs.toList 0 ty h1 fun f hf=>by
    obtain⟨i,hi,rfl⟩:=List.getElem_of_mem hf
    have:=hel i (fs.toList[i]) (by rw[<-Array.getElem?_toList,List.getElem?_eq_getElem hi])
    rw[List.getElem?_eq_getElem (by rw[hxl];simpa using hi)] at this
    exact⟨_,n,this⟩
   obtain⟨x,hx⟩:=this
   rw[List.drop_zero,<-htz,<-hl,List.take_length] at hx
   exact⟨x,hx⟩
  ·skip
   split at hty
   ·rename_i k k' hu
    have:=eqK_eq hty;subst this
    obtain⟨n,rfl,_,hw⟩:=DataW.trod_int hu h
    simp only[Lit.wf,Bool.and_eq_true,decide_eq_true_eq] at hw
    exact⟨n,rfl,hw⟩
   ·rename_i hu
    obtain⟨b,rfl,_⟩:=DataW.trod_bool hu h
    exact⟨b,rfl⟩
   ·rename_i hu
    obtain⟨s,rfl,_,hs⟩:=DataW.trod_string hu h
    exact⟨s,rfl,hs⟩
   ·rename_i e x hu
    simp only[Bool.and_eq_true] at hty
    obtain⟨⟨h1,h2⟩,h3⟩:=hty
    have hsz:=Nat.eq_of_beq_eq_true h2
    have hpos:0<x.sz:=by simpa using h3
    rcases DataW.trod_slice hu h with ⟨rfl,_⟩|⟨a,len,cap,elems,rest,n,rfl,rfl,_,_,hl,hm,hlen,hel,_,_⟩
    ·exact⟨[],⟨none,0,0⟩,rfl,rfl,Nat.le_refl _,Nat.zero_le _,fun h=>absurd h (Nat.lt_irrefl _),[],rfl,fun i c y hc=>by simp at hc,by simp[Rd,ReadC]⟩
    ·obtain⟨css,ys,g1,g2,g3⟩:=pick (Q:=fun i (c:List Value) (y:x.den)=>w.cells? base (a.add (i*x.sz)) x.sz=some c/\rep (fun _=>True) w x y c) len fun i hi=>by
      have h4:=hel i hi
      rw[hsz,List.getElem?_eq_getElem (by omega),Option.bind_eq_some_iff] at h4
      obtain⟨c,hc,hy⟩:=h4
      obtain⟨y,hr⟩:=trod_rep d e x n c _ h1 hy
      exact⟨c,y,hc,hr⟩
     refine⟨ys,⟨some a,len,cap⟩,rfl,g2.symm,hl,Nat.le_trans hl hm,fun _ _ _=>trivial,css,by omega,fun i c y hc hy=>(g3 i c y hc hy).2,?_⟩
     have hlens:∀c∈css,c.length=x.sz:=rep_lens (by omega) fun i c y hc hy=>(g3 i c y hc hy).2
     have hfl:=flatten_len hlens
     refine⟨by rw[hfl,g1],?_⟩
     dsimp only
     by_cases h0:len=0
     ·subst h0
      have:css=[]:=List.eq_nil_of_length_eq_zero g1
      subst this
      unfold ReadC
      split
      ·exact⟨by simp,fun i v hv=>by simp at hv⟩
      ·exact⟨by simp,rfl⟩
      ·rfl
     ·have cell0:=(g3 0 _ _ (List.getElem?_eq_getElem (show 0<css.length by omega)) (List.getElem?_eq_getElem (show 0<ys.length by omega))).1
      rw[Nat.zero_mul] at cell0
      have hspot:=(cells_at cell0 hpos).1
      obtain⟨b,o,s⟩:=a
      have hs:s=none:=hspot
      subst hs
      refine⟨by rw[hfl,g1],cellsAt_flatten (m:=x.sz) (fun i c hc=>?_) hlens⟩
      have hi:i<css.length:=(List.getElem?_eq_some_iff.1 hc).1
      have:=(cells_at (g3 i c _ hc (List.getElem?_eq_getElem (show i<ys.length by omega))).1 hpos).2
      rw[addr_add] at this
      exact this
   ·rename_i n e m x hu
    simp only[Bool.and_eq_true] at hty
    obtain⟨⟨⟨h0,h1⟩,h2⟩,h3⟩:=hty
    have hnm:=Nat.eq_of_beq_eq_true h0
    have hsz:=Nat.eq_of_beq_eq_true h2
    have htz:=Nat.eq_of_beq_eq_true h3
    subst hnm
    obtain⟨xs,k,rfl,_,hl,hxl,hel⟩:=DataW.trod_array hu h
    rw[htz] at hl
    obtain⟨css,ys,g1,g2,g3⟩:=pick (Q:=fun i (c:List Value) (y:x.den)=>c=(cs.drop (i*x.sz)).take x.sz/\rep (fun _=>True) w x y c) n fun i hi=>by
     have h4:=hel i hi
     rw[hsz,List.getElem?_eq_getElem (by omega)] at h4
     obtain⟨y,hr⟩:=trod_rep d e x k _ _ h1 h4
     exact⟨_,y,rfl,hr⟩
    refine⟨ys,g2,css,by omega,fun i c y hc hy=>(g3 i c y hc hy).2,?_⟩
    have e1:css=(List.range n).map fun i=>(cs.drop (i*x.sz)).take x.sz:=by
     apply List.ext_getElem?
     intro i
     by_cases hi:i<n
     ·rw[List.getElem?_map,List.getElem?_range hi,List.getElem?_eq_getElem (by omega)]
      have:=(g3 i _ _ (List.getElem?_eq_getElem (show i<css.length by omega)) (List.getElem?_eq_getElem (show i<ys.length by omega))).1
      rw[this];rfl
     ·rw[List.getElem?_eq_none (by omega),List.getElem?_eq_none (by simp;omega)]
    rw[e1]
    exact chunks n cs hl
   ·cases hty
theorem open_arg{d:Nat}{t:TypeId}{ty:Ty}{v:Value}{x:DataW H}{ps:List MemPlace}(hty:tyB P d t ty=true)(h:DataW.Trod enc P w base sp held t v x ps):∃y:ty.den,rep (fun _=>True) w ty y v.cells.toList:=by
 obtain⟨fuel,h⟩:=h
 exact trod_rep d t ty fuel _ _ hty h
theorem trod_keep{t:TypeId}(hl:laidOutB P=true)(hr:P.readableRec t=true)(hrow:t<P.types.size){W W':World}{v:Value}{d:DataW H}{ps:List MemPlace}
  (h:DataW.Trod enc P W 0 (fun _=>true) true t v d ps)(hb:RowKit.Below W.heap.size W W')(hlt:∀x∈ps,x.block<W.heap.size){sp:Nat->Bool}(hsp:∀x∈ps,sp x.block=true):DataW.Trod enc P W' 0 sp true t v d ps:=
 WideElems.Trod_stays hl hr hrow h (fun x hx=>hb.same (hlt x hx)) hsp
theorem val_of_cells{r:Reach}{b0:Nat}{t:TypeId}{v:Value}{c:Value}(hval:Value.okWide P w r b0 t v)(hu:∀fs n e,P.underlying t≠some (.struct fs)/\P.underlying t≠some (.array n e))(h:v.cells.toList=[c]):v=c:=by
 cases v with
 | agg cs=>
  unfold Value.okWide at hval
  split at hval
  ·rename_i fs hs;exact absurd hs (hu fs 0 0).1
  ·rename_i n e hs;exact absurd hs (hu #[] n e).2
  ·unfold Cell.okWide at hval
   split at hval<;>first|contradiction|skip
   unfold Cell.ok at hval
   split at hval<;>first|contradiction|exact hval.elim
 | _=>simpa [Value.cells] using h
end
theorem cellLt{w:World}{a:Addr}{v:Value}(h:w.cell? a=some v):a.block<w.heap.size:=by
 unfold World.cell? at h
 split at h
 ·rename_i ho;exact heap_lt ho
 ·cases h
theorem rd_lt{w:World}{s:Sl}{sz:Nat}{cs:List Value}(h:Rd w s sz cs)(hz:0<sz)(h0:0<s.n):∀i∈blk s,i<w.heap.size:=by
 obtain⟨b,o,hp,hc⟩:=h.elem h0 hz rfl
 intro i hi
 simp[blk,hp] at hi
 subst hi
 have hl:((cs.drop (0*sz)).take sz).length=sz:=by
  rw[List.length_take,List.length_drop,h.1]
  have:1*sz<=s.n*sz:=Nat.mul_le_mul_right _ h0
  omega
 cases hq:(cs.drop (0*sz)).take sz with
 | nil=>rw[hq] at hl;simp at hl;omega
 | cons v l=>rw[hq] at hc;exact cellLt (hc 0 v rfl)
theorem slEq{s t:Sl}(h:[slV s]=[slV t]):s=t:=by
 obtain⟨p,n,c⟩:=s
 obtain⟨p',n',c'⟩:=t
 simp only[List.cons.injEq,Value.slice.injEq,and_true] at h
 obtain⟨rfl,rfl,rfl⟩:=h;rfl
theorem cell_stb{n:Nat}{w w':World}{a:Addr}{v:Value}(h:w.cell? a=some v)(hS:Stb n w w'):w'.cell? a=some v:=by
 unfold World.cell? at h ⊢
 split at h
 ·rename_i ho;rw[hS.keep _ _ ho rfl];exact h
 ·cases h
theorem rd_stb{n:Nat}{w w':World}{s:Sl}{sz:Nat}{cs:List Value}(h:Rd w s sz cs)(hS:Stb n w w'):Rd w' s sz cs:=by
 obtain⟨h1,h2⟩:=h
 refine⟨h1,?_⟩
 unfold ReadC at h2 ⊢
 split at h2
 ·exact⟨h2.1,fun i v hv=>cell_stb (h2.2 i v hv) hS⟩
 ·exact h2
 ·exact h2
inductive TC{α:Type}(E:α->α->Prop):α->α->Prop
 | one {a b:α}:E a b->TC E a b
 | more {a b c:α}:TC E a b->E b c->TC E a c
section
variable {α:Type} {E E':α->α->Prop}
theorem TC.trans{a b c:α}(h:TC E a b)(k:TC E b c):TC E a c:=by
 induction k with
 | one e=>exact .more h e
 | more _ e ih=>exact .more ih e
theorem TC.mono(hE:∀a b,E a b->E' a b){a b:α}(h:TC E a b):TC E' a b:=by
 induction h with
 | one e=>exact .one (hE _ _ e)
 | more _ e ih=>exact .more ih (hE _ _ e)
theorem TC.last{a b:α}(h:TC E a b):∃c,E c b/\(c=a\/TC E a c):=by
 cases h with
 | one e=>exact⟨_,e,.inl rfl⟩
 | more h e=>exact⟨_,e,.inr h⟩
theorem TC.first{a b:α}(h:TC E a b):∃c,E a c/\(c=b\/TC E c b):=by
 induction h with
 | one e=>exact⟨_,e,.inl rfl⟩
 | more h e ih=>
  obtain⟨c,h1,h2⟩:=ih
  refine⟨c,h1,.inr ?_⟩
  rcases h2 with rfl|h2
  ·exact .one e
  ·exact .more h2 e
end
def cmp1:Int->List Int->List Int
 | _,[]=>[]
 | p,y::l=>if y=p then cmp1 y l else y::cmp1 y l
def compactL:List Int->List Int
 | []=>[]
 | x::l=>x::cmp1 x l
theorem cmp1_mem:∀ {l:List Int}{p x:Int},x∈p::cmp1 p l↔x∈p::l
 | [],p,x=>Iff.rfl
 | y::l,p,x=>by
  unfold cmp1
  have ih:=cmp1_mem (l:=l) (p:=y) (x:=x)
  simp only[List.mem_cons] at ih
  by_cases h:y=p
  ·rw[if_pos h]
   subst h
   simp only[List.mem_cons,ih]
   constructor
   ·rintro(h|h)<;>simp[h]
   ·rintro(h|h|h)<;>simp[h]
  ·rw[if_neg h]
   simp only[List.mem_cons,ih]
theorem compactL_mem{l:List Int}{x:Int}:x∈compactL l↔x∈l:=by
 cases l with
 | nil=>rfl
 | cons y l=>exact cmp1_mem
theorem cmp1_sorted:∀ {l:List Int}{p:Int},(p::l).Pairwise (· <=·)->(p::cmp1 p l).Pairwise (· < ·)
 | [],p,_=>by simp[cmp1]
 | y::l,p,h=>by
  obtain⟨h1,h2⟩:=List.pairwise_cons.1 h
  unfold cmp1
  have ih:=cmp1_sorted h2
  by_cases he:y=p
  ·rw[if_pos he];subst he;exact ih
  ·rw[if_neg he]
   refine List.pairwise_cons.2 ⟨fun z hz=>?_,ih⟩
   have hpy:=h1 y (by simp)
   have hyz:=cmp1_mem.1 hz
   rcases List.mem_cons.1 hyz with rfl|hz'
   ·omega
   ·have:=(List.pairwise_cons.1 h2).1 z hz';omega
theorem compactL_sorted{l:List Int}(h:l.Pairwise (· <=·)):(compactL l).Pairwise (· < ·):=by
 cases l with
 | nil=>exact .nil
 | cons x l=>exact cmp1_sorted h
theorem cmp1_len:∀(l:List Int)(p:Int),(cmp1 p l).length<=l.length
 | [],_=>Nat.le_refl _
 | y::l,p=>by
  unfold cmp1
  have:=cmp1_len l y
  split
  ·rw[List.length_cons];omega
  ·rw[List.length_cons,List.length_cons];omega
theorem compactL_len(l:List Int):(compactL l).length<=l.length:=by
 cases l with
 | nil=>exact Nat.le_refl _
 | cons x l=>have:=cmp1_len l x;simp only[compactL,List.length_cons];omega
theorem cmp1_append:∀(l:List Int)(p y:Int),cmp1 p (l++[y])=cmp1 p l++if (p::l).getLast?=some y then [] else [y]
 | [],p,y=>by
  simp only[List.nil_append,cmp1,List.getLast?_singleton,Option.some.injEq]
  by_cases h:y=p
  ·rw[if_pos h,if_pos h.symm]
  ·rw[if_neg h,if_neg fun e=>h e.symm]
 | x::l,p,y=>by
  rw[List.cons_append]
  unfold cmp1
  rw[cmp1_append l x y,List.getLast?_cons_cons]
  split<;>rfl
theorem compactL_append{l:List Int}{y:Int}:compactL (l++[y])=compactL l++if l.getLast?=some y then [] else [y]:=by
 cases l with
 | nil=>rfl
 | cons x l=>
  show x::cmp1 x (l++[y])=(x::cmp1 x l)++_
  rw[cmp1_append];rfl
section
variable {δ:Type} {sv:δ->List Value} {sz:Nat}
theorem flatLen(h:∀x,(sv x).length=sz):∀l:List δ,(l.flatMap sv).length=l.length*sz
 | []=>by simp
 | x::l=>by rw[List.flatMap_cons,List.length_append,flatLen h l,h,List.length_cons,Nat.add_mul];omega
theorem flatTake(h:∀x,(sv x).length=sz):∀(l:List δ)(i:Nat),(l.flatMap sv).take (i*sz)=(l.take i).flatMap sv
 | [],i=>by simp
 | x::l,0=>by simp
 | x::l,i+1=>by
  rw[List.flatMap_cons,List.take_succ_cons,List.flatMap_cons,<-flatTake h l i,Nat.add_mul,Nat.one_mul,Nat.add_comm,<-h x,List.take_length_add_append]
theorem flatDrop(h:∀x,(sv x).length=sz):∀(l:List δ)(i:Nat),(l.flatMap sv).drop (i*sz)=(l.drop i).flatMap sv
 | [],i=>by simp
 | x::l,0=>by simp
 | x::l,i+1=>by
  rw[List.flatMap_cons,List.drop_succ_cons,<-flatDrop h l i,Nat.add_mul,Nat.one_mul,Nat.add_comm,<-h x,List.drop_length_add_append]
theorem flatSet(h:∀x,(sv x).length=sz){l:List δ}{i:Nat}{x:δ}(hi:i<l.length):(l.flatMap sv).take (i*sz)++sv x++(l.flatMap sv).drop (i*sz+sz)=(l.set i x).flatMap sv:=by
 rw[List.set_eq_take_append_cons_drop,if_pos hi,List.flatMap_append,List.flatMap_cons,flatTake h,show i*sz+sz=(i+1)*sz by rw[Nat.add_mul,Nat.one_mul],flatDrop h]
 simp
theorem flatGet(h:∀x,(sv x).length=sz){l:List δ}{i:Nat}{x:δ}(hx:l[i]? =some x):((l.flatMap sv).drop (i*sz)).take sz=sv x:=by
 obtain⟨hi,rfl⟩:=List.getElem?_eq_some_iff.1 hx
 rw[flatDrop h,List.drop_eq_getElem_cons hi,List.flatMap_cons,<-h l[i],List.take_append_of_le_length (Nat.le_refl _),List.take_length]
theorem owsN{w:World}{t:Sl}{l:List δ}(h:∀x,(sv x).length=sz)(hz:0<sz)(ho:OwS w t sz (l.flatMap sv)):t.n=l.length:=by
 have:=ho.len
 rw[flatLen h] at this
 exact(Nat.eq_of_mul_eq_mul_right hz this).symm
end
theorem flat_map1{δ:Type}(f:δ->Value)(l:List δ):(l.flatMap fun x=>[f x])=l.map f:=by
 induction l with
 | nil=>rfl
 | cons x l ih=>simpa using ih
def DFF(P:Program){δ:Type}(E:World->Nat->Nat->Nat->δ->Prop)(V:δ->Value)(sv:δ->List Value)(off:Nat->Nat)(sz:Nat)(z:Array Value)(idx:Nat)(t0:Sl)(t1:Nat×Array Value)(w:World)(R:RV):Prop:=
 CX P idx #[Value.slice t0.1 t0.2 t0.3,Value.func (Fn.func t1.1) #[] t1.2] w fun(v1:Value) (w2:World)=>
 ∃(n3:Int),
 v1=Value.int IntKind.i64 n3/\
 IfB (n3 == (-1:Int)) (R (Value.slice t0.1 t0.2 t0.3) w2)
 (∃(y4:Nat->Int×Int->World->Prop),
 (∃(b5:Nat),y4 b5 (n3,IntKind.i64.wrap (n3+(1:Int))) w2)/\
 ∀(b6:Nat)(x7:Int×Int)(w8:World)(y9:Nat->Value),
 y4 b6 x7 w8->
 IfB (decide (x7.snd<(t0.n:Int)))
 (∃(b11:Nat),
 ∃(b12:Nat),
 t0.1=some ({ block:=b11,off:=b12 }:Addr)/\
 ((0:Int)<=x7.2/\x7.2<(t0.2:Int))/\
 ∃(n13:δ),
 E w8 b11 b12 x7.2.toNat n13/\
 CX P t1.1 { toList:=V n13::t1.snd.1 } w8 fun(v14:Value) (w15:World)=>
 ∃(t16:Bool),
 v14=Value.bool t16/\
 IfB (!t16)
 (∃(b17:Nat),
 ∃(b18:Nat),
 t0.1=some ({ block:=b17,off:=b18 }:Addr)/\
 ((0:Int)<=x7.1/\x7.1<(t0.2:Int))/\
 (sv n13).toArray.size=sz/\
 StoreP w15 b17 (b18+off x7.1.toNat) (sv n13) fun(w19:World)=>
 ([]:List Nat)=[]/\∃(b20:Nat),b20<b6/\y4 b20 (IntKind.i64.wrap (x7.1+(1:Int)),IntKind.i64.wrap (x7.2+(1:Int))) w19)
 (([]:List Nat)=[]/\∃(b21:Nat),b21<b6/\y4 b21 (x7.1,IntKind.i64.wrap (x7.2+(1:Int))) w15))
 (((0:Int)<=x7.1/\x7.1<=(t0.2:Int))/\
 match slAddr t0.1 t0.3 x7.1.toNat sz with
 | none=>((0:Int)<=x7.1/\x7.1<=(t0.3:Int))/\R (Value.slice (slAddr t0.1 t0.3 (0:Nat) sz) x7.1.toNat t0.3) w8
 | some ({ block:=b23,off:=b24,spot:=none }:Addr)=>
 StoreP w8 b23 b24 (zc z (t0.2-x7.1.toNat)) fun(w25:World)=>
 ((0:Int)<=x7.1/\x7.1<=(t0.3:Int))/\R (Value.slice (slAddr t0.1 t0.3 (0:Nat) sz) x7.1.toNat t0.3) w25
 | some y26=>False))
theorem takeFilter{α:Type}{p:α->Bool}{l:List α}{i:Nat}{x:α}(h:l[i]? =some x):(l.take (i+1)).filter p=(l.take i).filter p++if p x then [x] else []:=by
 rw[take_succ_get h,List.filter_append]
 cases hp:p x<;>simp[hp]
theorem DFF_of{P:Program}{δ:Type}{E:World->Nat->Nat->Nat->δ->Prop}{V:δ->Value}{sv:δ->List Value}{off:Nat->Nat}{sz:Nat}{z:Array Value}{idx:Nat}{t0:Sl}{t1:Nat×Array Value}{w:World}{R:RV}{xs:List δ}{q:δ->Bool}
  (ho:OwS w t0 sz (xs.flatMap sv))(hz0:0<sz)(hl:∀x,(sv x).length=sz)(h1:∀x,One (sv x))(hz:z.size=sz)(hz1:One z.toList)(hoff:∀i,off i=i*sz)(hn:xs.length<=1000000)
  (hE:∀(W:World)(b i:Nat)(x:δ),t0.p=some ⟨b,0,none⟩->CellsAt W b (0+i*sz) (sv x)->E W b 0 i x)
  (hidx:∀R':RV,(∀w',Ext w w'->R' (.int .i64 (idxV (xs.findIdx? q))) w')->CX P idx #[slV t0,.func (.func t1.1) #[] t1.2] w R')
  (hq:∀(x:δ)(W:World),x∈xs->Ch (fun i=>i∈blk t0) w W->∀R':RV,(∀w',Ext W w'->R' (.bool (q x)) w')->CX P t1.1 { toList:=V x::t1.2.toList } W R')
  (hK:∀s' w',OwS w' s' sz ((xs.filter fun x=> !q x).flatMap sv)->s'.p=t0.p->s'.n<=t0.n->Ch (fun i=>i∈blk t0) w w'->R (slV s') w'):DFF P E V sv off sz z idx t0 t1 w R:=by
 have htn:=owsN hl hz0 ho
 refine hidx _ fun w2 e2=>⟨_,rfl,?_⟩
 cases hf:xs.findIdx? q with
 | none=>
  refine IfB.yes rfl ?_
  have:(xs.filter fun x=> !q x)=xs:=List.filter_eq_self.2 fun x hx=>by rw[List.findIdx?_eq_none_iff.1 hf x hx];rfl
  refine hK t0 w2 (by rw[this];exact ho.ext e2) rfl (Nat.le_refl _) (e2.mono fun _ _ h=>h.elim)
 | some i0=>
  obtain⟨hi0,hqi,hlow⟩:=List.findIdx?_eq_some_iff_getElem.1 hf
  refine IfB.no (by simp[idxV]) ?_
  have hx0:xs[i0]? =some xs[i0]:=List.getElem?_eq_getElem hi0
  have hkeep0:(xs.take i0).filter (fun x=> !q x)=xs.take i0:=List.filter_eq_self.2 fun x hx=>by
   obtain⟨j,hj,rfl⟩:=List.getElem_of_mem hx
   rw[List.length_take] at hj
   rw[List.getElem_take]
   have:=hlow j (by omega)
   simpa using this
  have hkeep1:(xs.take (i0+1)).filter (fun x=> !q x)=xs.take i0:=by rw[takeFilter hx0,hkeep0,hqi];simp
  refine⟨fun n x W=>∃(j:Nat)(gs:List δ),gs≠[]/\n+j=xs.length/\((xs.take j).filter fun x=> !q x).length+gs.length=j/\j<=xs.length/\x=((((xs.take j).filter fun x=> !q x).length:Int),(j:Int))/\OwS W t0 sz ((((xs.take j).filter fun x=> !q x)++gs++xs.drop j).flatMap sv)/\Ch (fun i=>i∈blk t0) w W,
   ⟨xs.length-(i0+1),i0+1,[xs[i0]],by simp,by omega,by rw[hkeep1,List.length_take];simp;omega,by omega,?_,?_,e2.mono fun _ _ h=>h.elim⟩,?_⟩
  ·rw[hkeep1,List.length_take,Nat.min_eq_left (by omega)]
   show ((i0:Int),IntKind.i64.wrap ((i0:Int)+1))=_
   rw[wrap_of (by omega) (by omega)];rfl
  ·rw[hkeep1]
   have:xs.take i0++[xs[i0]]++xs.drop (i0+1)=xs:=by
    rw[List.append_assoc,List.singleton_append,<-List.drop_eq_getElem_cons hi0,List.take_append_drop]
   rw[this]
   exact ho.ext e2
  ·rintro n _ W g ⟨j,gs,hgs,hnj,hlen,hj,rfl,hO,hC⟩
   generalize hkd:(xs.take j).filter (fun x=> !q x)=kd at hlen hO
   have hg0:0<gs.length:=List.length_pos_iff.2 hgs
   have hcap:=ho.cap
   obtain⟨b,hp⟩:=ho.ptr (by omega)
   refine IfB.dec (fun hlt=>?_) fun hge=>?_
   ·have hj':j<xs.length:=by omega
    have hx:xs[j]? =some xs[j]:=List.getElem?_eq_getElem hj'
    have hxm:=List.mem_of_getElem? hx
    have htf:=takeFilter (p:=fun x=> !q x) hx
    rw[hkd] at htf
    have hdrop:xs.drop j=xs[j]::xs.drop (j+1):=List.drop_eq_getElem_cons hj'
    generalize xs[j]=x at hx hxm htf hdrop
    have hLx:(kd++gs++xs.drop j)[j]? =some x:=by
     rw[List.getElem?_append_right (by rw[List.length_append];omega),List.length_append,show j-(kd.length+gs.length)=0 by omega,hdrop];rfl
    obtain⟨b',hp',hc⟩:=hO.elem (i:=j) (by omega) (flatGet hl hLx)
    rw[hp] at hp';cases hp'
    refine⟨b,0,hp,⟨by dsimp only;omega,hlt⟩,x,?_,hq x W hxm hC _ fun w15 e15=>⟨q x,rfl,?_⟩⟩
    ·dsimp only
     rw[Int.toNat_natCast]
     exact hE W b j x hp (by rw[Nat.zero_add];exact hc)
    ·have hO15:=hO.ext e15
     have hC15:=hC.then e15 fun _ _ h=>h.elim
     refine IfB.intro (fun hk=>?_) fun hk=>?_
     ·have hqx:q x=false:=by simpa using hk
      rw[hqx] at htf
      simp only[Bool.not_false,if_true] at htf
      refine⟨b,0,hp,⟨by dsimp only;omega,by show (kd.length:Int)<(t0.n:Int);omega⟩,by simp[hl],?_⟩
      dsimp only
      rw[Int.toNat_natCast,hoff,Nat.zero_add]
      have hLl:(kd++gs++xs.drop j).length=xs.length:=by rw[List.length_append,List.length_append,List.length_drop];omega
      have hle:kd.length*sz+sz<=t0.n*sz:=by
       rw[show kd.length*sz+sz=(kd.length+1)*sz by rw[Nat.add_mul,Nat.one_mul]]
       exact Nat.mul_le_mul_right _ (by omega)
      refine hO15.store hp (by rw[hl];exact hle) (h1 x) fun w19 hO19 hC19=>⟨rfl,n-1,by omega,j+1,gs.tail++[x],by simp,by omega,?_,by omega,?_,?_,hC15.then hC19 fun i _ e=>by simp[blk,hp,e]⟩
      ·rw[htf];simp;omega
      ·rw[htf,wrap_of (by omega) (by omega),wrap_of (by omega) (by omega)];simp
      ·rw[hl,flatSet hl (by omega)] at hO19
       rw[htf]
       have:(kd++gs++xs.drop j).set kd.length x=kd++[x]++(gs.tail++[x])++xs.drop (j+1):=by
        rw[hdrop]
        cases gs with
        | nil=>exact absurd rfl hgs
        | cons g0 gs=>simp
       rw[<-this];exact hO19
     ·have hqx:q x=true:=by simpa using hk
      rw[hqx] at htf
      simp only[Bool.not_true,Bool.false_eq_true,if_false,List.append_nil] at htf
      refine⟨rfl,n-1,by omega,j+1,gs++[x],by simp,by omega,by rw[htf];simp;omega,by omega,?_,?_,hC15⟩
      ·rw[htf];dsimp only;rw[wrap_of (by omega) (by omega)];rfl
      ·rw[htf]
       rw[hdrop] at hO15
       simpa using hO15
   ·have hjn:j=xs.length:=by dsimp only at hge;omega
    subst hjn
    rw[List.take_length] at hkd
    rw[List.drop_length,List.append_nil] at hO
    have hkl:kd.length<t0.n:=by omega
    refine⟨⟨by dsimp only;omega,by show (kd.length:Int)<=(t0.n:Int);omega⟩,?_⟩
    dsimp only
    rw[Int.toNat_natCast,hp,slAddr_some]
    have hcut:=hO.cut (k:=kd.length) (by omega)
    rw[flatTake hl,List.take_append_of_le_length (Nat.le_refl _),List.take_length] at hcut
    dsimp only
    rw[if_neg (by omega),Nat.zero_add]
    have e1:kd.length*sz+(t0.n-kd.length)*sz<=t0.c*sz:=by
     rw[<-Nat.add_mul];exact Nat.mul_le_mul_right _ (by omega)
    refine hcut.storeTail hp (Nat.le_refl _) (by rw[zc_len,hz];exact e1) (zc_one hz1 _) fun w25 hO25 hC25=>⟨⟨by omega,by omega⟩,?_⟩
    have:=hK ⟨t0.p,kd.length,t0.c⟩ w25 (by rw[hkd];exact hO25) rfl (by dsimp only;omega) (hC.then hC25 fun i _ e=>by simp[blk,hp,e])
    rw[<-hp,slAddr_zero]
    exact this
theorem Ch.chN{F:Nat->Prop}{w W W':World}(e:Ext w W)(hC:Ch F W W')(hF:∀i,F i->w.heap.size<=i):Ext w W':=e.then hC fun i hi h=>by have:=hF i h;omega
section
variable {E:Nat->Nat->Prop}
def Fw(E:Nat->Nat->Prop):Nat->Nat->Nat->Prop
 | 0,i,k=>E i k
 | m+1,i,k=>Fw E m i k\/(Fw E m i m/\Fw E m m k)
theorem Fw_tc:∀ {m i k:Nat},Fw E m i k->TC E i k
 | 0,_,_,h=>.one h
 | m+1,_,_,.inl h=>Fw_tc h
 | m+1,_,_,.inr ⟨h1,h2⟩=>(Fw_tc h1).trans (Fw_tc h2)
theorem Fw_trans:∀ {m i j k:Nat},j<m->Fw E m i j->Fw E m j k->Fw E m i k
 | 0,_,_,_,h,_,_=>by omega
 | m+1,i,j,k,h,h1,h2=>by
  by_cases hj:j=m
  ·subst hj
   refine .inr ⟨?_,?_⟩
   ·rcases h1 with h|h
    ·exact h
    ·exact h.1
   ·rcases h2 with h|h
    ·exact h
    ·exact h.2
  ·have hj':j<m:=by omega
   rcases h1 with h1|⟨h1,h1'⟩
   ·rcases h2 with h2|⟨h2,h2'⟩
    ·exact .inl (Fw_trans hj' h1 h2)
    ·exact .inr ⟨Fw_trans hj' h1 h2,h2'⟩
   ·rcases h2 with h2|⟨h2,h2'⟩
    ·exact .inr ⟨h1,Fw_trans hj' h1' h2⟩
    ·exact .inr ⟨h1,h2'⟩
theorem Fw_zero{i k:Nat}(h:E i k):∀m,Fw E m i k
 | 0=>h
 | m+1=>.inl (Fw_zero h m)
theorem Fw_all{n i k:Nat}(hE:∀a b,E a b->b<n)(h:TC E i k):Fw E n i k:=by
 induction h with
 | one h=>exact Fw_zero h n
 | more h1 h2 ih=>
  refine Fw_trans ?_ ih (Fw_zero h2 n)
  obtain⟨c,hc,_⟩:=h1.last
  exact hE _ _ hc
theorem Fw_iff{n i k:Nat}(hE:∀a b,E a b->b<n):Fw E n i k↔TC E i k:=⟨Fw_tc,Fw_all hE⟩
end
abbrev bvs(l:List Bool):List Value:=l.map Value.bool
abbrev tt3:TI:={ kd:=.int .i64,size:=1,bytes:=8,zero:=(.int .i64 0),sh:=.one (.int .i64) }
def tbL:List (Nat×TI):=[
 (0,{ kd:=.other,size:=1,bytes:=0,zero:=(.tuple #[]),sh:=.tup [] }),
 (3,{ kd:=.int .i64,size:=1,bytes:=8,zero:=(.int .i64 0),sh:=.one (.int .i64) }),
 (4,{ kd:=.bool,size:=1,bytes:=1,zero:=(.bool false),sh:=.one .bool }),
 (5,{ kd:=.int .u8,size:=1,bytes:=1,zero:=(.int .u8 0),sh:=.one (.int .u8) }),
 (9,{ kd:=.string,size:=1,bytes:=16,zero:=(.string ⟨#[]⟩),sh:=.one .str }),
 (22,{ kd:=.slice 32,size:=1,bytes:=24,zero:=(.slice none 0 0),sh:=.one .sl }),
 (24,{ kd:=.map 3 35,size:=1,bytes:=8,zero:=(.map none),sh:=.one .map }),
 (26,{ kd:=.struct [(24,0)],size:=1,bytes:=8,zero:=(.agg #[(.map none)]),sh:=.agg [.map] }),
 (27,{ kd:=.array 12 4,size:=12,bytes:=12,zero:=(.agg #[(.bool false),(.bool false),(.bool false),(.bool false),(.bool false),(.bool false),(.bool false),(.bool false),(.bool false),(.bool false),(.bool false),(.bool false)]),sh:=.one .arr }),
 (29,{ kd:=.array 12 27,size:=144,bytes:=144,zero:=(.agg (Array.replicate 144 (.bool false))),sh:=.one .arr }),
 (30,{ kd:=.slice 5,size:=1,bytes:=24,zero:=(.slice none 0 0),sh:=.one .sl }),
 (32,{ kd:=.struct [(5,0),(5,1),(30,2)],size:=3,bytes:=32,zero:=(.agg #[(.int .u8 0),(.int .u8 0),(.slice none 0 0)]),sh:=.agg [.int .u8,.int .u8,.sl] }),
 (35,{ kd:=.slice 3,size:=1,bytes:=24,zero:=(.slice none 0 0),sh:=.one .sl }),
 (36,{ kd:=.other,size:=1,bytes:=0,zero:=(.tuple #[(.agg (Array.replicate 144 (.bool false))),(.bool false)]),sh:=.tup [.arr,.bool] }),
 (40,{ kd:=.ptr,size:=1,bytes:=8,zero:=(.pointer none),sh:=.one .ptr }),
 (45,{ kd:=.func,size:=1,bytes:=8,zero:=.nilFunc,sh:=.one .clo }),
 (47,{ kd:=.other,size:=1,bytes:=0,zero:=(.tuple #[(.slice none 0 0),(.bool false)]),sh:=.tup [.sl,.bool] }),
 (48,{ kd:=.func,size:=1,bytes:=8,zero:=.nilFunc,sh:=.one .clo }),
 (50,{ kd:=.func,size:=1,bytes:=8,zero:=.nilFunc,sh:=.one .clo }),
 (51,{ kd:=.func,size:=1,bytes:=8,zero:=.nilFunc,sh:=.one .clo }),
 (59,{ kd:=.map 3 4,size:=1,bytes:=8,zero:=(.map none),sh:=.one .map }),
 (65,{ kd:=.int .u64,size:=1,bytes:=8,zero:=(.int .u64 0),sh:=.one (.int .u64) }),
 (67,{ kd:=.int .i64,size:=1,bytes:=8,zero:=(.int .i64 0),sh:=.one (.int .i64) }),
 (68,{ kd:=.other,size:=1,bytes:=0,zero:=(.tuple #[(.int .i64 0),(.int .i64 0)]),sh:=.tup [.int .i64,.int .i64] }),
 (73,{ kd:=.other,size:=1,bytes:=0,zero:=(.tuple #[(.int .i64 0),(.bool false)]),sh:=.tup [.int .i64,.bool] }),
 (76,{ kd:=.int .u32,size:=1,bytes:=4,zero:=(.int .u32 0),sh:=.one (.int .u32) }),
 (78,{ kd:=.int .u64,size:=1,bytes:=8,zero:=(.int .u64 0),sh:=.one (.int .u64) }),
 (79,{ kd:=.int .u64,size:=1,bytes:=8,zero:=(.int .u64 0),sh:=.one (.int .u64) }),
 (83,{ kd:=.ptr,size:=1,bytes:=8,zero:=(.pointer none),sh:=.one .ptr }),
 (85,{ kd:=.ptr,size:=1,bytes:=8,zero:=(.pointer none),sh:=.one .ptr }),
 (86,{ kd:=.other,size:=1,bytes:=0,zero:=(.tuple #[(.int .i64 0),(.int .i64 0)]),sh:=.tup [.int .i64,.int .i64] })
 ]
def tb:Tab:=fun t=>lkT t tbL
theorem ti0:TI.Ok Try.prog 0 { kd:=.other,size:=1,bytes:=0,zero:=(.tuple #[]),sh:=.tup [] }:=⟨by kernel_rfl,by kernel_rfl,by rfl⟩
theorem ti3:TI.Ok Try.prog 3 { kd:=.int .i64,size:=1,bytes:=8,zero:=(.int .i64 0),sh:=.one (.int .i64) }:=⟨by kernel_rfl,by kernel_rfl,by rfl⟩
theorem ti4:TI.Ok Try.prog 4 { kd:=.bool,size:=1,bytes:=1,zero:=(.bool false),sh:=.one .bool }:=⟨by kernel_rfl,by kernel_rfl,by rfl⟩
theorem ti5:TI.Ok Try.prog 5 { kd:=.int .u8,size:=1,bytes:=1,zero:=(.int .u8 0),sh:=.one (.int .u8) }:=⟨by kernel_rfl,by kernel_rfl,by rfl⟩
theorem ti9:TI.Ok Try.prog 9 { kd:=.string,size:=1,bytes:=16,zero:=(.string ⟨#[]⟩),sh:=.one .str }:=⟨by kernel_rfl,by kernel_rfl,by rfl⟩
theorem ti22:TI.Ok Try.prog 22 { kd:=.slice 32,size:=1,bytes:=24,zero:=(.slice none 0 0),sh:=.one .sl }:=⟨by kernel_rfl,by kernel_rfl,by rfl⟩
theorem ti24:TI.Ok Try.prog 24 { kd:=.map 3 35,size:=1,bytes:=8,zero:=(.map none),sh:=.one .map }:=⟨by kernel_rfl,by kernel_rfl,by rfl⟩
theorem ti26:TI.Ok Try.prog 26 { kd:=.struct [(24,0)],size:=1,bytes:=8,zero:=(.agg #[(.map none)]),sh:=.agg [.map] }:=⟨by kernel_rfl,by kernel_rfl,by rfl⟩
theorem ti27:TI.Ok Try.prog 27 { kd:=.array 12 4,size:=12,bytes:=12,zero:=(.agg #[(.bool false),(.bool false),(.bool false),(.bool false),(.bool false),(.bool false),(.bool false),(.bool false),(.bool false),(.bool false),(.bool false),(.bool false)]),sh:=.one .arr }:=⟨by kernel_rfl,by kernel_rfl,by rfl⟩
theorem ti29:TI.Ok Try.prog 29 { kd:=.array 12 27,size:=144,bytes:=144,zero:=(.agg (Array.replicate 144 (.bool false))),sh:=.one .arr }:=⟨by kernel_rfl,by kernel_rfl,by simp[Value.cells]⟩
theorem ti30:TI.Ok Try.prog 30 { kd:=.slice 5,size:=1,bytes:=24,zero:=(.slice none 0 0),sh:=.one .sl }:=⟨by kernel_rfl,by kernel_rfl,by rfl⟩
theorem ti32:TI.Ok Try.prog 32 { kd:=.struct [(5,0),(5,1),(30,2)],size:=3,bytes:=32,zero:=(.agg #[(.int .u8 0),(.int .u8 0),(.slice none 0 0)]),sh:=.agg [.int .u8,.int .u8,.sl] }:=⟨by kernel_rfl,by kernel_rfl,by rfl⟩
theorem ti35:TI.Ok Try.prog 35 { kd:=.slice 3,size:=1,bytes:=24,zero:=(.slice none 0 0),sh:=.one .sl }:=⟨by kernel_rfl,by kernel_rfl,by rfl⟩
theorem ti36:TI.Ok Try.prog 36 { kd:=.other,size:=1,bytes:=0,zero:=(.tuple #[(.agg (Array.replicate 144 (.bool false))),(.bool false)]),sh:=.tup [.arr,.bool] }:=⟨by kernel_rfl,by kernel_rfl,by simp[Value.cells]⟩
theorem ti40:TI.Ok Try.prog 40 { kd:=.ptr,size:=1,bytes:=8,zero:=(.pointer none),sh:=.one .ptr }:=⟨by kernel_rfl,by kernel_rfl,by rfl⟩
theorem ti45:TI.Ok Try.prog 45 { kd:=.func,size:=1,bytes:=8,zero:=.nilFunc,sh:=.one .clo }:=⟨by kernel_rfl,by kernel_rfl,by rfl⟩
theorem ti47:TI.Ok Try.prog 47 { kd:=.other,size:=1,bytes:=0,zero:=(.tuple #[(.slice none 0 0),(.bool false)]),sh:=.tup [.sl,.bool] }:=⟨by kernel_rfl,by kernel_rfl,by rfl⟩
theorem ti48:TI.Ok Try.prog 48 { kd:=.func,size:=1,bytes:=8,zero:=.nilFunc,sh:=.one .clo }:=⟨by kernel_rfl,by kernel_rfl,by rfl⟩
theorem ti50:TI.Ok Try.prog 50 { kd:=.func,size:=1,bytes:=8,zero:=.nilFunc,sh:=.one .clo }:=⟨by kernel_rfl,by kernel_rfl,by rfl⟩
theorem ti51:TI.Ok Try.prog 51 { kd:=.func,size:=1,bytes:=8,zero:=.nilFunc,sh:=.one .clo }:=⟨by kernel_rfl,by kernel_rfl,by rfl⟩
theorem ti59:TI.Ok Try.prog 59 { kd:=.map 3 4,size:=1,bytes:=8,zero:=(.map none),sh:=.one .map }:=⟨by kernel_rfl,by kernel_rfl,by rfl⟩
theorem ti65:TI.Ok Try.prog 65 { kd:=.int .u64,size:=1,bytes:=8,zero:=(.int .u64 0),sh:=.one (.int .u64) }:=⟨by kernel_rfl,by kernel_rfl,by rfl⟩
theorem ti67:TI.Ok Try.prog 67 { kd:=.int .i64,size:=1,bytes:=8,zero:=(.int .i64 0),sh:=.one (.int .i64) }:=⟨by kernel_rfl,by kernel_rfl,by rfl⟩
theorem ti68:TI.Ok Try.prog 68 { kd:=.other,size:=1,bytes:=0,zero:=(.tuple #[(.int .i64 0),(.int .i64 0)]),sh:=.tup [.int .i64,.int .i64] }:=⟨by kernel_rfl,by kernel_rfl,by rfl⟩
theorem ti73:TI.Ok Try.prog 73 { kd:=.other,size:=1,bytes:=0,zero:=(.tuple #[(.int .i64 0),(.bool false)]),sh:=.tup [.int .i64,.bool] }:=⟨by kernel_rfl,by kernel_rfl,by rfl⟩
theorem ti76:TI.Ok Try.prog 76 { kd:=.int .u32,size:=1,bytes:=4,zero:=(.int .u32 0),sh:=.one (.int .u32) }:=⟨by kernel_rfl,by kernel_rfl,by rfl⟩
theorem ti78:TI.Ok Try.prog 78 { kd:=.int .u64,size:=1,bytes:=8,zero:=(.int .u64 0),sh:=.one (.int .u64) }:=⟨by kernel_rfl,by kernel_rfl,by rfl⟩
theorem ti79:TI.Ok Try.prog 79 { kd:=.int .u64,size:=1,bytes:=8,zero:=(.int .u64 0),sh:=.one (.int .u64) }:=⟨by kernel_rfl,by kernel_rfl,by rfl⟩
theorem ti83:TI.Ok Try.prog 83 { kd:=.ptr,size:=1,bytes:=8,zero:=(.pointer none),sh:=.one .ptr }:=⟨by kernel_rfl,by kernel_rfl,by rfl⟩
theorem ti85:TI.Ok Try.prog 85 { kd:=.ptr,size:=1,bytes:=8,zero:=(.pointer none),sh:=.one .ptr }:=⟨by kernel_rfl,by kernel_rfl,by rfl⟩
theorem ti86:TI.Ok Try.prog 86 { kd:=.other,size:=1,bytes:=0,zero:=(.tuple #[(.int .i64 0),(.int .i64 0)]),sh:=.tup [.int .i64,.int .i64] }:=⟨by kernel_rfl,by kernel_rfl,by rfl⟩
theorem lkT_mem{t:Nat}{i:TI}:∀ {l:List (Nat×TI)},lkT t l=some i->(t,i)∈l
 | [],h=>by cases h
 | q::l,h=>by
  unfold lkT at h
  split at h
  ·rename_i e
   have:=Nat.eq_of_beq_eq_true e
   subst this
   cases h
   exact List.mem_cons_self ..
  ·exact List.mem_cons_of_mem _ (lkT_mem h)
theorem tbOk:tb.Ok Try.prog:=by
 intro t i h
 have h:=lkT_mem h
 simp only[tbL,List.mem_cons,List.not_mem_nil,or_false,Prod.mk.injEq] at h
 rcases h with ⟨rfl,rfl⟩|⟨rfl,rfl⟩|⟨rfl,rfl⟩|⟨rfl,rfl⟩|⟨rfl,rfl⟩|⟨rfl,rfl⟩|⟨rfl,rfl⟩|⟨rfl,rfl⟩|⟨rfl,rfl⟩|⟨rfl,rfl⟩|⟨rfl,rfl⟩|⟨rfl,rfl⟩|⟨rfl,rfl⟩|⟨rfl,rfl⟩|⟨rfl,rfl⟩|⟨rfl,rfl⟩|⟨rfl,rfl⟩|⟨rfl,rfl⟩|⟨rfl,rfl⟩|⟨rfl,rfl⟩|⟨rfl,rfl⟩|⟨rfl,rfl⟩|⟨rfl,rfl⟩|⟨rfl,rfl⟩|⟨rfl,rfl⟩|⟨rfl,rfl⟩|⟨rfl,rfl⟩|⟨rfl,rfl⟩|⟨rfl,rfl⟩|⟨rfl,rfl⟩|⟨rfl,rfl⟩
 ·exact ti0
 ·exact ti3
 ·exact ti4
 ·exact ti5
 ·exact ti9
 ·exact ti22
 ·exact ti24
 ·exact ti26
 ·exact ti27
 ·exact ti29
 ·exact ti30
 ·exact ti32
 ·exact ti35
 ·exact ti36
 ·exact ti40
 ·exact ti45
 ·exact ti47
 ·exact ti48
 ·exact ti50
 ·exact ti51
 ·exact ti59
 ·exact ti65
 ·exact ti67
 ·exact ti68
 ·exact ti73
 ·exact ti76
 ·exact ti78
 ·exact ti79
 ·exact ti83
 ·exact ti85
 ·exact ti86
theorem mixed:Try.prog.follows .mixedOrders=true:=by kernel_rfl
abbrev Cw(f:FuncId)(a:Array Value)(w:World)(R:RV):Prop:=CW Try.prog f a w R
abbrev Cx(f:FuncId)(a:Array Value)(w:World)(R:RV):Prop:=CX Try.prog f a w R
def ckB(fn:Func)(an:An)(n:Nat):Bool:=match fn.body with
 | some c=>okC tb fn.ntmps c an&&n.ble fn.ntmps && !(fn.name == "runtime.NumGoroutine")
 | none=>false
def ckE(fn:Func)(an:An)(a:Array Value)(R:RV)(w:World):Prop:=match fn.body with
 | some c=>ex Try.prog tb fn.ntmps none c an (retQ tb fn.results.toList R) (argFr 0 a.toList) [] w
 | none=>False
theorem ckF{α:Prop}{f:FuncId}{fn:Func}{a:Array Value}{w:World}{R:RV}(hf:Try.prog.funcs[f]? =some fn)(an:An)(h:α)(hb:ckB fn an a.size=true)(e:α=ckE fn an a R w):Cw f a w R:=by
 have h:=e.mp h
 cases hc:fn.body with
 | none=>simp only[ckB,hc] at hb;cases hb
 | some c=>
  simp only[ckB,hc,Bool.and_eq_true,Bool.not_eq_true'] at hb
  simp only[ckE,hc] at h
  exact call_of tbOk mixed (entr_of hf (by rw[hc];rfl) hb.2) hf hc an hb.1.1 (Nat.le_of_ble_eq_true hb.1.2) h
abbrev Qu'(k:FuncId)(a:Array Value)(w:World)(K:Sl->World->Prop):Prop:=Qu Try.prog k a w K
abbrev Qv'(k:FuncId)(a:Array Value)(w:World)(K:Bool->World->Prop):Prop:=Qv Try.prog k a w K
abbrev Qw'(k:FuncId)(a:Array Value)(w:World)(K:Int->World->Prop):Prop:=Qw Try.prog k a w K
theorem en4:Entr Try.prog 4:=entr_of Try.func4 (by kernel_rfl) (by kernel_rfl)
theorem en7:Entr Try.prog 7:=entr_of Try.func7 (by kernel_rfl) (by kernel_rfl)
theorem en26:Entr Try.prog 26:=entr_of Try.func26 (by kernel_rfl) (by kernel_rfl)
theorem en33:Entr Try.prog 33:=entr_of Try.func33 (by kernel_rfl) (by kernel_rfl)
theorem en34:Entr Try.prog 34:=entr_of Try.func34 (by kernel_rfl) (by kernel_rfl)
def GxLSby0:ByteArray:=(ByteArray.mk (Array.mk (([(0:UInt8),(1:UInt8),(2:UInt8),(2:UInt8),(3:UInt8),(3:UInt8),(3:UInt8),(3:UInt8),(4:UInt8),(4:UInt8),(4:UInt8),(4:UInt8),(4:UInt8),(4:UInt8),(4:UInt8),(4:UInt8),(5:UInt8),(5:UInt8),(5:UInt8),(5:UInt8),(5:UInt8),(5:UInt8),(5:UInt8),(5:UInt8),(5:UInt8),(5:UInt8),(5:UInt8),(5:UInt8),(5:UInt8),(5:UInt8),(5:UInt8),(5:UInt8),(6:UInt8),(6:UInt8),(6:UInt8),(6:UInt8),(6:UInt8),(6:UInt8),(6:UInt8),(6:UInt8),(6:UInt8),(6:UInt8),(6:UInt8),(6:UInt8),(6:UInt8),(6:UInt8),(6:UInt8),(6:UInt8),(6:UInt8),(6:UInt8),(6:UInt8),(6:UInt8),(6:UInt8),(6:UInt8),(6:UInt8),(6:UInt8),(6:UInt8),(6:UInt8),(6:UInt8),(6:UInt8),(6:UInt8),(6:UInt8),(6:UInt8),(6:UInt8)].append [(7:UInt8),(7:UInt8),(7:UInt8),(7:UInt8),(7:UInt8),(7:UInt8),(7:UInt8),(7:UInt8),(7:UInt8),(7:UInt8),(7:UInt8),(7:UInt8),(7:UInt8),(7:UInt8),(7:UInt8),(7:UInt8),(7:UInt8),(7:UInt8),(7:UInt8),(7:UInt8),(7:UInt8),(7:UInt8),(7:UInt8),(7:UInt8),(7:UInt8),(7:UInt8),(7:UInt8),(7:UInt8),(7:UInt8),(7:UInt8),(7:UInt8),(7:UInt8),(7:UInt8),(7:UInt8),(7:UInt8),(7:UInt8),(7:UInt8),(7:UInt8),(7:UInt8),(7:UInt8),(7:UInt8),(7:UInt8),(7:UInt8),(7:UInt8),(7:UInt8),(7:UInt8),(7:UInt8),(7:UInt8),(7:UInt8),(7:UInt8),(7:UInt8),(7:UInt8),(7:UInt8),(7:UInt8),(7:UInt8),(7:UInt8),(7:UInt8),(7:UInt8),(7:UInt8),(7:UInt8),(7:UInt8),(7:UInt8),(7:UInt8),(7:UInt8)]).append ([(8:UInt8),(8:UInt8),(8:UInt8),(8:UInt8),(8:UInt8),(8:UInt8),(8:UInt8),(8:UInt8),(8:UInt8),(8:UInt8),(8:UInt8),(8:UInt8),(8:UInt8),(8:UInt8),(8:UInt8),(8:UInt8),(8:UInt8),(8:UInt8),(8:UInt8),(8:UInt8),(8:UInt8),(8:UInt8),(8:UInt8),(8:UInt8),(8:UInt8),(8:UInt8),(8:UInt8),(8:UInt8),(8:UInt8),(8:UInt8),(8:UInt8),(8:UInt8),(8:UInt8),(8:UInt8),(8:UInt8),(8:UInt8),(8:UInt8),(8:UInt8),(8:UInt8),(8:UInt8),(8:UInt8),(8:UInt8),(8:UInt8),(8:UInt8),(8:UInt8),(8:UInt8),(8:UInt8),(8:UInt8),(8:UInt8),(8:UInt8),(8:UInt8),(8:UInt8),(8:UInt8),(8:UInt8),(8:UInt8),(8:UInt8),(8:UInt8),(8:UInt8),(8:UInt8),(8:UInt8),(8:UInt8),(8:UInt8),(8:UInt8),(8:UInt8)].append [(8:UInt8),(8:UInt8),(8:UInt8),(8:UInt8),(8:UInt8),(8:UInt8),(8:UInt8),(8:UInt8),(8:UInt8),(8:UInt8),(8:UInt8),(8:UInt8),(8:UInt8),(8:UInt8),(8:UInt8),(8:UInt8),(8:UInt8),(8:UInt8),(8:UInt8),(8:UInt8),(8:UInt8),(8:UInt8),(8:UInt8),(8:UInt8),(8:UInt8),(8:UInt8),(8:UInt8),(8:UInt8),(8:UInt8),(8:UInt8),(8:UInt8),(8:UInt8),(8:UInt8),(8:UInt8),(8:UInt8),(8:UInt8),(8:UInt8),(8:UInt8),(8:UInt8),(8:UInt8),(8:UInt8),(8:UInt8),(8:UInt8),(8:UInt8),(8:UInt8),(8:UInt8),(8:UInt8),(8:UInt8),(8:UInt8),(8:UInt8),(8:UInt8),(8:UInt8),(8:UInt8),(8:UInt8),(8:UInt8),(8:UInt8),(8:UInt8),(8:UInt8),(8:UInt8),(8:UInt8),(8:UInt8),(8:UInt8),(8:UInt8),(8:UInt8)]) )))
set_option linter.unusedVariables false
set_option maxRecDepth 100000
def F25(t0:Sl)(w:World)(R:RV):Prop:=Cx 32 #[Value.int IntKind.u64 (IntKind.u64.wrap (t0.2:Int))] w fun v1 w2=>∃n3:Int,v1=Qz n3/\Cx 31 #[Qy t0,Qz 0,Qz (t0.2:Int),Qz n3] w2 fun v4 w5=>∃y6:Unit,v4=Value.tuple #[]/\R (Value.tuple #[]) w5
theorem F25_ok(t0:Sl)(w:World)(R:RV)(h:F25 t0 w R):Cw 25 #[Qy t0] w R:=
 ckF Try.func25 .nil h (by kernel_rfl) (by kernel_rfl)
def F31k2(t0:Sl)(x4:Int×Int×Int×Bool×Bool)(x56:Int×Bool)(n18:Int)(w55:World)(b3:Nat)(y1:Nat->Int×Int×Int×Bool×Bool->World->Prop):Prop:=Cx 31 #[Qy t0,Qz x4.1,Qz x56.1,Qz n18] w55 fun v57 w58=>∃y59:Unit,v57=Value.tuple #[]/\Qn y1 b3 (IntKind.i64.wrap (x56.1+1),x4.snd.1,n18,decide (IntKind.i64.wrap ((IntKind.i64.wrap (x4.snd.fst-x4.fst)).tdiv 8)<=IntKind.i64.wrap (x56.fst-x4.fst)),x56.2) w58
def F31k1(t0:Sl)(x56:Int×Bool)(x4:Int×Int×Int×Bool×Bool)(n18:Int)(w55:World)(b3:Nat)(y1:Nat->Int×Int×Int×Bool×Bool->World->Prop):Prop:=Cx 31 #[Qy t0,Qz (IntKind.i64.wrap (x56.1+1)),Qz x4.snd.1,Qz n18] w55 fun v61 w62=>∃y63:Unit,v61=Value.tuple #[]/\Qn y1 b3 (x4.1,x56.1,n18,decide (IntKind.i64.wrap ((IntKind.i64.wrap (x4.snd.fst-x4.fst)).tdiv 8)<=IntKind.i64.wrap (x4.snd.fst-x56.fst)),x56.2) w62
def F31j4(t0:Sl)(y1:Nat->Int×Int×Int×Bool×Bool->World->Prop)(b3:Nat)(x4:Int×Int×Int×Bool×Bool)(n18:Int)(x29:Int×Int)(w38:World):Prop:=IfB (decide (0<x4.fst)) (Qx t0.1 (IntKind.i64.wrap (x4.1-1)) (t0.2:Int) fun b41 b42=>Qi w38.drew b41 (b42+(IntKind.i64.wrap (x4.1-1)).toNat) fun n43=>Qx t0.1 x29.1 (t0.2:Int) fun b44 b45=>Qi w38.drew b44 (b45+x29.1.toNat) fun n46=>Qv' 41 #[Qz n43,Qz n46] w38.drew fun t49 w48=>IfB (!t49) (Qw' 42 #[Qy t0,Qz x4.1,Qz x4.snd.1,Qz x29.1] w48 fun n52 w51=>Qn y1 b3 (n52,x4.snd.1,n18,x4.snd.snd.snd.1,x4.snd.snd.snd.2) w51) (Cx 43 #[Qy t0,Qz x4.1,Qz x4.snd.1,Qz x29.1] w48 fun v54 w55=>∃(x56:Int×Bool),v54=Value.tuple #[Qz x56.1,Value.bool x56.2]/\¬(8:Int)=0/\IfB (decide (IntKind.i64.wrap (x56.fst-x4.fst)<IntKind.i64.wrap (x4.snd.fst-x56.fst))) (F31k2 t0 x4 x56 n18 w55 b3 y1) (F31k1 t0 x56 x4 n18 w55 b3 y1))) (Cx 43 #[Qy t0,Qz x4.1,Qz x4.snd.1,Qz x29.1] w38.drew fun v65 w66=>∃(x67:Int×Bool),v65=Value.tuple #[Qz x67.1,Value.bool x67.2]/\¬(8:Int)=0/\IfB (decide (IntKind.i64.wrap (x67.fst-x4.fst)<IntKind.i64.wrap (x4.snd.fst-x67.fst))) (F31k2 t0 x4 x67 n18 w66 b3 y1) (F31k1 t0 x67 x4 n18 w66 b3 y1))
def F31j3(t0:Sl)(R:RV)(y1:Nat->Int×Int×Int×Bool×Bool->World->Prop)(b3:Nat)(x4:Int×Int×Int×Bool×Bool)(n18:Int)(x29:Int×Int)(w30:World):Prop:=∃(y33:Unit->World->Prop),IfB x4.snd.snd.snd.1 (IfB x4.snd.snd.snd.2 (IfB (x29.2 == 1) (Qv' 40 #[Qy t0,Qz x4.1,Qz x4.snd.1] w30 fun t36 w35=>IfB t36 (R (Value.tuple #[]) w35) (([]:List Nat)=[]/\y33 PUnit.unit w35)) (([]:List Nat)=[]/\y33 PUnit.unit w30)) (([]:List Nat)=[]/\y33 PUnit.unit w30)) (([]:List Nat)=[]/\y33 PUnit.unit w30)/\∀(y37:Unit)(w38:World)(y39:Nat->Value),y33 y37 w38->(F31j4 t0 y1 b3 x4 n18 x29 w38)
def F31j2(t0:Sl)(R:RV)(y1:Nat->Int×Int×Int×Bool×Bool->World->Prop)(b3:Nat)(x4:Int×Int×Int×Bool×Bool)(n18:Int)(w19:World):Prop:=Cx 38 #[Qy t0,Qz x4.1,Qz x4.snd.1] w19 fun v22 w23=>∃(x24:Int×Int),v22=Value.tuple #[Qz x24.1,Qz x24.2]/\∃(y25:Int×Int->World->Prop),IfB (x24.2 == 2) (Cx 39 #[Qy t0,Qz x4.1,Qz x4.snd.1] w23 fun v26 w27=>∃y28:Unit,v26=Value.tuple #[]/\([]:List Nat)=[]/\y25 (IntKind.i64.wrap (IntKind.i64.wrap (x4.snd.1-1)-IntKind.i64.wrap (x24.1-x4.1)),1) w27) (([]:List Nat)=[]/\y25 (x24.1,x24.2) w23)/\∀(x29:Int×Int)(w30:World)(y31:Nat->Value),y25 x29 w30->(F31j3 t0 R y1 b3 x4 n18 x29 w30)
def F31j1(t0:Sl)(R:RV)(y1:Nat->Int×Int×Int×Bool×Bool->World->Prop)(b3:Nat)(x4:Int×Int×Int×Bool×Bool)(w5:World):Prop:=IfB (decide (IntKind.i64.wrap (x4.snd.fst-x4.fst)<=12)) (Cx 35 #[Qy t0,Qz x4.1,Qz x4.snd.1] w5 fun v8 w9=>∃y10:Unit,v8=Value.tuple #[]/\R (Value.tuple #[]) w9) (IfB (x4.snd.snd.1 == 0) (Cx 36 #[Qy t0,Qz x4.1,Qz x4.snd.1] w5 fun v11 w12=>∃y13:Unit,v11=Value.tuple #[]/\R (Value.tuple #[]) w12) (∃(y14:Int->World->Prop),IfB (!x4.snd.snd.snd.1) (Cx 37 #[Qy t0,Qz x4.1,Qz x4.snd.1] w5 fun v15 w16=>∃y17:Unit,v15=Value.tuple #[]/\([]:List Nat)=[]/\y14 (IntKind.i64.wrap (x4.snd.snd.1-1)) w16) (([]:List Nat)=[]/\y14 x4.snd.snd.1 w5)/\∀(n18:Int)(w19:World)(y20:Nat->Value),y14 n18 w19->(F31j2 t0 R y1 b3 x4 n18 w19)))
theorem F31_ok(t0:Sl)(t1:Int)(t2:Int)(t3:Int)(w:World)(R:RV)(h:Ql (α:=Int×Int×Int×Bool×Bool) (t1,t2,t3,true,true) w fun y1 b3 x4 w5=>(F31j1 t0 R y1 b3 x4 w5)):Cw 31 #[Qy t0,Qz t1,Qz t2,Qz t3] w R:=
 ckF Try.func31 (nd (nd (.loop [(1,oi),(2,oi),(3,oi),(8,ob),(9,ob)] (rg [1,3,8,133]) (nd (nd (nd (.join [(3,oi)] (rg [3,3,34,41]) .nil (nd (.join [(11,oi),(12,oi)] (rg [11,12,49,60]) .nil (.join [] (rg [61,72]) .nil (.node (.node (.draw (sts [0,1,2,3,4,5,6,7,8,9,10,11] (.ac 12 [] (sts [13,14] .fin) .non))) .nil) .nil))))))))))) h (by kernel_rfl) (by kernel_rfl)
theorem F32_ok(t0:Int)(w:World)(R:RV)(h:Cx 45 #[Value.int IntKind.u64 t0] w fun v1 w2=>∃n3:Int,v1=Qz n3/\R (Qz n3) w2):Cw 32 #[Value.int IntKind.u64 t0] w R:=
 ckF Try.func32 .nil h (by kernel_rfl) (by kernel_rfl)
def F35j2(t0:Sl)(t1:Int)(y1:Nat->Int->World->Prop)(b3:Nat)(n4:Int)(y8:Nat->Int->World->Prop)(b10:Nat)(n11:Int)(w12:World):Prop:=IfB (decide (t1<n11)) (Qx t0.1 n11 (t0.2:Int) fun b15 b16=>Qi w12.drew b15 (b16+n11.toNat) fun n17=>Qx t0.1 (IntKind.i64.wrap (n11-1)) (t0.2:Int) fun b18 b19=>Qi w12.drew b18 (b19+(IntKind.i64.wrap (n11-1)).toNat) fun n20=>Qv' 41 #[Qz n17,Qz n20] w12.drew fun t23 w22=>IfB t23 (Qx t0.1 (IntKind.i64.wrap (n11-1)) (t0.2:Int) fun b24 b25=>Qi w22.drew b24 (b25+(IntKind.i64.wrap (n11-1)).toNat) fun n26=>Qx t0.1 n11 (t0.2:Int) fun b27 b28=>Qi w22.drew b27 (b28+n11.toNat) fun n29=>Qx t0.1 n11 (t0.2:Int) fun b30 b31=>#[Qz n26].size=1/\StoreP w22.drew b30 (b31+n11.toNat) [Qz n26] fun w32=>Qx t0.1 (IntKind.i64.wrap (n11-1)) (t0.2:Int) fun b33 b34=>#[Qz n29].size=1/\StoreP w32 b33 (b34+(IntKind.i64.wrap (n11-1)).toNat) [Qz n29] fun w35=>Qn y8 b10 (IntKind.i64.wrap (n11-1)) w35) (Qn y1 b3 (IntKind.i64.wrap (n4+1)) w22)) (Qn y1 b3 (IntKind.i64.wrap (n4+1)) w12.drew)
theorem F35_ok(t0:Sl)(t1:Int)(t2:Int)(w:World)(R:RV)(h:Ql (α:=Int) (IntKind.i64.wrap (t1+1)) w fun y1 b3 n4 w5=>IfB (decide (n4<t2)) (Ql (α:=Int) n4 w5 fun y8 b10 n11 w12=>(F35j2 t0 t1 y1 b3 n4 y8 b10 n11 w12)) (R (Value.tuple #[]) w5)):Cw 35 #[Qy t0,Qz t1,Qz t2] w R:=
 ckF Try.func35 (nd (.loop [(6,oi)] (rg [6,7,10,48]) (nd (.node (nd (.loop [(7,oi)] (rg [7,7,16,48]) (.node (.node (.draw (sts [0,1,2,3,4,5,6,7,8,9,10,11,12] (.ac 13 [] (.st 14 .fin) .non))) .nil) (.node (.draw (sts [0,1,2,3,4,5,6,7,8,9,10,11,12,13,14] (.ac 15 [4,3,2] (.st 16 (.ac 17 [] .fin .non)) .non))) .nil)))) .nil)))) h (by kernel_rfl) (by kernel_rfl)
def F36j2(t0:Sl)(t1:Int)(R:RV)(y12:Nat->Int->World->Prop)(b14:Nat)(n15:Int)(w16:World):Prop:=IfB (decide (0<=n15)) (Qx t0.1 (IntKind.i64.wrap (t1+n15)) (t0.2:Int) fun b19 b20=>Qi w16.drew b19 (b20+(IntKind.i64.wrap (t1+n15)).toNat) fun n21=>Qx t0.1 t1 (t0.2:Int) fun b22 b23=>Qi w16.drew b22 (b23+t1.toNat) fun n24=>Qx t0.1 t1 (t0.2:Int) fun b25 b26=>#[Qz n21].size=1/\StoreP w16.drew b25 (b26+t1.toNat) [Qz n21] fun w27=>Qx t0.1 (IntKind.i64.wrap (t1+n15)) (t0.2:Int) fun b28 b29=>#[Qz n24].size=1/\StoreP w27 b28 (b29+(IntKind.i64.wrap (t1+n15)).toNat) [Qz n24] fun w30=>Cx 46 #[Qy t0,Qz 0,Qz n15,Qz t1] w30 fun v31 w32=>∃y33:Unit,v31=Value.tuple #[]/\Qn y12 b14 (IntKind.i64.wrap (n15-1)) w32) (R (Value.tuple #[]) w16)
def F36j1(t0:Sl)(t1:Int)(t2:Int)(R:RV)(y1:Nat->Int->World->Prop)(b3:Nat)(n4:Int)(w5:World):Prop:=IfB (decide (0<=n4)) (Cx 46 #[Qy t0,Qz n4,Qz (IntKind.i64.wrap (t2-t1)),Qz t1] w5 fun v8 w9=>∃y10:Unit,v8=Value.tuple #[]/\Qn y1 b3 (IntKind.i64.wrap (n4-1)) w9) (Ql (α:=Int) (IntKind.i64.wrap (IntKind.i64.wrap (t2-t1)-1)) w5 fun y12 b14 n15 w16=>(F36j2 t0 t1 R y12 b14 n15 w16))
theorem F36_ok(t0:Sl)(t1:Int)(t2:Int)(w:World)(R:RV)(h:¬(2:Int)=0/\Ql (α:=Int) (IntKind.i64.wrap ((IntKind.i64.wrap (IntKind.i64.wrap (t2-t1)-1)).tdiv 2)) w fun y1 b3 n4 w5=>(F36j1 t0 t1 t2 R y1 b3 n4 w5)):Cw 36 #[Qy t0,Qz t1,Qz t2] w R:=
 ckF Try.func36 (nd (nd (nd (.node (nd (.loop [(9,oi)] (rg [9,9,18,26]) .nil)) (nd (.loop [(10,oi)] (rg [10,10,29,55]) (nd (.node (.node (.draw (sts [0,1,2,3,4,5,6,7,8,9,10,11,12,13,14,15,16] (.ac 17 [5,4,3,2] (.st 18 (.ac 19 [] .fin .non)) .non))) .nil) .nil)))))))) h (by kernel_rfl) (by kernel_rfl)
def F37j2(t0:Sl)(t1:Int)(y7:Nat->Int->World->Prop)(b9:Nat)(n10:Int)(n18:Int)(w19:World):Prop:=Qx t0.1 (IntKind.i64.wrap (t1+n18)) (t0.2:Int) fun b22 b23=>Qi w19.drew b22 (b23+(IntKind.i64.wrap (t1+n18)).toNat) fun n24=>Qx t0.1 n10 (t0.2:Int) fun b25 b26=>Qi w19.drew b25 (b26+n10.toNat) fun n27=>Qx t0.1 n10 (t0.2:Int) fun b28 b29=>#[Qz n24].size=1/\StoreP w19.drew b28 (b29+n10.toNat) [Qz n24] fun w30=>Qx t0.1 (IntKind.i64.wrap (t1+n18)) (t0.2:Int) fun b31 b32=>#[Qz n27].size=1/\StoreP w30 b31 (b32+(IntKind.i64.wrap (t1+n18)).toNat) [Qz n27] fun w33=>Qn y7 b9 (IntKind.i64.wrap (n10+1)) w33
def F37j1(t0:Sl)(t1:Int)(t2:Int)(R:RV)(b1:Nat)(n6:Int)(y7:Nat->Int->World->Prop)(b9:Nat)(n10:Int)(w11:World):Prop:=¬(4:Int)=0/\IfB (decide (n10<=IntKind.i64.wrap (IntKind.i64.wrap (t1+IntKind.i64.wrap (IntKind.i64.wrap ((IntKind.i64.wrap (t2-t1)).tdiv 4)*2))+1))) (Cx 48 #[Value.pointer (some ⟨b1,0,none⟩)] w11 fun v14 w15=>∃n16:Int,v14=Value.int IntKind.u64 n16/\∃(y17:Int->World->Prop),IfB (decide (IntKind.i64.wrap (t2-t1)<=IntKind.i64.wrap (bitsI BinOp.and IntKind.u64 n16 (IntKind.u64.wrap (n6-1))))) (([]:List Nat)=[]/\y17 (IntKind.i64.wrap (IntKind.i64.wrap (bitsI BinOp.and IntKind.u64 n16 (IntKind.u64.wrap (n6-1)))-IntKind.i64.wrap (t2-t1))) w15) (([]:List Nat)=[]/\y17 (IntKind.i64.wrap (bitsI BinOp.and IntKind.u64 n16 (IntKind.u64.wrap (n6-1)))) w15)/\∀(n18:Int)(w19:World)(y20:Nat->Value),y17 n18 w19->(F37j2 t0 t1 y7 b9 n10 n18 w19)) (R (Value.tuple #[]) w11)
def F37(t0:Sl)(t1:Int)(t2:Int)(w:World)(R:RV):Prop:=IfB (decide (8<=IntKind.i64.wrap (t2-t1))) (AllocP w (Obj.cells #[Value.int IntKind.u64 0] 79) fun b1 w2=>#[Value.int IntKind.u64 (IntKind.u64.wrap (IntKind.i64.wrap (t2-t1)))].size=1/\StoreP w2 b1 0 [Value.int IntKind.u64 (IntKind.u64.wrap (IntKind.i64.wrap (t2-t1)))] fun w3=>Cx 47 #[Qz (IntKind.i64.wrap (t2-t1))] w3 fun v4 w5=>∃n6:Int,v4=Value.int IntKind.u64 n6/\¬(4:Int)=0/\Ql (α:=Int) (IntKind.i64.wrap (IntKind.i64.wrap (t1+IntKind.i64.wrap (IntKind.i64.wrap ((IntKind.i64.wrap (t2-t1)).tdiv 4)*2))-1)) w5 fun y7 b9 n10 w11=>(F37j1 t0 t1 t2 R b1 n6 y7 b9 n10 w11)) (R (Value.tuple #[]) w)
theorem F37_ok(t0:Sl)(t1:Int)(t2:Int)(w:World)(R:RV)(h:F37 t0 t1 t2 w R):Cw 37 #[Qy t0,Qz t1,Qz t2] w R:=
 ckF Try.func37 (nd (nd (.node (nd (nd (nd (.loop [(9,oi)] (rg [9,10,26,64]) (nd (.node (nd (.join [(10,oi)] (rg [10,10,41,46]) .nil (.draw (sts [0,1,2,3,4,5,6,7,8,9,10,11,12,13,14,15,16] (.ac 17 [5,4,3,2] (.st 18 (.ac 19 [] .fin .non)) .non))))) .nil)))))) .nil))) h (by kernel_rfl) (by kernel_rfl)
def F38j2(R:RV)(b1:Nat)(n21:Int)(w22:World):Prop:=Qi w22 b1 0 fun n25=>IfB (n25 == 0) (R (Value.tuple #[Qz n21,Qz 1]) w22) (IfB (n25 == 12) (R (Value.tuple #[Qz n21,Qz 2]) w22) (R (Value.tuple #[Qz n21,Qz 0]) w22))
theorem F38_ok(t0:Sl)(t1:Int)(t2:Int)(w:World)(R:RV)(h:AllocP w (Obj.cells #[Qz 0] 3) fun b1 w2=>¬(4:Int)=0/\¬(4:Int)=0/\¬(4:Int)=0/\∃(y3:Int->World->Prop),IfB (decide (8<=IntKind.i64.wrap (t2-t1))) (∃(y4:Int×Int×Int->World->Prop),IfB (decide (50<=IntKind.i64.wrap (t2-t1))) (Qw' 49 #[Qy t0,Qz (IntKind.i64.wrap (t1+IntKind.i64.wrap (IntKind.i64.wrap ((IntKind.i64.wrap (t2-t1)).tdiv 4)*1))),Value.pointer (some ⟨b1,0,none⟩)] w2 fun n7 w6=>Qw' 49 #[Qy t0,Qz (IntKind.i64.wrap (t1+IntKind.i64.wrap (IntKind.i64.wrap ((IntKind.i64.wrap (t2-t1)).tdiv 4)*2))),Value.pointer (some ⟨b1,0,none⟩)] w6 fun n10 w9=>Qw' 49 #[Qy t0,Qz (IntKind.i64.wrap (t1+IntKind.i64.wrap (IntKind.i64.wrap ((IntKind.i64.wrap (t2-t1)).tdiv 4)*3))),Value.pointer (some ⟨b1,0,none⟩)] w9 fun n13 w12=>([]:List Nat)=[]/\y4 (n7,n10,n13) w12) (([]:List Nat)=[]/\y4 (IntKind.i64.wrap (t1+IntKind.i64.wrap (IntKind.i64.wrap ((IntKind.i64.wrap (t2-t1)).tdiv 4)*1)),IntKind.i64.wrap (t1+IntKind.i64.wrap (IntKind.i64.wrap ((IntKind.i64.wrap (t2-t1)).tdiv 4)*2)),IntKind.i64.wrap (t1+IntKind.i64.wrap (IntKind.i64.wrap ((IntKind.i64.wrap (t2-t1)).tdiv 4)*3))) w2)/\∀(x14:Int×Int×Int)(w15:World)(y16:Nat->Value),y4 x14 w15->Qw' 50 #[Qy t0,Qz x14.1,Qz x14.snd.1,Qz x14.snd.2,Value.pointer (some ⟨b1,0,none⟩)] w15 fun n20 w19=>([]:List Nat)=[]/\y3 n20 w19) (([]:List Nat)=[]/\y3 (IntKind.i64.wrap (t1+IntKind.i64.wrap (IntKind.i64.wrap ((IntKind.i64.wrap (t2-t1)).tdiv 4)*2))) w2)/\∀(n21:Int)(w22:World)(y23:Nat->Value),y3 n21 w22->(F38j2 R b1 n21 w22)):Cw 38 #[Qy t0,Qz t1,Qz t2] w R:=
 ckF Try.func38 (nd (nd (nd (nd (nd (nd (.join [(11,oi)] (rg [10,12,31,48]) (nd (.node (.join [(10,oi),(11,oi),(12,oi)] (rg [10,12,33,43]) .nil .nil) .nil)) .nil))))))) h (by kernel_rfl) (by kernel_rfl)
def F39j1(t0:Sl)(R:RV)(y1:Nat->Int×Int->World->Prop)(b3:Nat)(x4:Int×Int)(w5:World):Prop:=IfB (decide (x4.fst<x4.snd)) (Qx t0.1 x4.2 (t0.2:Int) fun b8 b9=>Qi w5.drew b8 (b9+x4.2.toNat) fun n10=>Qx t0.1 x4.1 (t0.2:Int) fun b11 b12=>Qi w5.drew b11 (b12+x4.1.toNat) fun n13=>Qx t0.1 x4.1 (t0.2:Int) fun b14 b15=>#[Qz n10].size=1/\StoreP w5.drew b14 (b15+x4.1.toNat) [Qz n10] fun w16=>Qx t0.1 x4.2 (t0.2:Int) fun b17 b18=>#[Qz n13].size=1/\StoreP w16 b17 (b18+x4.2.toNat) [Qz n13] fun w19=>Qn y1 b3 (IntKind.i64.wrap (x4.1+1),IntKind.i64.wrap (x4.2-1)) w19) (R (Value.tuple #[]) w5)
theorem F39_ok(t0:Sl)(t1:Int)(t2:Int)(w:World)(R:RV)(h:Ql (α:=Int×Int) (t1,IntKind.i64.wrap (t2-1)) w fun y1 b3 x4 w5=>(F39j1 t0 R y1 b3 x4 w5)):Cw 39 #[Qy t0,Qz t1,Qz t2] w R:=
 ckF Try.func39 (nd (nd (.loop [(6,oi),(7,oi)] (rg [6,7,11,31]) (nd (.node (.draw (sts [0,1,2,3,4,5,6,7,8,9,10,11,12] (.ac 13 [3,2] (.st 14 (.ac 15 [] .fin .non)) .non))) .nil))))) h (by kernel_rfl) (by kernel_rfl)
def F40j2(t0:Sl)(t2:Int)(y8:Int->World->Prop)(y9:Nat->Int->World->Prop)(b11:Nat)(n12:Int)(w13:World):Prop:=IfB (decide (n12<t2)) (Qx t0.1 n12 (t0.2:Int) fun b16 b17=>Qi w13.drew b16 (b17+n12.toNat) fun n18=>Qx t0.1 (IntKind.i64.wrap (n12-1)) (t0.2:Int) fun b19 b20=>Qi w13.drew b19 (b20+(IntKind.i64.wrap (n12-1)).toNat) fun n21=>Qv' 41 #[Qz n18,Qz n21] w13.drew fun t24 w23=>IfB (!t24) (Qn y9 b11 (IntKind.i64.wrap (n12+1)) w23) (([]:List Nat)=[]/\y8 n12 w23)) (([]:List Nat)=[]/\y8 n12 w13.drew)
def F40j4(t0:Sl)(y42:Unit->World->Prop)(y43:Nat->Int->World->Prop)(b45:Nat)(n46:Int)(w47:World):Prop:=IfB (decide (1<=n46)) (Qx t0.1 n46 (t0.2:Int) fun b50 b51=>Qi w47.drew b50 (b51+n46.toNat) fun n52=>Qx t0.1 (IntKind.i64.wrap (n46-1)) (t0.2:Int) fun b53 b54=>Qi w47.drew b53 (b54+(IntKind.i64.wrap (n46-1)).toNat) fun n55=>Qv' 41 #[Qz n52,Qz n55] w47.drew fun t58 w57=>IfB (!t58) (([]:List Nat)=[]/\y42 PUnit.unit w57) (Qx t0.1 (IntKind.i64.wrap (n46-1)) (t0.2:Int) fun b59 b60=>Qi w57.drew b59 (b60+(IntKind.i64.wrap (n46-1)).toNat) fun n61=>Qx t0.1 n46 (t0.2:Int) fun b62 b63=>Qi w57.drew b62 (b63+n46.toNat) fun n64=>Qx t0.1 n46 (t0.2:Int) fun b65 b66=>#[Qz n61].size=1/\StoreP w57.drew b65 (b66+n46.toNat) [Qz n61] fun w67=>Qx t0.1 (IntKind.i64.wrap (n46-1)) (t0.2:Int) fun b68 b69=>#[Qz n64].size=1/\StoreP w67 b68 (b69+(IntKind.i64.wrap (n46-1)).toNat) [Qz n64] fun w70=>Qn y43 b45 (IntKind.i64.wrap (n46-1)) w70)) (([]:List Nat)=[]/\y42 PUnit.unit w47)
def F40j7(t0:Sl)(t2:Int)(y1:Nat->Int×Int->World->Prop)(b3:Nat)(x4:Int×Int)(n26:Int)(y81:Nat->Int->World->Prop)(b83:Nat)(n84:Int)(w85:World):Prop:=IfB (decide (n84<t2)) (Qx t0.1 n84 (t0.2:Int) fun b88 b89=>Qi w85.drew b88 (b89+n84.toNat) fun n90=>Qx t0.1 (IntKind.i64.wrap (n84-1)) (t0.2:Int) fun b91 b92=>Qi w85.drew b91 (b92+(IntKind.i64.wrap (n84-1)).toNat) fun n93=>Qv' 41 #[Qz n90,Qz n93] w85.drew fun t96 w95=>IfB (!t96) (Qn y1 b3 (n26,IntKind.i64.wrap (x4.2+1)) w95) (Qx t0.1 (IntKind.i64.wrap (n84-1)) (t0.2:Int) fun b98 b99=>Qi w95.drew b98 (b99+(IntKind.i64.wrap (n84-1)).toNat) fun n100=>Qx t0.1 n84 (t0.2:Int) fun b101 b102=>Qi w95.drew b101 (b102+n84.toNat) fun n103=>Qx t0.1 n84 (t0.2:Int) fun b104 b105=>#[Qz n100].size=1/\StoreP w95.drew b104 (b105+n84.toNat) [Qz n100] fun w106=>Qx t0.1 (IntKind.i64.wrap (n84-1)) (t0.2:Int) fun b107 b108=>#[Qz n103].size=1/\StoreP w106 b107 (b108+(IntKind.i64.wrap (n84-1)).toNat) [Qz n103] fun w109=>Qn y81 b83 (IntKind.i64.wrap (n84+1)) w109)) (Qn y1 b3 (n26,IntKind.i64.wrap (x4.2+1)) w85)
def F40j5(t0:Sl)(t2:Int)(y1:Nat->Int×Int->World->Prop)(b3:Nat)(x4:Int×Int)(n26:Int)(w73:World):Prop:=∃(y76:Bool->World->Prop),(([]:List Nat)=[]/\y76 (decide (2<=IntKind.i64.wrap (t2-n26))) w73)/\∀(t77:Bool)(w78:World)(y79:Nat->Value),y76 t77 w78->IfB t77 (Ql (α:=Int) (IntKind.i64.wrap (n26+1)) w78 fun y81 b83 n84 w85=>(F40j7 t0 t2 y1 b3 x4 n26 y81 b83 n84 w85)) (Qn y1 b3 (n26,IntKind.i64.wrap (x4.2+1)) w78)
def F40j3(t0:Sl)(t1:Int)(t2:Int)(R:RV)(y1:Nat->Int×Int->World->Prop)(b3:Nat)(x4:Int×Int)(n26:Int)(w27:World):Prop:=IfB (n26 == t2) (R (Value.bool true) w27) (IfB (decide (IntKind.i64.wrap (t2-t1)<50)) (R (Value.bool false) w27) (Qx t0.1 (IntKind.i64.wrap (n26-1)) (t0.2:Int) fun b30 b31=>Qi w27.drew b30 (b31+(IntKind.i64.wrap (n26-1)).toNat) fun n32=>Qx t0.1 n26 (t0.2:Int) fun b33 b34=>Qi w27.drew b33 (b34+n26.toNat) fun n35=>Qx t0.1 n26 (t0.2:Int) fun b36 b37=>#[Qz n32].size=1/\StoreP w27.drew b36 (b37+n26.toNat) [Qz n32] fun w38=>Qx t0.1 (IntKind.i64.wrap (n26-1)) (t0.2:Int) fun b39 b40=>#[Qz n35].size=1/\StoreP w38 b39 (b40+(IntKind.i64.wrap (n26-1)).toNat) [Qz n35] fun w41=>∃(y42:Unit->World->Prop),IfB (decide (2<=IntKind.i64.wrap (n26-t1))) (Ql (α:=Int) (IntKind.i64.wrap (n26-1)) w41 fun y43 b45 n46 w47=>(F40j4 t0 y42 y43 b45 n46 w47)) (([]:List Nat)=[]/\y42 PUnit.unit w41)/\∀(y72:Unit)(w73:World)(y74:Nat->Value),y42 y72 w73->(F40j5 t0 t2 y1 b3 x4 n26 w73)))
theorem F40_ok(t0:Sl)(t1:Int)(t2:Int)(w:World)(R:RV)(h:Ql (α:=Int×Int) (IntKind.i64.wrap (t1+1),0) w fun y1 b3 x4 w5=>IfB (decide (x4.snd<5)) (∃(y8:Int->World->Prop),(Ql (α:=Int) x4.1 w5 fun y9 b11 n12 w13=>(F40j2 t0 t2 y8 y9 b11 n12 w13))/\∀(n26:Int)(w27:World)(y28:Nat->Value),y8 n26 w27->(F40j3 t0 t1 t2 R y1 b3 x4 n26 w27)) (R (Value.bool false) w5)):Cw 40 #[Qy t0,Qz t1,Qz t2] w R:=
 ckF Try.func40 (nd (nd (.node (nd (.loop [(7,oi),(8,oi)] (rg [6,10,13,132]) (nd (.node (.join [(7,oi)] (rg [7,7,17,34]) (.loop [(7,oi)] (rg [7,7,17,34]) (.node (.node (.draw (sts [0,1,2,3,4,5,6,7,8,9,10,11,12] (.ac 13 [] (sts [14,15] .fin) .non))) .nil) .nil)) (nd (nd (.node (.draw (sts [0,1,2,3,4,5,6,7,8,9,10,11,12,13,14] (.ac 15 [4,3,2] (.st 16 (.ac 17 [] .fin .non)) .non))) (.join [] (rg [9,9,58,94]) (nd (.node (nd (.loop [(9,oi)] (rg [9,9,64,94]) (nd (.node (.node (.node (.draw (sts [0,1,2,3,4,5,6,7,8] (.ac 9 [] (.st 10 .fin) .non))) .nil) (.draw (sts [0,1,2,3,4,5,6,7,8,9,10,11,12,13,14] (.ac 15 [4,3,2] (.st 16 (.ac 17 [] .fin .non)) .non)))) .nil)))) .nil)) (.join [(98,ob)] [95,96,97,98] .nil (.node (nd (.loop [(10,oi)] (rg [10,10,101,132]) (nd (.node (.node (.node (.draw (sts [0,1,2,3,4,5,6,7,8] (.ac 9 [] (.st 10 .fin) .non))) .nil) (.draw (sts [0,1,2,3,4,5,6,7,8,9,10,11,12,13,14] (.ac 15 [4,3,2] (.st 16 (.ac 17 [] .fin .non)) .non)))) .nil)))) .nil))))))) .nil)))) .nil))) h (by kernel_rfl) (by kernel_rfl)
theorem F41_ok(t0:Int)(t1:Int)(w:World)(R:RV)(h:Cx 51 #[Qz t0] w fun v1 w2=>∃t3:Bool,v1=Value.bool t3/\IfB t3 (Qv' 51 #[Qz t1] w2 fun t6 w5=>IfB (!t6) (R (Value.bool true) w5) (R (Value.bool (decide (t0<t1))) w5)) (R (Value.bool (decide (t0<t1))) w2)):Cw 41 #[Qz t0,Qz t1] w R:=
 ckF Try.func41 .nil h (by kernel_rfl) (by kernel_rfl)
def F42j2(t0:Sl)(t1:Int)(x16:Int×Int)(y20:Int->World->Prop)(y21:Nat->Int->World->Prop)(b23:Nat)(n24:Int)(w25:World):Prop:=IfB (decide (n24<=x16.snd)) (Qx t0.1 t1 (t0.2:Int) fun b28 b29=>Qi w25.drew b28 (b29+t1.toNat) fun n30=>Qx t0.1 n24 (t0.2:Int) fun b31 b32=>Qi w25.drew b31 (b32+n24.toNat) fun n33=>Qv' 41 #[Qz n30,Qz n33] w25.drew fun t36 w35=>IfB (!t36) (Qn y21 b23 (IntKind.i64.wrap (n24+1)) w35) (([]:List Nat)=[]/\y20 n24 w35)) (([]:List Nat)=[]/\y20 n24 w25.drew)
def F42j4(t0:Sl)(t1:Int)(n38:Int)(y42:Int->World->Prop)(y43:Nat->Int->World->Prop)(b45:Nat)(n46:Int)(w47:World):Prop:=IfB (decide (n38<=n46)) (Qx t0.1 t1 (t0.2:Int) fun b50 b51=>Qi w47.drew b50 (b51+t1.toNat) fun n52=>Qx t0.1 n46 (t0.2:Int) fun b53 b54=>Qi w47.drew b53 (b54+n46.toNat) fun n55=>Qv' 41 #[Qz n52,Qz n55] w47.drew fun t58 w57=>IfB t58 (Qn y43 b45 (IntKind.i64.wrap (n46-1)) w57) (([]:List Nat)=[]/\y42 n46 w57)) (([]:List Nat)=[]/\y42 n46 w47.drew)
def F42j5(t0:Sl)(R:RV)(y13:Nat->Int×Int->World->Prop)(b15:Nat)(n38:Int)(n60:Int)(w61:World):Prop:=IfB (decide (n60<n38)) (R (Qz n38) w61) (Qx t0.1 n60 (t0.2:Int) fun b64 b65=>Qi w61.drew b64 (b65+n60.toNat) fun n66=>Qx t0.1 n38 (t0.2:Int) fun b67 b68=>Qi w61.drew b67 (b68+n38.toNat) fun n69=>Qx t0.1 n38 (t0.2:Int) fun b70 b71=>#[Qz n66].size=1/\StoreP w61.drew b70 (b71+n38.toNat) [Qz n66] fun w72=>Qx t0.1 n60 (t0.2:Int) fun b73 b74=>#[Qz n69].size=1/\StoreP w72 b73 (b74+n60.toNat) [Qz n69] fun w75=>Qn y13 b15 (IntKind.i64.wrap (n38+1),IntKind.i64.wrap (n60-1)) w75)
def F42j1(t0:Sl)(t1:Int)(R:RV)(y13:Nat->Int×Int->World->Prop)(b15:Nat)(x16:Int×Int)(w17:World):Prop:=∃(y20:Int->World->Prop),(Ql (α:=Int) x16.1 w17 fun y21 b23 n24 w25=>(F42j2 t0 t1 x16 y20 y21 b23 n24 w25))/\∀(n38:Int)(w39:World)(y40:Nat->Value),y20 n38 w39->∃(y42:Int->World->Prop),(Ql (α:=Int) x16.2 w39 fun y43 b45 n46 w47=>(F42j4 t0 t1 n38 y42 y43 b45 n46 w47))/\∀(n60:Int)(w61:World)(y62:Nat->Value),y42 n60 w61->(F42j5 t0 R y13 b15 n38 n60 w61)
theorem F42_ok(t0:Sl)(t1:Int)(t2:Int)(t3:Int)(w:World)(R:RV)(h:Qx t0.1 t3 (t0.2:Int) fun b1 b2=>∃n3:Int,w.drew.cell? ⟨b1,b2+t3.toNat,none⟩=some (Qz n3)/\Qx t0.1 t1 (t0.2:Int) fun b4 b5=>∃n6:Int,w.drew.cell? ⟨b4,b5+t1.toNat,none⟩=some (Qz n6)/\Qx t0.1 t1 (t0.2:Int) fun b7 b8=>#[Qz n3].size=1/\StoreP w.drew b7 (b8+t1.toNat) [Qz n3] fun w9=>Qx t0.1 t3 (t0.2:Int) fun b10 b11=>#[Qz n6].size=1/\StoreP w9 b10 (b11+t3.toNat) [Qz n6] fun w12=>Ql (α:=Int×Int) (IntKind.i64.wrap (t1+1),IntKind.i64.wrap (t2-1)) w12 fun y13 b15 x16 w17=>(F42j1 t0 t1 R y13 b15 x16 w17)):Cw 42 #[Qy t0,Qz t1,Qz t2,Qz t3] w R:=
 ckF Try.func42 (nd (.node (.draw (sts [0,1,2,3,4,5,6,7,8,9,10,11,12] (.ac 13 [3,2] (.st 14 (.ac 15 [] .fin .non)) .non))) (nd (.node (.loop [(9,oi),(10,oi)] (rg [9,10,29,82]) (.join [(9,oi)] (rg [9,9,29,45]) (.loop [(9,oi)] (rg [9,9,29,45]) (.node (.node (.draw (sts [0,1,2,3,4,5,6,7,8,9,10,11] (.ac 12 [] (sts [13,14] .fin) .non))) .nil) .nil)) (.join [(10,oi)] (rg [10,10,46,61]) (.loop [(10,oi)] (rg [10,10,46,61]) (.node (.node (.draw (sts [0,1,2,3,4,5,6,7,8,9,10,11] (.ac 12 [] (.st 13 .fin) .non))) .nil) .nil)) (nd (.node (.draw (sts [0,1,2,3,4,5,6,7,8,9,10,11,12] (.ac 13 [3,2] (.st 14 (.ac 15 [] .fin .non)) .non))) .nil))))) .nil)))) h (by kernel_rfl) (by kernel_rfl)
def F43k2(t0:Sl)(n92:Int)(w93:World)(t1:Int)(b91:Nat)(y89:Nat->Int->World->Prop)(y88:Int->World->Prop):Prop:=Qx t0.1 n92 (t0.2:Int) fun b96 b97=>Qi w93.drew b96 (b97+n92.toNat) fun n98=>Qx t0.1 t1 (t0.2:Int) fun b99 b100=>Qi w93.drew b99 (b100+t1.toNat) fun n101=>Qv' 41 #[Qz n98,Qz n101] w93.drew fun t104 w103=>IfB t104 (Qn y89 b91 (IntKind.i64.wrap (n92+1)) w103) (([]:List Nat)=[]/\y88 n92 w103)
def F43j1(t0:Sl)(t1:Int)(t2:Int)(y13:Int->World->Prop)(y14:Nat->Int->World->Prop)(b16:Nat)(n17:Int)(w18:World):Prop:=IfB (decide (n17<=IntKind.i64.wrap (t2-1))) (F43k2 t0 n17 w18 t1 b16 y14 y13) (([]:List Nat)=[]/\y13 n17 w18.drew)
def F43k1(t0:Sl)(n114:Int)(w115:World)(t1:Int)(b113:Nat)(y111:Nat->Int->World->Prop)(y110:Int->World->Prop):Prop:=Qx t0.1 n114 (t0.2:Int) fun b118 b119=>Qi w115.drew b118 (b119+n114.toNat) fun n120=>Qx t0.1 t1 (t0.2:Int) fun b121 b122=>Qi w115.drew b121 (b122+t1.toNat) fun n123=>Qv' 41 #[Qz n120,Qz n123] w115.drew fun t126 w125=>IfB (!t126) (Qn y111 b113 (IntKind.i64.wrap (n114-1)) w125) (([]:List Nat)=[]/\y110 n114 w125)
def F43j3(t0:Sl)(t1:Int)(n31:Int)(y35:Int->World->Prop)(y36:Nat->Int->World->Prop)(b38:Nat)(n39:Int)(w40:World):Prop:=IfB (decide (n31<=n39)) (F43k1 t0 n39 w40 t1 b38 y36 y35) (([]:List Nat)=[]/\y35 n39 w40.drew)
def F43j6(t0:Sl)(t1:Int)(x84:Int×Int)(y88:Int->World->Prop)(y89:Nat->Int->World->Prop)(b91:Nat)(n92:Int)(w93:World):Prop:=IfB (decide (n92<=x84.snd)) (F43k2 t0 n92 w93 t1 b91 y89 y88) (([]:List Nat)=[]/\y88 n92 w93.drew)
def F43j8(t0:Sl)(t1:Int)(n106:Int)(y110:Int->World->Prop)(y111:Nat->Int->World->Prop)(b113:Nat)(n114:Int)(w115:World):Prop:=IfB (decide (n106<=n114)) (F43k1 t0 n114 w115 t1 b113 y111 y110) (([]:List Nat)=[]/\y110 n114 w115.drew)
def F43j9(t0:Sl)(t1:Int)(R:RV)(y81:Nat->Int×Int->World->Prop)(b83:Nat)(n106:Int)(n128:Int)(w129:World):Prop:=IfB (decide (n128<n106)) (Qx t0.1 t1 (t0.2:Int) fun b132 b133=>Qi w129.drew b132 (b133+t1.toNat) fun n134=>Qx t0.1 n128 (t0.2:Int) fun b135 b136=>Qi w129.drew b135 (b136+n128.toNat) fun n137=>Qx t0.1 n128 (t0.2:Int) fun b138 b139=>#[Qz n134].size=1/\StoreP w129.drew b138 (b139+n128.toNat) [Qz n134] fun w140=>Qx t0.1 t1 (t0.2:Int) fun b141 b142=>#[Qz n137].size=1/\StoreP w140 b141 (b142+t1.toNat) [Qz n137] fun w143=>R (Value.tuple #[Qz n128,Value.bool false]) w143) (Qx t0.1 n128 (t0.2:Int) fun b144 b145=>Qi w129.drew b144 (b145+n128.toNat) fun n146=>Qx t0.1 n106 (t0.2:Int) fun b147 b148=>Qi w129.drew b147 (b148+n106.toNat) fun n149=>Qx t0.1 n106 (t0.2:Int) fun b150 b151=>#[Qz n146].size=1/\StoreP w129.drew b150 (b151+n106.toNat) [Qz n146] fun w152=>Qx t0.1 n128 (t0.2:Int) fun b153 b154=>#[Qz n149].size=1/\StoreP w152 b153 (b154+n128.toNat) [Qz n149] fun w155=>Qn y81 b83 (IntKind.i64.wrap (n106+1),IntKind.i64.wrap (n128-1)) w155)
def F43j5(t0:Sl)(t1:Int)(R:RV)(y81:Nat->Int×Int->World->Prop)(b83:Nat)(x84:Int×Int)(w85:World):Prop:=∃(y88:Int->World->Prop),(Ql (α:=Int) x84.1 w85 fun y89 b91 n92 w93=>(F43j6 t0 t1 x84 y88 y89 b91 n92 w93))/\∀(n106:Int)(w107:World)(y108:Nat->Value),y88 n106 w107->∃(y110:Int->World->Prop),(Ql (α:=Int) x84.2 w107 fun y111 b113 n114 w115=>(F43j8 t0 t1 n106 y110 y111 b113 n114 w115))/\∀(n128:Int)(w129:World)(y130:Nat->Value),y110 n128 w129->(F43j9 t0 t1 R y81 b83 n106 n128 w129)
def F43j4(t0:Sl)(t1:Int)(R:RV)(n31:Int)(n53:Int)(w54:World):Prop:=IfB (decide (n53<n31)) (Qx t0.1 t1 (t0.2:Int) fun b57 b58=>Qi w54.drew b57 (b58+t1.toNat) fun n59=>Qx t0.1 n53 (t0.2:Int) fun b60 b61=>Qi w54.drew b60 (b61+n53.toNat) fun n62=>Qx t0.1 n53 (t0.2:Int) fun b63 b64=>#[Qz n59].size=1/\StoreP w54.drew b63 (b64+n53.toNat) [Qz n59] fun w65=>Qx t0.1 t1 (t0.2:Int) fun b66 b67=>#[Qz n62].size=1/\StoreP w65 b66 (b67+t1.toNat) [Qz n62] fun w68=>R (Value.tuple #[Qz n53,Value.bool true]) w68) (Qx t0.1 n53 (t0.2:Int) fun b69 b70=>Qi w54.drew b69 (b70+n53.toNat) fun n71=>Qx t0.1 n31 (t0.2:Int) fun b72 b73=>Qi w54.drew b72 (b73+n31.toNat) fun n74=>Qx t0.1 n31 (t0.2:Int) fun b75 b76=>#[Qz n71].size=1/\StoreP w54.drew b75 (b76+n31.toNat) [Qz n71] fun w77=>Qx t0.1 n53 (t0.2:Int) fun b78 b79=>#[Qz n74].size=1/\StoreP w77 b78 (b79+n53.toNat) [Qz n74] fun w80=>Ql (α:=Int×Int) (IntKind.i64.wrap (n31+1),IntKind.i64.wrap (n53-1)) w80 fun y81 b83 x84 w85=>(F43j5 t0 t1 R y81 b83 x84 w85))
theorem F43_ok(t0:Sl)(t1:Int)(t2:Int)(t3:Int)(w:World)(R:RV)(h:Qx t0.1 t3 (t0.2:Int) fun b1 b2=>∃n3:Int,w.drew.cell? ⟨b1,b2+t3.toNat,none⟩=some (Qz n3)/\Qx t0.1 t1 (t0.2:Int) fun b4 b5=>∃n6:Int,w.drew.cell? ⟨b4,b5+t1.toNat,none⟩=some (Qz n6)/\Qx t0.1 t1 (t0.2:Int) fun b7 b8=>#[Qz n3].size=1/\StoreP w.drew b7 (b8+t1.toNat) [Qz n3] fun w9=>Qx t0.1 t3 (t0.2:Int) fun b10 b11=>#[Qz n6].size=1/\StoreP w9 b10 (b11+t3.toNat) [Qz n6] fun w12=>∃(y13:Int->World->Prop),(Ql (α:=Int) (IntKind.i64.wrap (t1+1)) w12 fun y14 b16 n17 w18=>(F43j1 t0 t1 t2 y13 y14 b16 n17 w18))/\∀(n31:Int)(w32:World)(y33:Nat->Value),y13 n31 w32->∃(y35:Int->World->Prop),(Ql (α:=Int) (IntKind.i64.wrap (t2-1)) w32 fun y36 b38 n39 w40=>(F43j3 t0 t1 n31 y35 y36 b38 n39 w40))/\∀(n53:Int)(w54:World)(y55:Nat->Value),y35 n53 w54->(F43j4 t0 t1 R n31 n53 w54)):Cw 43 #[Qy t0,Qz t1,Qz t2,Qz t3] w R:=
 ckF Try.func43 (nd (.node (.draw (sts [0,1,2,3,4,5,6,7,8,9,10,11,12] (.ac 13 [3,2] (.st 14 (.ac 15 [] .fin .non)) .non))) (nd (.join [(10,oi)] (rg [10,10,30,45]) (.loop [(10,oi)] (rg [10,10,30,45]) (.node (.node (.draw (sts [0,1,2,3,4,5,6,7,8,9,10,11] (.ac 12 [] (.st 13 .fin) .non))) .nil) .nil)) (.join [(11,oi)] (rg [11,11,46,62]) (.loop [(11,oi)] (rg [11,11,46,62]) (.node (.node (.draw (sts [0,1,2,3,4,5,6,7,8,9,10,11] (.ac 12 [] (sts [13,14] .fin) .non))) .nil) .nil)) (.node (nd (.node (.node (.draw (sts [0,1,2,3,4,5,6,7,8,9,10,11,12] (.ac 13 [3,2] (.st 14 (.ac 15 [] .fin .non)) .non))) .nil) .nil)) (.node (.draw (sts [0,1,2,3,4,5,6,7,8,9,10,11,12] (.ac 13 [3,2] (.st 14 (.ac 15 [] .fin .non)) .non))) (nd (nd (.node (.loop [(10,oi),(11,oi)] (rg [10,11,99,152]) (.join [(10,oi)] (rg [10,10,99,114]) (.loop [(10,oi)] (rg [10,10,99,114]) (.node (.node (.draw (sts [0,1,2,3,4,5,6,7,8,9,10,11] (.ac 12 [] (.st 13 .fin) .non))) .nil) .nil)) (.join [(11,oi)] (rg [11,11,115,131]) (.loop [(11,oi)] (rg [11,11,115,131]) (.node (.node (.draw (sts [0,1,2,3,4,5,6,7,8,9,10,11] (.ac 12 [] (sts [13,14] .fin) .non))) .nil) .nil)) (nd (.node (.draw (sts [0,1,2,3,4,5,6,7,8,9,10,11,12] (.ac 13 [3,2] (.st 14 (.ac 15 [] .fin .non)) .non))) .nil))))) (.node (.draw (sts [0,1,2,3,4,5,6,7,8,9,10,11,12] (.ac 13 [3,2] (.st 14 (.ac 15 [] .fin .non)) .non))) .nil))))))))))) h (by kernel_rfl) (by kernel_rfl)
def F45k8(t0:Int)(R:RV)(w:World):Prop:=(0:Int)<=8/\∃y1:UInt8,0<=IntKind.u8.wrap (((t0.fdiv (2^min (Int.toNat 32) IntKind.u64.bits)).fdiv (2^min (Int.toNat 16) IntKind.u64.bits)).fdiv (2^min (Int.toNat 8) IntKind.u64.bits))/\GxLSby0[(IntKind.u8.wrap (((t0.fdiv (2^min (Int.toNat 32) IntKind.u64.bits)).fdiv (2^min (Int.toNat 16) IntKind.u64.bits)).fdiv (2^min (Int.toNat 8) IntKind.u64.bits))).toNat]? =some y1/\R (Qz (IntKind.i64.wrap (IntKind.i64.wrap (IntKind.i64.wrap (32+16)+8)+IntKind.i64.wrap (y1.toNat:Int)))) w
def F45k5(t0:Int)(R:RV)(w:World):Prop:=∃y4:UInt8,0<=IntKind.u8.wrap ((t0.fdiv (2^min (Int.toNat 32) IntKind.u64.bits)).fdiv (2^min (Int.toNat 16) IntKind.u64.bits))/\GxLSby0[(IntKind.u8.wrap ((t0.fdiv (2^min (Int.toNat 32) IntKind.u64.bits)).fdiv (2^min (Int.toNat 16) IntKind.u64.bits))).toNat]? =some y4/\R (Qz (IntKind.i64.wrap (IntKind.i64.wrap (32+16)+IntKind.i64.wrap (y4.toNat:Int)))) w
def F45k6(t0:Int)(R:RV)(w:World):Prop:=(0:Int)<=8/\∃y7:UInt8,0<=IntKind.u8.wrap ((t0.fdiv (2^min (Int.toNat 32) IntKind.u64.bits)).fdiv (2^min (Int.toNat 8) IntKind.u64.bits))/\GxLSby0[(IntKind.u8.wrap ((t0.fdiv (2^min (Int.toNat 32) IntKind.u64.bits)).fdiv (2^min (Int.toNat 8) IntKind.u64.bits))).toNat]? =some y7/\R (Qz (IntKind.i64.wrap (IntKind.i64.wrap (32+8)+IntKind.i64.wrap (y7.toNat:Int)))) w
def F45k2(t0:Int)(R:RV)(w:World):Prop:=∃y10:UInt8,0<=IntKind.u8.wrap (t0.fdiv (2^min (Int.toNat 32) IntKind.u64.bits))/\GxLSby0[(IntKind.u8.wrap (t0.fdiv (2^min (Int.toNat 32) IntKind.u64.bits))).toNat]? =some y10/\R (Qz (IntKind.i64.wrap (32+IntKind.i64.wrap (y10.toNat:Int)))) w
def F45k7(t0:Int)(R:RV)(w:World):Prop:=(0:Int)<=8/\∃y13:UInt8,0<=IntKind.u8.wrap ((t0.fdiv (2^min (Int.toNat 16) IntKind.u64.bits)).fdiv (2^min (Int.toNat 8) IntKind.u64.bits))/\GxLSby0[(IntKind.u8.wrap ((t0.fdiv (2^min (Int.toNat 16) IntKind.u64.bits)).fdiv (2^min (Int.toNat 8) IntKind.u64.bits))).toNat]? =some y13/\R (Qz (IntKind.i64.wrap (IntKind.i64.wrap (IntKind.i64.wrap (0+16)+8)+IntKind.i64.wrap (y13.toNat:Int)))) w
def F45k3(t0:Int)(R:RV)(w:World):Prop:=∃y16:UInt8,0<=IntKind.u8.wrap (t0.fdiv (2^min (Int.toNat 16) IntKind.u64.bits))/\GxLSby0[(IntKind.u8.wrap (t0.fdiv (2^min (Int.toNat 16) IntKind.u64.bits))).toNat]? =some y16/\R (Qz (IntKind.i64.wrap (IntKind.i64.wrap (0+16)+IntKind.i64.wrap (y16.toNat:Int)))) w
def F45k4(t0:Int)(R:RV)(w:World):Prop:=(0:Int)<=8/\∃y19:UInt8,0<=IntKind.u8.wrap (t0.fdiv (2^min (Int.toNat 8) IntKind.u64.bits))/\GxLSby0[(IntKind.u8.wrap (t0.fdiv (2^min (Int.toNat 8) IntKind.u64.bits))).toNat]? =some y19/\R (Qz (IntKind.i64.wrap (IntKind.i64.wrap (0+8)+IntKind.i64.wrap (y19.toNat:Int)))) w
def F45k1(t0:Int)(R:RV)(w:World):Prop:=∃y22:UInt8,0<=IntKind.u8.wrap t0/\GxLSby0[(IntKind.u8.wrap t0).toNat]? =some y22/\R (Qz (IntKind.i64.wrap (0+IntKind.i64.wrap (y22.toNat:Int)))) w
theorem F45_ok(t0:Int)(w:World)(R:RV)(h:IfB (decide (4294967296<=t0)) ((0:Int)<=32/\IfB (decide (65536<=t0.fdiv (2^min (Int.toNat 32) IntKind.u64.bits))) ((0:Int)<=16/\IfB (decide (256<=(t0.fdiv (2^min (Int.toNat 32) IntKind.u64.bits)).fdiv (2^min (Int.toNat 16) IntKind.u64.bits))) (F45k8 t0 R w) (F45k5 t0 R w)) (IfB (decide (256<=t0.fdiv (2^min (Int.toNat 32) IntKind.u64.bits))) (F45k6 t0 R w) (F45k2 t0 R w))) (IfB (decide (65536<=t0)) ((0:Int)<=16/\IfB (decide (256<=t0.fdiv (2^min (Int.toNat 16) IntKind.u64.bits))) (F45k7 t0 R w) (F45k3 t0 R w)) (IfB (decide (256<=t0)) (F45k4 t0 R w) (F45k1 t0 R w)))):Cw 45 #[Value.int IntKind.u64 t0] w R:=
 ckF Try.func45 .nil h (by kernel_rfl) (by kernel_rfl)
def F46j2(t0:Sl)(t3:Int)(R:RV)(y1:Nat->Int->World->Prop)(b3:Nat)(n4:Int)(n18:Int)(w19:World):Prop:=Qx t0.1 (IntKind.i64.wrap (t3+n4)) (t0.2:Int) fun b22 b23=>Qi w19.drew b22 (b23+(IntKind.i64.wrap (t3+n4)).toNat) fun n24=>Qx t0.1 (IntKind.i64.wrap (t3+n18)) (t0.2:Int) fun b25 b26=>Qi w19.drew b25 (b26+(IntKind.i64.wrap (t3+n18)).toNat) fun n27=>Qv' 41 #[Qz n24,Qz n27] w19.drew fun t30 w29=>IfB (!t30) (R (Value.tuple #[]) w29) (Qx t0.1 (IntKind.i64.wrap (t3+n18)) (t0.2:Int) fun b31 b32=>Qi w29.drew b31 (b32+(IntKind.i64.wrap (t3+n18)).toNat) fun n33=>Qx t0.1 (IntKind.i64.wrap (t3+n4)) (t0.2:Int) fun b34 b35=>Qi w29.drew b34 (b35+(IntKind.i64.wrap (t3+n4)).toNat) fun n36=>Qx t0.1 (IntKind.i64.wrap (t3+n4)) (t0.2:Int) fun b37 b38=>#[Qz n33].size=1/\StoreP w29.drew b37 (b38+(IntKind.i64.wrap (t3+n4)).toNat) [Qz n33] fun w39=>Qx t0.1 (IntKind.i64.wrap (t3+n18)) (t0.2:Int) fun b40 b41=>#[Qz n36].size=1/\StoreP w39 b40 (b41+(IntKind.i64.wrap (t3+n18)).toNat) [Qz n36] fun w42=>Qn y1 b3 n18 w42)
def F46j1(t0:Sl)(t2:Int)(t3:Int)(R:RV)(y1:Nat->Int->World->Prop)(b3:Nat)(n4:Int)(w5:World):Prop:=IfB (decide (t2<=IntKind.i64.wrap (IntKind.i64.wrap (2*n4)+1))) (R (Value.tuple #[]) w5) (∃(y8:Int->World->Prop),IfB (decide (IntKind.i64.wrap (IntKind.i64.wrap (IntKind.i64.wrap (2*n4)+1)+1)<t2)) (Qx t0.1 (IntKind.i64.wrap (t3+IntKind.i64.wrap (IntKind.i64.wrap (2*n4)+1))) (t0.2:Int) fun b9 b10=>Qi w5.drew b9 (b10+(IntKind.i64.wrap (t3+IntKind.i64.wrap (IntKind.i64.wrap (2*n4)+1))).toNat) fun n11=>Qx t0.1 (IntKind.i64.wrap (IntKind.i64.wrap (t3+IntKind.i64.wrap (IntKind.i64.wrap (2*n4)+1))+1)) (t0.2:Int) fun b12 b13=>Qi w5.drew b12 (b13+(IntKind.i64.wrap (IntKind.i64.wrap (t3+IntKind.i64.wrap (IntKind.i64.wrap (2*n4)+1))+1)).toNat) fun n14=>Qv' 41 #[Qz n11,Qz n14] w5.drew fun t17 w16=>IfB t17 (([]:List Nat)=[]/\y8 (IntKind.i64.wrap (IntKind.i64.wrap (IntKind.i64.wrap (2*n4)+1)+1)) w16) (([]:List Nat)=[]/\y8 (IntKind.i64.wrap (IntKind.i64.wrap (2*n4)+1)) w16)) (([]:List Nat)=[]/\y8 (IntKind.i64.wrap (IntKind.i64.wrap (2*n4)+1)) w5.drew)/\∀(n18:Int)(w19:World)(y20:Nat->Value),y8 n18 w19->(F46j2 t0 t3 R y1 b3 n4 n18 w19))
theorem F46_ok(t0:Sl)(t1:Int)(t2:Int)(t3:Int)(w:World)(R:RV)(h:Ql (α:=Int) t1 w fun y1 b3 n4 w5=>(F46j1 t0 t2 t3 R y1 b3 n4 w5)):Cw 46 #[Qy t0,Qz t1,Qz t2,Qz t3] w R:=
 ckF Try.func46 (nd (.loop [(8,oi)] (rg [8,9,11,75]) (nd (nd (.join [(9,oi)] (rg [9,9,17,38]) (.node (.draw (sts [0,1,2,3,4,5,6,7,8,9,10,11,12,13,14,15,16,17] (.ac 18 [] (.st 19 .fin) .non))) .nil) (.node (.node (.draw (sts [0,1,2,3,4,5,6,7,8,9,10,11] (.ac 12 [] (.st 13 .fin) .non))) .nil) (.node (.draw (sts [0,1,2,3,4,5,6,7,8,9,10,11,12,13,14,15,16,17,18,19,20] (.ac 21 [7,6,5,4] (.st 22 (.ac 23 [] .fin .non)) .non))) .nil))))))) h (by kernel_rfl) (by kernel_rfl)
def F47(t0:Int)(w:World)(R:RV):Prop:=Cx 32 #[Value.int IntKind.u64 (IntKind.u64.wrap t0)] w fun v1 w2=>∃n3:Int,v1=Qz n3/\0<=n3/\R (Value.int IntKind.u64 (IntKind.u64.wrap (1*2^min n3.toNat IntKind.u64.bits))) w2
theorem F47_ok(t0:Int)(w:World)(R:RV)(h:F47 t0 w R):Cw 47 #[Qz t0] w R:=
 ckF Try.func47 .nil h (by kernel_rfl) (by kernel_rfl)
theorem F48_ok(t0:Option Addr)(w:World)(R:RV)(h:∃b1:Nat,∃b2:Nat,t0=some ⟨b1,b2,none⟩/\∃n3:Int,w.drew.cell? ⟨b1,b2,none⟩=some (Value.int IntKind.u64 n3)/\∃b4:Nat,∃b5:Nat,t0=some ⟨b4,b5,none⟩/\∃n6:Int,w.drew.cell? ⟨b4,b5,none⟩=some (Value.int IntKind.u64 n6)/\(0:Int)<=13/\∃b7:Nat,∃b8:Nat,t0=some ⟨b7,b8,none⟩/\#[Value.int IntKind.u64 (bitsI BinOp.xor IntKind.u64 n3 (IntKind.u64.wrap (n6*2^min (Int.toNat 13) IntKind.u64.bits)))].size=1/\StoreP w.drew b7 b8 [Value.int IntKind.u64 (bitsI BinOp.xor IntKind.u64 n3 (IntKind.u64.wrap (n6*2^min (Int.toNat 13) IntKind.u64.bits)))] fun w9=>∃b10:Nat,∃b11:Nat,t0=some ⟨b10,b11,none⟩/\∃n12:Int,w9.drew.cell? ⟨b10,b11,none⟩=some (Value.int IntKind.u64 n12)/\∃b13:Nat,∃b14:Nat,t0=some ⟨b13,b14,none⟩/\∃n15:Int,w9.drew.cell? ⟨b13,b14,none⟩=some (Value.int IntKind.u64 n15)/\(0:Int)<=7/\∃b16:Nat,∃b17:Nat,t0=some ⟨b16,b17,none⟩/\#[Value.int IntKind.u64 (bitsI BinOp.xor IntKind.u64 n12 (n15.fdiv (2^min (Int.toNat 7) IntKind.u64.bits)))].size=1/\StoreP w9.drew b16 b17 [Value.int IntKind.u64 (bitsI BinOp.xor IntKind.u64 n12 (n15.fdiv (2^min (Int.toNat 7) IntKind.u64.bits)))] fun w18=>∃b19:Nat,∃b20:Nat,t0=some ⟨b19,b20,none⟩/\∃n21:Int,w18.drew.cell? ⟨b19,b20,none⟩=some (Value.int IntKind.u64 n21)/\∃b22:Nat,∃b23:Nat,t0=some ⟨b22,b23,none⟩/\∃n24:Int,w18.drew.cell? ⟨b22,b23,none⟩=some (Value.int IntKind.u64 n24)/\(0:Int)<=17/\∃b25:Nat,∃b26:Nat,t0=some ⟨b25,b26,none⟩/\#[Value.int IntKind.u64 (bitsI BinOp.xor IntKind.u64 n21 (IntKind.u64.wrap (n24*2^min (Int.toNat 17) IntKind.u64.bits)))].size=1/\StoreP w18.drew b25 b26 [Value.int IntKind.u64 (bitsI BinOp.xor IntKind.u64 n21 (IntKind.u64.wrap (n24*2^min (Int.toNat 17) IntKind.u64.bits)))] fun w27=>∃b28:Nat,∃b29:Nat,t0=some ⟨b28,b29,none⟩/\∃n30:Int,w27.cell? ⟨b28,b29,none⟩=some (Value.int IntKind.u64 n30)/\R (Value.int IntKind.u64 n30) w27):Cw 48 #[Value.pointer t0] w R:=
 ckF Try.func48 (nd (.node (.draw (sts [0,1,2,3,4,5,6,7,8] (.ac 9 [] .fin .non))) (.node (.draw (sts [0,1,2,3,4,5,6,7,8] (.ac 9 [] .fin .non))) (.node (.draw (sts [0,1,2,3,4,5,6,7,8] (.ac 9 [] .fin .non))) .nil)))) h (by kernel_rfl) (by kernel_rfl)
def F49(t0:Sl)(t1:Int)(t2:Option Addr)(w:World)(R:RV):Prop:=Cx 50 #[Qy t0,Qz (IntKind.i64.wrap (t1-1)),Qz t1,Qz (IntKind.i64.wrap (t1+1)),Value.pointer t2] w fun v1 w2=>∃n3:Int,v1=Qz n3/\R (Qz n3) w2
theorem F49_ok(t0:Sl)(t1:Int)(t2:Option Addr)(w:World)(R:RV)(h:F49 t0 t1 t2 w R):Cw 49 #[Qy t0,Qz t1,Value.pointer t2] w R:=
 ckF Try.func49 .nil h (by kernel_rfl) (by kernel_rfl)
theorem F50_ok(t0:Sl)(t1:Int)(t2:Int)(t3:Int)(t4:Option Addr)(w:World)(R:RV)(h:Cx 52 #[Qy t0,Qz t1,Qz t2,Value.pointer t4] w fun v1 w2=>∃(x3:Int×Int),v1=Value.tuple #[Qz x3.1,Qz x3.2]/\Cx 52 #[Qy t0,Qz x3.2,Qz t3,Value.pointer t4] w2 fun v4 w5=>∃(x6:Int×Int),v4=Value.tuple #[Qz x6.1,Qz x6.2]/\Cx 52 #[Qy t0,Qz x3.1,Qz x6.1,Value.pointer t4] w5 fun v7 w8=>∃(x9:Int×Int),v7=Value.tuple #[Qz x9.1,Qz x9.2]/\R (Qz x9.2) w8):Cw 50 #[Qy t0,Qz t1,Qz t2,Qz t3,Value.pointer t4] w R:=
 ckF Try.func50 .nil h (by kernel_rfl) (by kernel_rfl)
theorem F51_ok(t0:Int)(w:World)(R:RV)(h:R (Value.bool (t0 != t0)) w):Cw 51 #[Qz t0] w R:=
 ckF Try.func51 .nil h (by kernel_rfl) (by kernel_rfl)
theorem F52_ok(t0:Sl)(t1:Int)(t2:Int)(t3:Option Addr)(w:World)(R:RV)(h:Qx t0.1 t2 (t0.2:Int) fun b1 b2=>∃n3:Int,w.drew.cell? ⟨b1,b2+t2.toNat,none⟩=some (Qz n3)/\Qx t0.1 t1 (t0.2:Int) fun b4 b5=>∃n6:Int,w.drew.cell? ⟨b4,b5+t1.toNat,none⟩=some (Qz n6)/\Cx 41 #[Qz n3,Qz n6] w.drew fun v7 w8=>∃t9:Bool,v7=Value.bool t9/\IfB t9 (∃b10:Nat,∃b11:Nat,t3=some ⟨b10,b11,none⟩/\Qi w8 b10 b11 fun n12=>∃b13:Nat,∃b14:Nat,t3=some ⟨b13,b14,none⟩/\#[Qz (IntKind.i64.wrap (n12+1))].size=1/\StoreP w8 b13 b14 [Qz (IntKind.i64.wrap (n12+1))] fun w15=>R (Value.tuple #[Qz t2,Qz t1]) w15) (R (Value.tuple #[Qz t1,Qz t2]) w8)):Cw 52 #[Qy t0,Qz t1,Qz t2,Value.pointer t3] w R:=
 ckF Try.func52 (nd (.node (.node (.draw (sts [0,1,2,3,4,5,6,7] (.ac 8 [] .fin .non))) .nil) .nil)) h (by kernel_rfl) (by kernel_rfl)
abbrev iv(n:Int):Value:=.int .i64 n
def g(xs:List Int)(i:Nat):Int:=xs.getD i 0
def swp(xs:List Int)(p q:Nat):List Int:=(xs.set p (g xs q)).set q (g xs p)
theorem swp_len(xs:List Int)(p q:Nat):(swp xs p q).length=xs.length:=by simp[swp]
theorem g_eq{xs:List Int}{i:Nat}(h:i<xs.length):xs[i]? =some (g xs i):=by
 unfold g;rw[List.getElem?_eq_getElem h,List.getElem_eq_getD (fallback:=0)]
theorem g_swp{xs:List Int}{p q:Nat}(hp:p<xs.length)(hq:q<xs.length)(i:Nat):g (swp xs p q) i=if i=q then g xs p else if i=p then g xs q else g xs i:=by
 show ((xs.set p (g xs q)).set q (g xs p)).getD i 0=_
 rw[List.getD_eq_getElem?_getD,List.getElem?_set,List.getElem?_set]
 by_cases h1:q=i
 ·subst h1;simp[hq]
 ·by_cases h2:p=i
  ·subst h2;simp[h1,hp,Ne.symm h1]
  ·simp only[if_neg h1,if_neg h2,if_neg (Ne.symm h1),if_neg (Ne.symm h2)]
   unfold g;rw[List.getD_eq_getElem?_getD]
theorem g_swq{xs:List Int}{p q:Nat}(hp:p<xs.length)(hq:q<xs.length):g (swp xs p q) q=g xs p:=by rw[g_swp hp hq,if_pos rfl]
theorem g_swl{xs:List Int}{p q:Nat}(hp:p<xs.length)(hq:q<xs.length):g (swp xs p q) p=g xs q:=by
 rw[g_swp hp hq]
 split
 ·rename_i h;rw[h]
 ·rw[if_pos rfl]
theorem g_swo{xs:List Int}{p q i:Nat}(hp:p<xs.length)(hq:q<xs.length)(h1:i≠p)(h2:i≠q):g (swp xs p q) i=g xs i:=by rw[g_swp hp hq,if_neg h2,if_neg h1]
theorem swp_perm{xs:List Int}{p q:Nat}(hp:p<xs.length)(hq:q<xs.length):(swp xs p q).Perm xs:=by
 have h:=(Array.swap_perm (xs:=xs.toArray) (i:=p) (j:=q) (by simpa using hp) (by simpa using hq)).toList
 have e:(xs.toArray.swap p q (by simpa using hp) (by simpa using hq)).toList=swp xs p q:=by
  apply List.ext_getElem?
  intro i
  simp only[Array.swap,swp,Array.toList_set,List.getElem_toArray,g,List.getD_eq_getElem?_getD,List.getElem?_eq_getElem hp,List.getElem?_eq_getElem hq,Option.getD_some]
 rw[e] at h
 exact h
inductive PI(a b:Nat)(xs:List Int):List Int->Prop
 | refl:PI a b xs xs
 | step {ys:List Int} {p q:Nat}:PI a b xs ys->a<=p->p<b->a<=q->q<b->b<=ys.length->PI a b xs (swp ys p q)
theorem PI.len{a b:Nat}{xs ys:List Int}(h:PI a b xs ys):ys.length=xs.length:=by
 induction h with
 | refl=>rfl
 | step _ _ _ _ _ _ ih=>rw[swp_len,ih]
theorem PI.perm{a b:Nat}{xs ys:List Int}(h:PI a b xs ys):ys.Perm xs:=by
 induction h with
 | refl=>exact .refl _
 | step _ _ h2 _ h4 h5 ih=>exact(swp_perm (by omega) (by omega)).trans ih
theorem PI.out{a b:Nat}{xs ys:List Int}(h:PI a b xs ys){i:Nat}(hi:i<a\/b<=i):g ys i=g xs i:=by
 induction h with
 | refl=>rfl
 | step _ h1 h2 h3 h4 h5 ih=>rw[g_swp (by omega) (by omega),if_neg (by omega),if_neg (by omega),ih]
theorem PI.all{a b:Nat}{xs ys:List Int}(h:PI a b xs ys){Q:Int->Prop}(hq:∀i,a<=i->i<b->Q (g xs i)):∀i,a<=i->i<b->Q (g ys i):=by
 induction h with
 | refl=>exact hq
 | step _ h1 h2 h3 h4 h5 ih=>
  intro i hi hi2
  rw[g_swp (by omega) (by omega)]
  split
  ·exact ih _ h1 h2
  ·split
   ·exact ih _ h3 h4
   ·exact ih _ hi hi2
theorem PI.mono{a b a' b':Nat}{xs ys:List Int}(h:PI a b xs ys)(ha:a'<=a)(hb:b<=b')(hl:b'<=xs.length):PI a' b' xs ys:=by
 induction h with
 | refl=>exact .refl
 | step h h1 h2 h3 h4 h5 ih=>exact .step ih (by omega) (by omega) (by omega) (by omega) (by rw[h.len];exact hl)
theorem PI.trans{a b:Nat}{xs ys zs:List Int}(h:PI a b xs ys)(k:PI a b ys zs):PI a b xs zs:=by
 induction k with
 | refl=>exact h
 | step _ h1 h2 h3 h4 h5 ih=>exact .step ih h1 h2 h3 h4 h5
def SO(xs:List Int)(a b:Nat):Prop:=∀i j,a<=i->i<j->j<b->g xs i<=g xs j
def Ar(s:Sl)(b:Nat)(H:Array Obj)(xs:List Int):Prop:=
 s.p=some ⟨b,0,none⟩/\s.n=xs.length/\xs.length<=1000000/\∃arr T,H[b]? =some (.cells arr T (0,0))/\arr.size=s.c/\s.n<=s.c/\arr.toList.take s.n=xs.map iv
abbrev CB(b:Nat)(w w':World):Prop:=Ch (fun i=>i=b) w w'
theorem Ar.own{s:Sl}{b:Nat}{w:World}{xs:List Int}(h:Ar s b w.heap xs):OwS w s 1 (xs.map iv):=by
 obtain⟨h1,h2,_,arr,T,h3,h4,h5,h6⟩:=h
 exact .inr ⟨b,arr,T,h1,h3,by omega,h5,by rw[Nat.mul_one];exact h6⟩
theorem Ar.of{s:Sl}{w:World}{xs:List Int}(h:OwS w s 1 (xs.map iv))(h0:0<xs.length)(hl:xs.length<=1000000):∃b,Ar s b w.heap xs/\blk s=[b]:=by
 have hn:=h.len1
 rw[List.length_map] at hn
 rcases h with ⟨rfl,h⟩|⟨b,arr,T,h1,h3,h4,h5,h6⟩
 ·rw[List.map_eq_nil_iff] at h;subst h;cases h0
 ·exact⟨b,⟨h1,hn,hl,arr,T,h3,by omega,h5,by rw[Nat.mul_one] at h6;exact h6⟩,by simp[blk,h1]⟩
theorem Ar.lt{s:Sl}{b:Nat}{w:World}{xs:List Int}(h:Ar s b w.heap xs):b<w.heap.size:=by
 obtain⟨_,_,_,_,_,h3,_⟩:=h
 exact heap_lt h3
theorem rd{s:Sl}{b:Nat}{w:World}{xs:List Int}(h:Ar s b w.heap xs){i:Int}(h0:0<=i)(h1:i<xs.length){K:Int->Prop}(k:K (g xs i.toNat)):
  ∃b1 b2:Nat,s.1=some ⟨b1,b2,none⟩/\((0:Int)<=i/\i<(s.2:Int))/\∃n,w.cell? ⟨b1,b2+i.toNat,none⟩=some (.int .i64 n)/\K n:=by
 obtain⟨e1,e2,_,arr,T,e3,e4,e5,e6⟩:=h
 refine⟨b,0,e1,⟨h0,by show i<(s.n:Int);omega⟩,_,?_,k⟩
 rw[cell_of e3,Nat.zero_add,<-Array.getElem?_toList]
 have:(arr.toList.take s.n)[i.toNat]? =some (iv (g xs i.toNat)):=by rw[e6,List.getElem?_map,g_eq (by omega)];rfl
 rw[List.getElem?_take,if_pos (by omega)] at this
 exact this
theorem wr{s:Sl}{b:Nat}{w:World}{xs:List Int}(h:Ar s b w.heap xs){i x:Int}(h0:0<=i)(h1:i<xs.length){K:World->Prop}(k:∀w',Ar s b w'.heap (xs.set i.toNat x)->CB b w w'->K w'):
  ∃b1 b2:Nat,s.1=some ⟨b1,b2,none⟩/\((0:Int)<=i/\i<(s.2:Int))/\#[Value.int .i64 x].size=1/\StoreP w b1 (b2+i.toNat) [.int .i64 x] K:=by
 obtain⟨e1,e2,el,arr,T,e3,e4,e5,e6⟩:=h
 refine⟨b,0,e1,⟨h0,by show i<(s.n:Int);omega⟩,rfl,store_one e3 (by omega) rfl fun w' hw=>k w' ⟨e1,by rw[List.length_set];exact e2,by rw[List.length_set];exact el,_,T,hw.new,by rw[Array.size_setIfInBounds];exact e4,e5,?_⟩ hw.ch⟩
 rw[Nat.zero_add,Array.toList_setIfInBounds,List.take_set,e6,List.map_set]
theorem sw{s:Sl}{b:Nat}{w:World}{xs:List Int}(h:Ar s b w.heap xs){p q:Int}(hp0:0<=p)(hp1:p<xs.length)(hq0:0<=q)(hq1:q<xs.length){K:World->Prop}(k:∀w',Ar s b w'.heap (swp xs p.toNat q.toNat)->CB b w w'->K w'):
  ∃b1 b2:Nat,s.1=some ⟨b1,b2,none⟩/\((0:Int)<=q/\q<(s.2:Int))/\∃n,w.cell? ⟨b1,b2+q.toNat,none⟩=some (.int .i64 n)/\
  ∃b3 b4:Nat,s.1=some ⟨b3,b4,none⟩/\((0:Int)<=p/\p<(s.2:Int))/\∃m,w.cell? ⟨b3,b4+p.toNat,none⟩=some (.int .i64 m)/\
  ∃b5 b6:Nat,s.1=some ⟨b5,b6,none⟩/\((0:Int)<=p/\p<(s.2:Int))/\#[Value.int .i64 n].size=1/\StoreP w b5 (b6+p.toNat) [.int .i64 n] fun w1=>
  ∃b7 b8:Nat,s.1=some ⟨b7,b8,none⟩/\((0:Int)<=q/\q<(s.2:Int))/\#[Value.int .i64 m].size=1/\StoreP w1 b7 (b8+q.toNat) [.int .i64 m] K:=by
 refine rd h hq0 hq1 (rd h hp0 hp1 (wr h hp0 hp1 fun w1 h1 c1=>wr h1 hq0 (by rw[List.length_set];exact hq1) fun w2 h2 c2=>k w2 h2 (c1.trans c2)))
theorem c51(x:Int)(w:World):Cw 51 #[.int .i64 x] w fun v w'=>v=.bool false/\w=w':=
 F51_ok _ _ _ ⟨by simp,rfl⟩
theorem c41(x y:Int)(w:World):Cw 41 #[.int .i64 x,.int .i64 y] w fun v w'=>v=.bool (decide (x<y))/\w=w':=by
 refine F41_ok _ _ _ _ ((c51 x w).use ?_)
 rintro _ _ ⟨rfl,rfl⟩
 exact⟨false,rfl,IfB.no rfl ⟨rfl,rfl⟩⟩
theorem ls{s:Sl}{b:Nat}{w:World}{xs:List Int}(h:Ar s b w.heap xs){i j:Int}(hi0:0<=i)(hi1:i<xs.length)(hj0:0<=j)(hj1:j<xs.length){K:Bool->World->Prop}(k:K (decide (g xs i.toNat<g xs j.toNat)) w):
  ∃b1 b2:Nat,s.1=some ⟨b1,b2,none⟩/\((0:Int)<=i/\i<(s.2:Int))/\∃n,w.cell? ⟨b1,b2+i.toNat,none⟩=some (.int .i64 n)/\
  ∃b3 b4:Nat,s.1=some ⟨b3,b4,none⟩/\((0:Int)<=j/\j<(s.2:Int))/\∃m,w.cell? ⟨b3,b4+j.toNat,none⟩=some (.int .i64 m)/\
  Cx 41 #[.int .i64 n,.int .i64 m] w fun v w'=>∃t,v=.bool t/\K t w':=by
 refine rd h hi0 hi1 (rd h hj0 hj1 ((c41 _ _ w).use ?_))
 rintro _ _ ⟨rfl,rfl⟩
 exact⟨_,rfl,k⟩
theorem wp1{i:Nat}(h:i<=1000000000000):IntKind.i64.wrap ((i:Int)+(1:Int))=((i+1:Nat):Int):=by rw[wrap_of (by omega) (by omega)];rfl
theorem wm1{i:Nat}(h0:1<=i)(h:i<=1000000000000):IntKind.i64.wrap ((i:Int)-(1:Int))=((i-1:Nat):Int):=by rw[wrap_of (by omega) (by omega)];omega
theorem wad{i j:Nat}(h:i+j<=1000000000000):IntKind.i64.wrap ((i:Int)+(j:Int))=((i+j:Nat):Int):=by rw[wrap_of (by omega) (by omega)];rfl
theorem wsb{i j:Nat}(h0:j<=i)(h:i<=1000000000000):IntKind.i64.wrap ((i:Int)-(j:Int))=((i-j:Nat):Int):=by rw[wrap_of (by omega) (by omega)];omega
theorem wdb{i:Nat}(h:i<=100000000000):IntKind.i64.wrap ((2:Int)*(i:Int))=((2*i:Nat):Int):=by rw[wrap_of (by omega) (by omega)];omega
theorem c35{s:Sl}{b:Nat}{w:World}{xs:List Int}{a e:Nat}(h:Ar s b w.heap xs)(he:e<=xs.length)(ha:a<=xs.length):
  Cw 35 #[slV s,iv a,iv e] w fun v w'=>v=.tuple #[]/\∃ys,PI a e xs ys/\SO ys a e/\Ar s b w'.heap ys/\CB b w w':=by
 have hl:xs.length<=1000000:=h.2.2.1
 refine F35_ok s a e w _ ⟨fun n x W=>∃(i:Nat)(ys:List Int),n=e+1-i/\x=(i:Int)/\a+1<=i/\(i=a+1\/i<=e)/\PI a e xs ys/\SO ys a i/\Ar s b W.heap ys/\CB b w W,⟨_,a+1,xs,rfl,wp1 (by omega),Nat.le_refl _,.inl rfl,.refl,fun i j _ _ _=>by omega,h,Ch.refl _ _⟩,?_⟩
 rintro n _ W _ ⟨i,ys,rfl,rfl,hai,hi,hP,hS,hA,hC⟩
 have hyl:=hP.len
 refine IfB.dec (fun hlt=>?_) (fun hge=>⟨rfl,ys,hP,fun p q h1 h2 h3=>hS p q h1 h2 (by omega),hA,hC⟩)
 have hie:i<e:=by omega
 refine⟨fun m x W'=>∃(j:Nat)(zs:List Int),j=m/\x=(j:Int)/\a<=j/\j<=i/\PI a e xs zs/\(∀p q,a<=p->p<q->q<=i->q≠j->g zs p<=g zs q)/\Ar s b W'.heap zs/\CB b w W',⟨_,i,ys,rfl,rfl,by omega,Nat.le_refl _,hP,fun p q h1 h2 h3 h4=>hS p q h1 h2 (by omega),hA,hC⟩,?_⟩
 rintro m _ W1 _ ⟨j,zs,rfl,rfl,haj,hji,hP1,hS1,hA1,hC1⟩
 have hzl:=hP1.len
 have hCd:CB b w W1.drew:=hC1.then (extDrew W1) fun _ _ h=>h.elim
 have done:(∀p,a<=p->p<j->g zs p<=g zs j)->∀W2:World,W2=W1.drew->([]:List Nat)=[]/\∃b38,b38<e+1-i/\∃(i':Nat)(ys:List Int),b38=e+1-i'/\IntKind.i64.wrap ((i:Int)+(1:Int))=(i':Int)/\a+1<=i'/\(i'=a+1\/i'<=e)/\PI a e xs ys/\SO ys a i'/\Ar s b W2.heap ys/\CB b w W2:=by
  rintro hj W2 rfl
  refine⟨rfl,e+1-(i+1),by omega,i+1,zs,rfl,wp1 (by omega),by omega,.inr (by omega),hP1,fun p q h1 h2 h3=>?_,hA1,hCd⟩
  by_cases hq:q=j
  ·subst hq;exact hj p h1 h2
  ·exact hS1 p q h1 h2 (by omega) hq
 unfold F35j2
 refine IfB.dec (fun hlt2=>?_) (fun hge2=>done (fun p h1 h2=>by omega) _ rfl)
 have hj:a<j:=by omega
 have hw:=wm1 (i:=j) (by omega) (by omega)
 rw[hw]
 refine ls (w:=W1.drew) hA1 (by omega) (by omega) (by omega) (by omega) (IfB.dec (fun hl1=>?_) (fun hl1=>done (fun p h1 h2=>?_) _ rfl))
 ·rw[Int.toNat_natCast,Int.toNat_natCast] at hl1
  refine sw (w:=W1.drew.drew) hA1 (by omega) (by omega) (by omega) (by omega) fun W3 hA3 hC3=>⟨rfl,j-1,by omega,j-1,_,rfl,rfl,by omega,by omega,.step hP1 (p:=j) (q:=j-1) (by omega) (by omega) (by omega) (by omega) (by omega),?_,hA3,(hCd.then (extDrew _) fun _ _ h=>h.elim).trans hC3⟩
  intro p q h1 h2 h3 h4
  rw[g_swp (by omega) (by omega),g_swp (by omega) (by omega)]
  have A1:=hS1 p (j-1) h1
  have A2:=hS1 p q h1 h2 h3
  have A3:=hS1 j q (by omega)
  have A4:=hS1 (j-1) q (by omega)
  split<;>split<;>(try split)<;>(try split)<;>first|omega|skip
 ·rw[Int.toNat_natCast,Int.toNat_natCast] at hl1
  have:=hS1 p (j-1) h1
  by_cases hp:p=j-1
  ·subst hp;omega
  ·have:=this (by omega) (by omega) (by omega)
   omega
def HpAt(xs:List Int)(f hi k:Nat):Prop:=∀c,c=2*k+1\/c=2*k+2->c<hi->g xs (f+c)<=g xs (f+k)
theorem c46{s:Sl}{b:Nat}{w:World}{xs:List Int}{lo hi f:Nat}(h:Ar s b w.heap xs)(hl:f+hi<=xs.length)(hlo:lo<=1000000)(hh:∀k,lo<k->HpAt xs f hi k):
  Cw 46 #[slV s,iv lo,iv hi,iv f] w fun v w'=>v=.tuple #[]/\∃ys,PI f (f+hi) xs ys/\(∀k,lo<=k->HpAt ys f hi k)/\Ar s b w'.heap ys/\CB b w w':=by
 have hll:xs.length<=1000000:=h.2.2.1
 refine F46_ok s lo hi f w _ ⟨fun n x W=>∃(r:Nat)(ys:List Int),n=hi-r/\x=(r:Int)/\lo<=r/\(r=lo\/r<hi)/\PI f (f+hi) xs ys/\(∀k,lo<=k->k≠r->HpAt ys f hi k)/\
  (∀k,lo<=k->r=2*k+1\/r=2*k+2->∀c,c=2*r+1\/c=2*r+2->c<hi->g ys (f+c)<=g ys (f+k))/\Ar s b W.heap ys/\CB b w W,⟨_,lo,xs,rfl,rfl,Nat.le_refl _,.inl rfl,.refl,fun k h1 h2=>hh k (by omega),fun k h1 h2=>by omega,h,Ch.refl _ _⟩,?_⟩
 rintro n _ W _ ⟨r,ys,rfl,rfl,hlr,hr,hP,hH,hG,hA,hC⟩
 have hyl:=hP.len
 unfold F46j1
 rw[wdb (by omega),wp1 (by omega)]
 refine IfB.dec (fun hge=>⟨rfl,ys,hP,fun k hk=>?_,hA,hC⟩) (fun hlt=>?_)
 ·by_cases hkr:k=r
  ·subst hkr;intro c hc1 hc2;omega
  ·exact hH k hk hkr
 have hc1:2*r+1<hi:=by omega
 rw[wp1 (by omega),wad (by omega),wp1 (by omega)]
 have hCd:CB b w W.drew:=hC.then (extDrew W) fun _ _ h=>h.elim
 refine⟨fun x W'=>∃c:Nat,x=(c:Int)/\(c=2*r+1\/c=2*r+2)/\c<hi/\(∀d,d=2*r+1\/d=2*r+2->d<hi->g ys (f+d)<=g ys (f+c))/\W'=W.drew,?_,?_⟩
 ·refine IfB.dec (fun h2=>?_) (fun h2=>⟨rfl,2*r+1,rfl,.inl rfl,hc1,fun d hd1 hd2=>?_,rfl⟩)
  ·refine ls (w:=W.drew) hA (by omega) (by omega) (by omega) (by omega) (IfB.dec (fun hl1=>⟨rfl,2*r+1+1,rfl,.inr rfl,by omega,fun d hd1 hd2=>?_,rfl⟩) (fun hl1=>⟨rfl,2*r+1,rfl,.inl rfl,hc1,fun d hd1 hd2=>?_,rfl⟩))
   ·rw[Int.toNat_natCast,Int.toNat_natCast] at hl1
    rcases hd1 with rfl|rfl
    ·rw[show f+(2*r+1+1)=f+(2*r+1)+1 by omega];omega
    ·exact Int.le_refl _
   ·rw[Int.toNat_natCast,Int.toNat_natCast] at hl1
    rcases hd1 with rfl|rfl
    ·exact Int.le_refl _
    ·rw[show f+(2*r+2)=f+(2*r+1)+1 by omega];omega
  ·have:d=2*r+1:=by omega
   subst this;exact Int.le_refl _
 rintro _ _ _ ⟨c,rfl,hc2,hc3,hc4,rfl⟩
 unfold F46j2
 rw[wad (by omega),wad (by omega)]
 have hCd2:CB b w W.drew.drew:=hCd.then (extDrew _) fun _ _ h=>h.elim
 have hCd3:CB b w W.drew.drew.drew:=hCd2.then (extDrew _) fun _ _ h=>h.elim
 refine ls (w:=W.drew.drew) hA (by omega) (by omega) (by omega) (by omega) (IfB.intro (fun hl1=>⟨rfl,ys,hP,fun k hk=>?_,hA,hCd2⟩) fun hl1=>?_)
 ·simp only[Int.toNat_natCast,Bool.not_eq_true',decide_eq_false_iff_not] at hl1
  by_cases hkr:k=r
  ·subst hkr
   intro d hd1 hd2
   have:=hc4 d hd1 hd2
   omega
  ·exact hH k hk hkr
 ·simp only[Int.toNat_natCast,Bool.not_eq_false',decide_eq_true_eq] at hl1
  refine sw (w:=W.drew.drew.drew) hA (by omega) (by omega) (by omega) (by omega) fun W3 hA3 hC3=>⟨rfl,hi-c,by omega,c,_,rfl,rfl,by omega,.inr hc3,.step hP (p:=f+r) (q:=f+c) (by omega) (by omega) (by omega) (by omega) (by omega),?_,?_,hA3,hCd3.trans hC3⟩
  ·intro k hk hkc d hd1 hd2
   by_cases hkr:k=r
   ·subst hkr
    rw[g_swl (by omega) (by omega)]
    by_cases hdc:d=c
    ·subst hdc;rw[g_swq (by omega) (by omega)];omega
    ·rw[g_swo (by omega) (by omega) (by omega) (by omega)];exact hc4 d hd1 hd2
   ·rw[g_swo (i:=f+k) (by omega) (by omega) (by omega) (by omega)]
    by_cases hdr:d=r
    ·subst hdr
     rw[g_swl (by omega) (by omega)]
     exact hG k hk hd1 c hc2 hc3
    ·rw[g_swo (by omega) (by omega) (by omega) (by omega)]
     exact hH k hk hkr d hd1 hd2
  ·intro k hk hck d hd1 hd2
   have hkr:k=r:=by omega
   subst hkr
   rw[g_swl (by omega) (by omega),g_swo (by omega) (by omega) (by omega) (by omega)]
   exact hH c (by omega) (by omega) d hd1 hd2
theorem heap_max{xs:List Int}{f hi:Nat}(h:∀k,HpAt xs f hi k)(p:Nat)(hp:p<hi):g xs (f+p)<=g xs f:=by
 induction p using Nat.strongRecOn with
 | _ p ih=>
  by_cases h0:p=0
  ·subst h0;exact Int.le_refl _
  ·have h1:=h ((p-1)/2) p (by omega) hp
   have h2:=ih ((p-1)/2) (by omega) (by omega)
   omega
theorem c36{s:Sl}{b:Nat}{w:World}{xs:List Int}{a e:Nat}(h:Ar s b w.heap xs)(he:e<=xs.length)(ha:a<=e):
  Cw 36 #[slV s,iv a,iv e] w fun v w'=>v=.tuple #[]/\∃ys,PI a e xs ys/\SO ys a e/\Ar s b w'.heap ys/\CB b w w':=by
 have hl:xs.length<=1000000:=h.2.2.1
 refine F36_ok s a e w _ ⟨by decide,?_⟩
 have hea:a+(e-a)=e:=by omega
 rw[wsb ha (by omega)]
 generalize hhi:e-a=hi at hea
 refine⟨fun n x W=>∃(i:Nat)(ys:List Int),i=n/\x=(i:Int)-1/\i<=hi+1/\PI a e xs ys/\(∀k,i<=k->HpAt ys a hi k)/\Ar s b W.heap ys/\CB b w W,⟨_,(if hi=0 then 1 else (hi-1)/2+1),xs,rfl,?_,?_,.refl,?_,h,Ch.refl _ _⟩,?_⟩
 ·rw[wrap_of (n:=(hi:Int)-1) (by omega) (by omega)]
  split
  ·rename_i h0;subst h0;decide
  ·rename_i h0
   rw[Int.tdiv_eq_ediv_of_nonneg (by omega),wrap_of (by omega) (by omega)]
   omega
 ·split<;>omega
 ·intro k hk c hc1 hc2
  split at hk<;>omega
 rintro n _ W _ ⟨i,ys,rfl,rfl,hi1,hP,hH,hA,hC⟩
 have hyl:=hP.len
 unfold F36j1
 refine IfB.dec (fun hge=>?_) (fun hlt=>?_)
 ·rw[show ((i:Int)-1)=((i-1:Nat):Int) by omega,wsb ha (by omega),hhi]
  refine(c46 hA (by omega) (by omega) fun k hk=>hH k (by omega)).use ?_
  rintro _ W2 ⟨rfl,zs,hP2,hH2,hA2,hC2⟩
  rw[hea] at hP2
  exact⟨(),rfl,rfl,i-1,by omega,i-1,zs,rfl,by rw[wrap_of (by omega) (by omega)],by omega,hP.trans hP2,hH2,hA2,hC.trans hC2⟩
 ·have hi0:i=0:=by omega
  subst hi0
  refine⟨fun n x W'=>∃(i:Nat)(zs:List Int),i=n/\x=(i:Int)-1/\i<=hi/\PI a e xs zs/\(∀k,HpAt zs a i k)/\(∀p q,i<=p->p<q->q<hi->g zs (a+p)<=g zs (a+q))/\(∀p q,p<i->i<=q->q<hi->g zs (a+p)<=g zs (a+q))/\Ar s b W'.heap zs/\CB b w W',⟨_,hi,ys,rfl,?_,Nat.le_refl _,hP,fun k=>hH k (Nat.zero_le _),fun p q _ _ _=>by omega,fun p q _ _ _=>by omega,hA,hC⟩,?_⟩
  ·rw[wsb ha (by omega),hhi,wrap_of (by omega) (by omega)]
  rintro n _ W1 _ ⟨i,zs,rfl,rfl,hi2,hP1,hH1,hS1,hX1,hA1,hC1⟩
  have hzl:=hP1.len
  unfold F36j2
  refine IfB.dec (fun hge=>?_) (fun hlt=>⟨rfl,zs,hP1,fun p q h1 h2 h3=>?_,hA1,hC1⟩)
  ·obtain⟨m,rfl⟩:∃m,i=m+1:=⟨i-1,by omega⟩
   rw[show (((m+1:Nat):Int)-1)=(m:Int) by omega,wad (by omega)]
   have hCd:CB b w W1.drew:=hC1.then (extDrew W1) fun _ _ h=>h.elim
   refine sw (w:=W1.drew) hA1 (by omega) (by omega) (by omega) (by omega) fun W2 hA2 hC2=>?_
   rw[Int.toNat_natCast,Int.toNat_natCast] at hA2
   have hP2:PI a e xs (swp zs a (a+m)):=.step hP1 (by omega) (by omega) (by omega) (by omega) (by omega)
   have g0:∀p,0<p->p<m->g (swp zs a (a+m)) (a+p)=g zs (a+p):=fun p h1 h2=>g_swo (by omega) (by omega) (by omega) (by omega)
   have gm:g (swp zs a (a+m)) (a+m)=g zs a:=g_swq (by omega) (by omega)
   have gz:g (swp zs a (a+m)) a=g zs (a+m):=g_swl (by omega) (by omega)
   have gb:∀q,m<q->g (swp zs a (a+m)) (a+q)=g zs (a+q):=fun q h1=>g_swo (by omega) (by omega) (by omega) (by omega)
   refine(c46 (lo:=0) hA2 (by rw[swp_len];omega) (by omega) fun k hk c hc1 hc2=>?_).use ?_
   ·rw[g0 k hk (by omega),g0 c (by omega) hc2]
    exact hH1 k c hc1 (by omega)
   rintro _ W3 ⟨rfl,us,hP3,hH3,hA3,hC3⟩
   have hmax:=heap_max hH1
   have hP3':PI a e (swp zs a (a+m)) us:=hP3.mono (Nat.le_refl _) (by omega) (by rw[swp_len];omega)
   have ub:∀q,m<=q->g us (a+q)=g (swp zs a (a+m)) (a+q):=fun q hq=>hP3.out (.inr (by omega))
   refine⟨(),rfl,rfl,m,by omega,m,us,rfl,by rw[wrap_of (by omega) (by omega)],by omega,hP2.trans hP3',fun k=>hH3 k (Nat.zero_le _),?_,?_,hA3,(hCd.trans hC2).trans hC3⟩
   ·intro p q h1 h2 h3
    rw[ub p h1,ub q (by omega),gb q (by omega)]
    by_cases hp:p=m
    ·subst hp;rw[gm]
     have:=hX1 0 q (by omega) (by omega) h3
     exact this
    ·rw[gb p (by omega)];exact hS1 p q (by omega) h2 h3
   ·intro p q h1 h2 h3
    have hQ:∀i,a<=i->i<a+m->(fun v=>v<=g us (a+q)) (g us i):=by
     refine hP3.all (Q:=fun v=>v<=g us (a+q)) fun i h4 h5=>?_
     show _<=g us (a+q)
     rw[ub q h2]
     obtain⟨t,rfl⟩:∃t,i=a+t:=⟨i-a,by omega⟩
     have h6:g (swp zs a (a+m)) (a+t)=g zs (a+t)\/g (swp zs a (a+m)) (a+t)=g zs (a+m):=by
      by_cases ht:t=0
      ·subst ht;exact .inr gz
      ·exact .inl (g0 t (by omega) (by omega))
     by_cases hq:q=m
     ·subst hq
      rw[gm]
      have h7:=hmax t (by omega)
      have h8:=hmax q (by omega)
      rcases h6 with h6|h6<;>omega
     ·rw[gb q (by omega)]
      have h7:=hX1 t q (by omega) (by omega) h3
      have h8:=hX1 m q (by omega) (by omega) h3
      rcases h6 with h6|h6<;>omega
    exact hQ _ (by omega) (by omega)
  ·obtain⟨p',rfl⟩:∃t,p=a+t:=⟨p-a,by omega⟩
   obtain⟨q',rfl⟩:∃t,q=a+t:=⟨q-a,by omega⟩
   exact hS1 p' q' (by omega) (by omega) (by omega)
theorem c39{s:Sl}{b:Nat}{w:World}{xs:List Int}{a e:Nat}(h:Ar s b w.heap xs)(he:e<=xs.length)(ha:a<e):
  Cw 39 #[slV s,iv a,iv e] w fun v w'=>v=.tuple #[]/\∃ys,PI a e xs ys/\Ar s b w'.heap ys/\CB b w w':=by
 have hl:xs.length<=1000000:=h.2.2.1
 refine F39_ok s a e w _ ⟨fun n x W=>∃(i j:Nat)(ys:List Int),n=j/\x=((i:Int),(j:Int))/\a<=i/\j<e/\i<=j+1/\PI a e xs ys/\Ar s b W.heap ys/\CB b w W,⟨_,a,e-1,xs,rfl,by rw[wm1 (by omega) (by omega)],Nat.le_refl _,by omega,by omega,.refl,h,Ch.refl _ _⟩,?_⟩
 rintro n _ W _ ⟨i,j,ys,rfl,rfl,hai,hje,hij,hP,hA,hC⟩
 have hyl:=hP.len
 unfold F39j1
 refine IfB.dec (fun hlt=>?_) (fun hge=>⟨rfl,ys,hP,hA,hC⟩)
 have hlt:i<n:=by
  have:(i:Int)<(n:Int):=hlt
  omega
 have hCd:CB b w W.drew:=hC.then (extDrew W) fun _ _ h=>h.elim
 refine sw (w:=W.drew) hA (p:=(i:Int)) (q:=(n:Int)) (by omega) (by omega) (by omega) (by omega) fun W2 hA2 hC2=>?_
 rw[Int.toNat_natCast,Int.toNat_natCast] at hA2
 exact⟨rfl,n-1,by omega,i+1,n-1,_,rfl,by rw[<-wp1 (by omega),<-wm1 (by omega) (by omega)],by omega,by omega,by omega,.step hP (by omega) (by omega) (by omega) (by omega) (by omega),hA2,hCd.trans hC2⟩
theorem Ar.ch{F:Nat->Prop}{s:Sl}{b:Nat}{w w':World}{xs:List Int}(h:Ar s b w.heap xs)(hc:Ch F w w')(hF:¬F b):Ar s b w'.heap xs:=by
 obtain⟨e1,e2,e3,arr,T,e4,e5⟩:=h
 exact⟨e1,e2,e3,arr,T,hc.at e4 hF,e5⟩
def Ct(k:IntKind)(b1:Nat)(w:World):Prop:=∃T n,w.heap[b1]? =some (.cells #[.int k n] T (0,0))
theorem c52{s:Sl}{b b1:Nat}{w:World}{xs:List Int}{i j:Nat}(h:Ar s b w.heap xs)(hc:Ct .i64 b1 w)(hne:b1≠b)(hi:i<xs.length)(hj:j<xs.length):
  Cw 52 #[slV s,iv i,iv j,.pointer (some ⟨b1,0,none⟩)] w fun v w'=>∃x y:Nat,v=.tuple #[iv x,iv y]/\(x=i/\y=j\/x=j/\y=i)/\Ar s b w'.heap xs/\Ct .i64 b1 w'/\Ch (fun q=>q=b1) w w':=by
 have hd:Ch (fun q=>q=b1) w w.drew:=(extDrew w).mono fun _ _ h=>h.elim
 refine F52_ok s i j _ w _ (ls (w:=w.drew) h (by omega) (by omega) (by omega) (by omega) (IfB.intro (fun _=>?_) (fun _=>⟨i,j,rfl,.inl ⟨rfl,rfl⟩,h,hc,hd⟩)))
 obtain⟨T,n,hn⟩:=hc
 refine⟨b1,0,rfl,n,by rw[cell_of (w:=w.drew) hn];rfl,b1,0,rfl,rfl,store_one (w:=w.drew) hn (by simp) rfl fun w2 h2=>⟨j,i,rfl,.inr ⟨rfl,rfl⟩,?_,⟨T,_,h2.new⟩,hd.trans h2.ch⟩⟩
 exact Ar.ch (w:=w.drew) h h2.ch (Ne.symm hne)
theorem c50{s:Sl}{b b1:Nat}{w:World}{xs:List Int}{i j k:Nat}(h:Ar s b w.heap xs)(hc:Ct .i64 b1 w)(hne:b1≠b)(hi:i<xs.length)(hj:j<xs.length)(hk:k<xs.length):
  Cw 50 #[slV s,iv i,iv j,iv k,.pointer (some ⟨b1,0,none⟩)] w fun v w'=>∃x:Nat,v=iv x/\(x=i\/x=j\/x=k)/\Ar s b w'.heap xs/\Ct .i64 b1 w'/\Ch (fun q=>q=b1) w w':=by
 refine F50_ok s i j k _ w _ ((c52 h hc hne hi hj).use ?_)
 rintro _ w2 ⟨x1,y1,rfl,e1,h2,k2,l2⟩
 refine⟨((x1:Int),(y1:Int)),rfl,(c52 h2 k2 hne (by omega) hk).use ?_⟩
 rintro _ w3 ⟨x2,y2,rfl,e2,h3,k3,l3⟩
 refine⟨((x2:Int),(y2:Int)),rfl,(c52 h3 k3 hne (by omega) (by omega)).use ?_⟩
 rintro _ w4 ⟨x3,y3,rfl,e3,h4,k4,l4⟩
 exact⟨((x3:Int),(y3:Int)),rfl,y3,rfl,by omega,h4,k4,(l2.trans l3).trans l4⟩
theorem c49{s:Sl}{b b1:Nat}{w:World}{xs:List Int}{i:Nat}(h:Ar s b w.heap xs)(hc:Ct .i64 b1 w)(hne:b1≠b)(h0:0<i)(hi:i+1<xs.length):
  Cw 49 #[slV s,iv i,.pointer (some ⟨b1,0,none⟩)] w fun v w'=>∃x:Nat,v=iv x/\(i<=x+1/\x<=i+1)/\Ar s b w'.heap xs/\Ct .i64 b1 w'/\Ch (fun q=>q=b1) w w':=by
 have hl:=h.2.2.1
 refine F49_ok s i _ w _ ?_
 unfold F49
 rw[wm1 (by omega) (by omega),wp1 (by omega)]
 refine(c50 h hc hne (by omega) (by omega) hi).use ?_
 rintro _ w2 ⟨x,rfl,e,h2,k2,l2⟩
 exact⟨_,rfl,x,rfl,by omega,h2,k2,l2⟩
theorem wmul{i:Nat}{k:Int}{m:Nat}(hk:k=(m:Int))(hm:m<=4)(hi:i<=1000000):IntKind.i64.wrap ((i:Int)*k)=((i*m:Nat):Int):=by
 subst hk
 have:i*m<=4000000:=Nat.le_trans (Nat.mul_le_mul hi hm) (by decide)
 rw[<-Int.natCast_mul,wrap_of (by omega) (by omega)]
theorem c38{s:Sl}{b:Nat}{w:World}{xs:List Int}{a e:Nat}(h:Ar s b w.heap xs)(he:e<=xs.length)(ha:a+12<e):
  Cw 38 #[slV s,iv a,iv e] w fun v w'=>∃(p:Nat)(t:Int),v=.tuple #[iv p,iv t]/\(a<=p/\p<e)/\Ar s b w'.heap xs/\Ext w w':=by
 have hl:=h.2.2.1
 have hlt:=h.lt
 refine F38_ok s a e w _ ?_
 intro b1 w2 h2
 have e2:Ext w w2:=h2.ch _
 have p2:=h2.here
 have hA2:=h.ch e2 id
 have hc2:Ct .i64 b1 w2:=⟨_,_,h2.new⟩
 have hne:b1≠b:=by omega
 have hq:IntKind.i64.wrap ((IntKind.i64.wrap ((e:Int)-(a:Int))).tdiv (4:Int))=(((e-a)/4:Nat):Int):=by
  rw[wsb (by omega) (by omega),Int.tdiv_eq_ediv_of_nonneg (by omega),wrap_of (by omega) (by omega)];omega
 rw[hq,wmul (k:=(1:Int)) (m:=1) rfl (by omega) (by omega),wmul (k:=(2:Int)) (m:=2) rfl (by omega) (by omega),wmul (k:=(3:Int)) (m:=3) rfl (by omega) (by omega),wad (by omega),wad (by omega),wad (by omega),wsb (by omega) (by omega)]
 generalize hqq:(e-a)/4=q
 have hx:∀ {w':World},Ch (fun i=>i=b1) w2 w'->Ext w w':=fun hc=>e2.then hc fun i hi h=>by omega
 refine⟨by decide,by decide,by decide,fun x W=>∃p:Nat,x=(p:Int)/\(a<=p/\p<e)/\Ar s b W.heap xs/\Ct .i64 b1 W/\Ch (fun i=>i=b1) w2 W,?_,?_⟩
 ·refine IfB.yes (decide_eq_true (by omega)) ⟨fun x W=>∃i j k:Nat,x=((i:Int),(j:Int),(k:Int))/\(a<=i/\i<e)/\(a<=j/\j<e)/\(a<=k/\k<e)/\Ar s b W.heap xs/\Ct .i64 b1 W/\Ch (fun i=>i=b1) w2 W,?_,?_⟩
  ·refine IfB.dec (fun h50=>?_) (fun _=>⟨rfl,_,_,_,rfl,by omega,by omega,by omega,hA2,hc2,Ch.refl _ _⟩)
   have h50:50<=e-a:=by omega
   refine(c49 hA2 hc2 hne (by omega) (by omega)).use ?_
   rintro _ w6 ⟨i,rfl,hi,h6,k6,l6⟩
   refine⟨_,rfl,(c49 h6 k6 hne (by omega) (by omega)).use ?_⟩
   rintro _ w9 ⟨j,rfl,hj,h9,k9,l9⟩
   refine⟨_,rfl,(c49 h9 k9 hne (by omega) (by omega)).use ?_⟩
   rintro _ w12 ⟨k,rfl,hk,h12,k12,l12⟩
   exact⟨_,rfl,rfl,i,j,k,rfl,by omega,by omega,by omega,h12,k12,(l6.trans l9).trans l12⟩
  ·rintro _ w15 _ ⟨i,j,k,rfl,hi,hj,hk,h15,k15,l15⟩
   refine(c50 h15 k15 hne (by omega) (by omega) (by omega)).use ?_
   rintro _ w19 ⟨x,rfl,hx,h19,k19,l19⟩
   exact⟨_,rfl,rfl,x,rfl,by omega,h19,k19,l15.trans l19⟩
 ·rintro _ w22 _ ⟨p,rfl,hp,h22,⟨T,n,hn⟩,l22⟩
  refine⟨n,by rw[cell_of hn];rfl,IfB.intro (fun _=>⟨p,1,rfl,hp,h22,hx l22⟩) fun _=>IfB.intro (fun _=>⟨p,2,rfl,hp,h22,hx l22⟩) fun _=>⟨p,0,rfl,hp,h22,hx l22⟩⟩
structure Pt(a e:Nat)(xs ys:List Int)(v:Int)(Lo:Int->Prop)(i j:Nat):Prop where
 pi:PI a e xs ys
 len:e<=xs.length
 v:g ys a=v
 ai:a+1<=i
 ij:i<=j+1
 je:j+1<=e
 lo:∀k,a<k->k<i->Lo (g ys k)
 hi:∀k,j<k->k<e->¬Lo (g ys k)
theorem Pt.up{a e i j:Nat}{xs ys:List Int}{v:Int}{Lo:Int->Prop}(h:Pt a e xs ys v Lo i j)(hij:i<=j)(hl:Lo (g ys i)):Pt a e xs ys v Lo (i+1) j:=by
 have h1:=h.ai
 refine⟨h.pi,h.len,h.v,by omega,by omega,h.je,fun k h1 h2=>?_,h.hi⟩
 by_cases hk:k=i
 ·subst hk;exact hl
 ·exact h.lo k h1 (by omega)
theorem Pt.dn{a e i j:Nat}{xs ys:List Int}{v:Int}{Lo:Int->Prop}(h:Pt a e xs ys v Lo i j)(hij:i<=j)(hl:¬Lo (g ys j)):Pt a e xs ys v Lo i (j-1):=by
 have h1:=h.ai;have h2:=h.je
 refine⟨h.pi,h.len,h.v,h1,by omega,by omega,h.lo,fun k h1 h2=>?_⟩
 by_cases hk:k=j
 ·subst hk;exact hl
 ·exact h.hi k (by omega) h2
theorem Pt.sw{a e i j:Nat}{xs ys:List Int}{v:Int}{Lo:Int->Prop}(h:Pt a e xs ys v Lo i j)(hij:i<=j)(h1:¬Lo (g ys i))(h2:Lo (g ys j)):Pt a e xs (swp ys i j) v Lo (i+1) (j-1):=by
 have hne:i≠j:=fun e=>h1 (e ▸ h2)
 have hl:=h.pi.len;have h3:=h.len;have h4:=h.ai;have h5:=h.je
 refine⟨.step h.pi (by omega) (by omega) (by omega) (by omega) (by omega),h3,?_,by omega,by omega,by omega,fun k h6 h7=>?_,fun k h6 h7=>?_⟩
 ·rw[g_swo (by omega) (by omega) (by omega) (by omega)];exact h.v
 ·by_cases hk:k=i
  ·subst hk;rw[g_swl (by omega) (by omega)];exact h2
  ·rw[g_swo (by omega) (by omega) (by omega) (by omega)];exact h.lo k h6 (by omega)
 ·by_cases hk:k=j
  ·subst hk;rw[g_swq (by omega) (by omega)];exact h1
  ·rw[g_swo (by omega) (by omega) (by omega) (by omega)];exact h.hi k (by omega) h7
theorem upPart{s:Sl}{b a e i j:Nat}{w:World}{xs ys:List Int}{v:Int}{y:Int->World->Prop}(hP:Pt a e xs ys v (fun x=>x<v) i j)(hA:Ar s b w.heap ys)
  (hy:∀(i':Nat)(w':World),Pt a e xs ys v (fun x=>x<v) i' j->(j<i'\/¬g ys i'<v)->i<=i'->Ext w w'->y (i':Int) w'):
  ∃y14:Nat->Int->World->Prop,(∃b15,y14 b15 (i:Int) w)/\∀(b16:Nat)(n17:Int)(w18:World)(_:Nat->Value),y14 b16 n17 w18->IfB (decide (n17<=(j:Int))) (F43k2 s n17 w18 a b16 y14 y) (([]:List Nat)=[]/\y n17 w18.drew):=by
 refine⟨fun n x W=>∃i':Nat,n=j+1-i'/\x=(i':Int)/\i<=i'/\Pt a e xs ys v (fun x=>x<v) i' j/\Ext w W,⟨_,i,rfl,rfl,Nat.le_refl _,hP,Ch.refl _ _⟩,?_⟩
 rintro _ _ W _ ⟨i',rfl,rfl,hii,hP',hW⟩
 have hl:=hP'.pi.len;have h3:=hP'.len;have h4:=hP'.ai;have h5:=hP'.je;have h6:=hA.2.2.1
 have hd:=hW.trans (extDrew W)
 refine IfB.dec (fun hle=>?_) (fun hgt=>⟨rfl,hy i' _ hP' (.inl (by omega)) hii hd⟩)
 have hle:i'<=j:=by omega
 refine ls (w:=W.drew) (hA.ch hd id) (by omega) (by omega) (by omega) (by omega) (IfB.dec (fun hl1=>?_) (fun hl1=>⟨rfl,hy i' _ hP' (.inr ?_) hii hd⟩))
 ·rw[Int.toNat_natCast,Int.toNat_natCast,hP'.v] at hl1
  exact⟨rfl,_,by omega,i'+1,rfl,wp1 (by omega),by omega,hP'.up hle hl1,hd⟩
 ·rw[Int.toNat_natCast,Int.toNat_natCast,hP'.v] at hl1;exact hl1
theorem dnPart{s:Sl}{b a e i j:Nat}{w:World}{xs ys:List Int}{v:Int}{y:Int->World->Prop}(hP:Pt a e xs ys v (fun x=>x<v) i j)(hA:Ar s b w.heap ys)
  (hy:∀(j':Nat)(w':World),Pt a e xs ys v (fun x=>x<v) i j'->(j'<i\/g ys j'<v)->j'<=j->Ext w w'->y (j':Int) w'):
  ∃y14:Nat->Int->World->Prop,(∃b15,y14 b15 (j:Int) w)/\∀(b16:Nat)(n17:Int)(w18:World)(_:Nat->Value),y14 b16 n17 w18->IfB (decide ((i:Int)<=n17)) (F43k1 s n17 w18 a b16 y14 y) (([]:List Nat)=[]/\y n17 w18.drew):=by
 refine⟨fun n x W=>∃j':Nat,j'=n/\x=(j':Int)/\j'<=j/\Pt a e xs ys v (fun x=>x<v) i j'/\Ext w W,⟨_,j,rfl,rfl,Nat.le_refl _,hP,Ch.refl _ _⟩,?_⟩
 rintro _ _ W _ ⟨j',rfl,rfl,hjj,hP',hW⟩
 have hl:=hP'.pi.len;have h3:=hP'.len;have h4:=hP'.ai;have h5:=hP'.je;have h6:=hA.2.2.1
 have hd:=hW.trans (extDrew W)
 refine IfB.dec (fun hle=>?_) (fun hgt=>⟨rfl,hy j' _ hP' (.inl (by omega)) hjj hd⟩)
 have hle:i<=j':=by omega
 refine ls (w:=W.drew) (hA.ch hd id) (by omega) (by omega) (by omega) (by omega) (IfB.intro (fun hl1=>?_) (fun hl1=>⟨rfl,hy j' _ hP' (.inr ?_) hjj hd⟩))
 ·simp only[Int.toNat_natCast,hP'.v,Bool.not_eq_true',decide_eq_false_iff_not] at hl1
  exact⟨rfl,j'-1,by omega,j'-1,rfl,wm1 (by omega) (by omega),by omega,hP'.dn hle hl1,hd⟩
 ·simp only[Int.toNat_natCast,hP'.v,Bool.not_eq_false',decide_eq_true_eq] at hl1;exact hl1
theorem c43{s:Sl}{b:Nat}{w:World}{xs:List Int}{a e p:Nat}(h:Ar s b w.heap xs)(he:e<=xs.length)(hp:a<=p/\p<e):
  Cw 43 #[slV s,iv a,iv e,iv p] w fun v w'=>∃(m:Nat)(t:Bool),v=.tuple #[iv m,.bool t]/\(a<=m/\m<e)/\∃ys,PI a e xs ys/\(∀k,a<=k->k<m->g ys k<g ys m)/\(∀k,m<k->k<e->g ys m<=g ys k)/\Ar s b w'.heap ys/\CB b w w':=by
 have hl:=h.2.2.1
 refine F43_ok s a e p w _ ?_
 have hCd:CB b w w.drew:=(extDrew w).mono fun _ _ h=>h.elim
 refine sw (w:=w.drew) h (by omega) (by omega) (by omega) (by omega) fun w12 h12 C12=>?_
 rw[Int.toNat_natCast,Int.toNat_natCast] at h12
 have C12:=hCd.trans C12
 have hP0:Pt a e xs (swp xs a p) (g (swp xs a p) a) (fun x=>x<g (swp xs a p) a) (a+1) (e-1):=
  ⟨.step .refl (by omega) (by omega) (by omega) (by omega) he,he,rfl,by omega,by omega,by omega,fun k h1 h2=>by omega,fun k h1 h2=>by omega⟩
 generalize swp xs a p=ys0 at hP0 h12
 generalize g ys0 a=v at hP0
 have fin:∀ {ys:List Int}{j:Nat}{W:World}{t:Bool},Pt a e xs ys v (fun x=>x<v) (j+1) j->Ar s b W.heap ys->CB b w W->
   ∀W2:World,Ar s b W2.heap (swp ys j a)->CB b W W2->∃(m:Nat)(t':Bool),Value.tuple #[iv j,.bool t]=.tuple #[iv m,.bool t']/\(a<=m/\m<e)/\∃ys,PI a e xs ys/\(∀k,a<=k->k<m->g ys k<g ys m)/\(∀k,m<k->k<e->g ys m<=g ys k)/\Ar s b W2.heap ys/\CB b w W2:=by
  intro ys j W t hP hA hC W2 hA2 hC2
  have hyl:=hP.pi.len;have h4:=hP.ai;have h5:=hP.je
  have gj:g (swp ys j a) j=v:=by rw[g_swl (by omega) (by omega)];exact hP.v
  refine⟨j,t,rfl,by omega,_,.step hP.pi (by omega) (by omega) (by omega) (by omega) (by omega),fun k h1 h2=>?_,fun k h1 h2=>?_,hA2,hC.trans hC2⟩
  ·rw[gj]
   by_cases hk:k=a
   ·subst hk;rw[g_swq (by omega) (by omega)];exact hP.lo j (by omega) (by omega)
   ·rw[g_swo (by omega) (by omega) (by omega) (by omega)];exact hP.lo k (by omega) (by omega)
  ·rw[gj,g_swo (by omega) (by omega) (by omega) (by omega)]
   have:=hP.hi k h1 h2
   omega
 refine⟨fun x W=>∃i:Nat,x=(i:Int)/\Pt a e xs ys0 v (fun x=>x<v) i (e-1)/\(e-1<i\/¬g ys0 i<v)/\Ar s b W.heap ys0/\CB b w W,?_,?_⟩
 ·unfold F43j1
  rw[wp1 (by omega),wm1 (by omega) (by omega)]
  exact upPart hP0 h12 fun i' w' h1 h2 _ h3=>⟨i',rfl,h1,h2,h12.ch h3 id,C12.then h3 fun _ _ h=>h.elim⟩
 rintro _ W _ ⟨i,rfl,hP,hi,hA,hC⟩
 refine⟨fun x W'=>∃j:Nat,x=(j:Int)/\Pt a e xs ys0 v (fun x=>x<v) i j/\(j<i\/g ys0 j<v)/\(j<i\/¬g ys0 i<v)/\Ar s b W'.heap ys0/\CB b w W',?_,?_⟩
 ·unfold F43j3
  rw[wm1 (by omega) (by omega)]
  exact dnPart hP hA fun j' w' h1 h2 h3 h4=>⟨j',rfl,h1,h2,by omega,hA.ch h4 id,hC.then h4 fun _ _ h=>h.elim⟩
 rintro _ W1 _ ⟨j,rfl,hP1,hj1,hj2,hA1,hC1⟩
 have hyl:=hP1.pi.len;have h4:=hP1.ai;have h5:=hP1.je;have h6:=hP1.ij
 have hC1d:CB b w W1.drew:=hC1.then (extDrew W1) fun _ _ h=>h.elim
 unfold F43j4
 refine IfB.dec (fun hlt=>?_) (fun hge=>?_)
 ·have hij:i=j+1:=by omega
  subst hij
  refine sw (w:=W1.drew) hA1 (by omega) (by omega) (by omega) (by omega) fun W2 h2 C2=>?_
  rw[Int.toNat_natCast,Int.toNat_natCast] at h2
  exact fin (W:=W1.drew) hP1 hA1 hC1d W2 h2 C2
 ·have hij:i<=j:=by omega
  refine sw (w:=W1.drew) hA1 (by omega) (by omega) (by omega) (by omega) fun W2 h2 C2=>?_
  rw[Int.toNat_natCast,Int.toNat_natCast] at h2
  have hP2:=hP1.sw hij (by omega) (by omega)
  have C2:=hC1d.trans C2
  refine⟨fun n x W=>∃(i j:Nat)(ys:List Int),n=j+1-i/\x=((i:Int),(j:Int))/\Pt a e xs ys v (fun x=>x<v) i j/\Ar s b W.heap ys/\CB b w W,⟨_,i+1,j-1,_,rfl,by rw[wp1 (by omega),wm1 (by omega) (by omega)],hP2,h2,C2⟩,?_⟩
  rintro _ _ W3 _ ⟨i3,j3,ys3,rfl,rfl,hP3,hA3,hC3⟩
  unfold F43j5
  refine⟨fun x W=>∃i:Nat,x=(i:Int)/\i3<=i/\Pt a e xs ys3 v (fun x=>x<v) i j3/\(j3<i\/¬g ys3 i<v)/\Ar s b W.heap ys3/\CB b w W,?_,?_⟩
  ·exact upPart hP3 hA3 fun i' w' h1 h2 h3 h4=>⟨i',rfl,h3,h1,h2,hA3.ch h4 id,hC3.then h4 fun _ _ h=>h.elim⟩
  rintro _ W4 _ ⟨i4,rfl,hi34,hP4,hi4,hA4,hC4⟩
  refine⟨fun x W'=>∃j:Nat,x=(j:Int)/\j<=j3/\Pt a e xs ys3 v (fun x=>x<v) i4 j/\(j<i4\/g ys3 j<v)/\(j<i4\/¬g ys3 i4<v)/\Ar s b W'.heap ys3/\CB b w W',?_,?_⟩
  ·exact dnPart hP4 hA4 fun j' w' h1 h2 h3 h4=>⟨j',rfl,h3,h1,h2,by omega,hA4.ch h4 id,hC4.then h4 fun _ _ h=>h.elim⟩
  rintro _ W5 _ ⟨j5,rfl,hj5,hP5,hj51,hj52,hA5,hC5⟩
  have hyl:=hP5.pi.len;have h4:=hP5.ai;have h5:=hP5.je;have h6:=hP5.ij
  have hC5d:CB b w W5.drew:=hC5.then (extDrew W5) fun _ _ h=>h.elim
  unfold F43j9
  refine IfB.dec (fun hlt=>?_) (fun hge=>?_)
  ·have hij:i4=j5+1:=by omega
   subst hij
   refine sw (w:=W5.drew) hA5 (by omega) (by omega) (by omega) (by omega) fun W6 h6 C6=>?_
   rw[Int.toNat_natCast,Int.toNat_natCast] at h6
   exact fin (W:=W5.drew) hP5 hA5 hC5d W6 h6 C6
  ·have hij:i4<=j5:=by omega
   refine sw (w:=W5.drew) hA5 (by omega) (by omega) (by omega) (by omega) fun W6 h6 C6=>?_
   rw[Int.toNat_natCast,Int.toNat_natCast] at h6
   exact⟨rfl,_,by omega,i4+1,j5-1,_,rfl,by rw[wp1 (by omega),wm1 (by omega) (by omega)],hP5.sw hij (by omega) (by omega),h6,hC5d.trans C6⟩
theorem c42{s:Sl}{b:Nat}{w:World}{xs:List Int}{a e p:Nat}(h:Ar s b w.heap xs)(he:e<=xs.length)(hp:a<=p/\p<e):
  Cw 42 #[slV s,iv a,iv e,iv p] w fun v w'=>∃m:Nat,v=iv m/\(a<m/\m<=e)/\∃ys,PI a e xs ys/\g ys a=g xs p/\(∀k,a<=k->k<m->¬g xs p<g ys k)/\(∀k,m<=k->k<e->g xs p<g ys k)/\Ar s b w'.heap ys/\CB b w w':=by
 have hl:=h.2.2.1
 refine F42_ok s a e p w _ ?_
 have hCd:CB b w w.drew:=(extDrew w).mono fun _ _ h=>h.elim
 refine sw (w:=w.drew) h (by omega) (by omega) (by omega) (by omega) fun w12 h12 C12=>?_
 rw[Int.toNat_natCast,Int.toNat_natCast] at h12
 have C12:=hCd.trans C12
 have hv:g (swp xs a p) a=g xs p:=g_swl (by omega) (by omega)
 have hP0:Pt a e xs (swp xs a p) (g xs p) (fun x=>¬g xs p<x) (a+1) (e-1):=
  ⟨.step .refl (by omega) (by omega) (by omega) (by omega) he,he,hv,by omega,by omega,by omega,fun k h1 h2=>by omega,fun k h1 h2=>by omega⟩
 generalize swp xs a p=ys0 at hP0 h12
 clear hv
 generalize g xs p=v at hP0
 refine⟨fun n x W=>∃(i j:Nat)(ys:List Int),n=j+1-i/\x=((i:Int),(j:Int))/\Pt a e xs ys v (fun x=>¬v<x) i j/\Ar s b W.heap ys/\CB b w W,⟨_,a+1,e-1,_,rfl,by rw[wp1 (by omega),wm1 (by omega) (by omega)],hP0,h12,C12⟩,?_⟩
 rintro _ _ W3 _ ⟨i3,j3,ys3,rfl,rfl,hP3,hA3,hC3⟩
 unfold F42j1
 refine⟨fun x W=>∃i:Nat,x=(i:Int)/\i3<=i/\Pt a e xs ys3 v (fun x=>¬v<x) i j3/\(j3<i\/v<g ys3 i)/\Ar s b W.heap ys3/\CB b w W,?_,?_⟩
 ·refine⟨fun n x W=>∃i:Nat,n=j3+1-i/\x=(i:Int)/\i3<=i/\Pt a e xs ys3 v (fun x=>¬v<x) i j3/\Ar s b W.heap ys3/\CB b w W,⟨_,i3,rfl,rfl,Nat.le_refl _,hP3,hA3,hC3⟩,?_⟩
  rintro _ _ W _ ⟨i,rfl,rfl,hii,hP,hA,hC⟩
  have hyl:=hP.pi.len;have h4:=hP.ai;have h5:=hP.je;have h6:=hP.ij
  have hd:CB b w W.drew:=hC.then (extDrew W) fun _ _ h=>h.elim
  unfold F42j2
  refine IfB.dec (fun hle=>?_) (fun hgt=>⟨rfl,i,rfl,hii,hP,.inl ?_,hA,hd⟩)
  ·have hle:i<=j3:=by
    have:(i:Int)<=(j3:Int):=hle
    omega
   refine ls (w:=W.drew) hA (by omega) (by omega) (by omega) (by omega) (IfB.intro (fun hl1=>?_) (fun hl1=>⟨rfl,i,rfl,hii,hP,.inr ?_,hA,hd⟩))
   ·simp only[Int.toNat_natCast,hP.v,Bool.not_eq_true',decide_eq_false_iff_not] at hl1
    exact⟨rfl,_,by omega,i+1,rfl,wp1 (by omega),by omega,hP.up hle hl1,hA,hd⟩
   ·simp only[Int.toNat_natCast,hP.v,Bool.not_eq_false',decide_eq_true_eq] at hl1;exact hl1
  ·have:¬(i:Int)<=(j3:Int):=hgt
   omega
 rintro _ W4 _ ⟨i4,rfl,hi34,hP4,hi4,hA4,hC4⟩
 refine⟨fun x W'=>∃j:Nat,x=(j:Int)/\j<=j3/\Pt a e xs ys3 v (fun x=>¬v<x) i4 j/\(j<i4\/¬v<g ys3 j)/\(j<i4\/v<g ys3 i4)/\Ar s b W'.heap ys3/\CB b w W',?_,?_⟩
 ·refine⟨fun n x W=>∃j:Nat,j=n/\x=(j:Int)/\j<=j3/\Pt a e xs ys3 v (fun x=>¬v<x) i4 j/\(j<i4\/v<g ys3 i4)/\Ar s b W.heap ys3/\CB b w W,⟨_,j3,rfl,rfl,Nat.le_refl _,hP4,by omega,hA4,hC4⟩,?_⟩
  rintro _ _ W _ ⟨j,rfl,rfl,hjj,hP,hi,hA,hC⟩
  have hyl:=hP.pi.len;have h4:=hP.ai;have h5:=hP.je;have h6:=hP.ij
  have hd:CB b w W.drew:=hC.then (extDrew W) fun _ _ h=>h.elim
  unfold F42j4
  refine IfB.dec (fun hle=>?_) (fun hgt=>⟨rfl,j,rfl,hjj,hP,.inl (by omega),hi,hA,hd⟩)
  have hle:i4<=j:=by omega
  refine ls (w:=W.drew) hA (by omega) (by omega) (by omega) (by omega) (IfB.dec (fun hl1=>?_) (fun hl1=>⟨rfl,j,rfl,hjj,hP,.inr ?_,hi,hA,hd⟩))
  ·rw[Int.toNat_natCast,Int.toNat_natCast,hP.v] at hl1
   exact⟨rfl,j-1,by omega,j-1,rfl,wm1 (by omega) (by omega),by omega,hP.dn hle (by omega),by omega,hA,hd⟩
  ·rw[Int.toNat_natCast,Int.toNat_natCast,hP.v] at hl1;exact hl1
 rintro _ W5 _ ⟨j5,rfl,hj5,hP5,hj51,hj52,hA5,hC5⟩
 have hyl:=hP5.pi.len;have h4:=hP5.ai;have h5:=hP5.je;have h6:=hP5.ij
 have hC5d:CB b w W5.drew:=hC5.then (extDrew W5) fun _ _ h=>h.elim
 unfold F42j5
 refine IfB.dec (fun hlt=>?_) (fun hge=>?_)
 ·refine⟨i4,rfl,by omega,ys3,hP5.pi,hP5.v,fun k h1 h2=>?_,fun k h1 h2=>?_,hA5,hC5⟩
  ·by_cases hk:k=a
   ·subst hk;rw[hP5.v];omega
   ·exact hP5.lo k (by omega) h2
  ·have:=hP5.hi k (by omega) h2
   omega
 ·have hij:i4<=j5:=by omega
  refine sw (w:=W5.drew) hA5 (by omega) (by omega) (by omega) (by omega) fun W6 h6 C6=>?_
  rw[Int.toNat_natCast,Int.toNat_natCast] at h6
  exact⟨rfl,_,by omega,i4+1,j5-1,_,rfl,by rw[wp1 (by omega),wm1 (by omega) (by omega)],hP5.sw hij (by omega) (by omega),h6,hC5d.trans C6⟩
theorem CB.drew{b:Nat}{w W:World}(h:CB b w W):CB b w W.drew:=Ch.then h (extDrew W) fun _ _ h=>h.elim
theorem c40{s:Sl}{b:Nat}{w:World}{xs:List Int}{a e:Nat}(h:Ar s b w.heap xs)(he:e<=xs.length)(ha:a<e)(hb:0<a->∀k,a<=k->k<e->g xs (a-1)<=g xs k):
  Cw 40 #[slV s,iv a,iv e] w fun v w'=>∃t,v=.bool t/\∃ys,PI a e xs ys/\(t=true->SO ys a e)/\Ar s b w'.heap ys/\CB b w w':=by
 have hl:=h.2.2.1
 have lb:∀ {ys},PI a e xs ys->0<a->∀k,a<=k->k<e->g ys (a-1)<=g ys k:=fun{ys} hP h0 k h1 h2=>by
  rw[hP.out (.inl (by omega))]
  exact hP.all (Q:=fun v=>g xs (a-1)<=v) (fun i h3 h4=>hb h0 i h3 h4) k h1 h2
 refine F40_ok s a e w _ ⟨fun n x W=>∃(i j:Nat)(ys:List Int),n=5-j/\x=((i:Int),(j:Int))/\j<=5/\(a+1<=i/\i<=e)/\PI a e xs ys/\SO ys a i/\Ar s b W.heap ys/\CB b w W,⟨_,a+1,0,xs,rfl,by rw[wp1 (by omega)];rfl,by omega,by omega,.refl,fun p q _ _ _=>by omega,h,Ch.refl _ _⟩,?_⟩
 rintro _ _ W _ ⟨i0,j0,ys,rfl,rfl,hj0,hi0,hP,hS0,hA,hC⟩
 have hyl:=hP.len
 refine IfB.dec (fun hlt=>?_) (fun hge=>⟨false,rfl,ys,hP,(fun h=>by cases h),hA,hC⟩)
 have hj5:j0<5:=by
  have:(j0:Int)<5:=hlt
  omega
 refine⟨fun x W=>∃i:Nat,x=(i:Int)/\(a+1<=i/\i<=e)/\SO ys a i/\Ar s b W.heap ys/\CB b w W,?_,?_⟩
 ·refine⟨fun n x W=>∃i:Nat,n=e-i/\x=(i:Int)/\(a+1<=i/\i<=e)/\SO ys a i/\Ar s b W.heap ys/\CB b w W,⟨_,i0,rfl,rfl,hi0,hS0,hA,hC⟩,?_⟩
  rintro _ _ W1 _ ⟨i,rfl,rfl,hi,hS,hA1,hC1⟩
  unfold F40j2
  refine IfB.dec (fun hlt=>?_) (fun hge=>⟨rfl,i,rfl,hi,hS,hA1,hC1.drew⟩)
  rw[wm1 (by omega) (by omega)]
  refine ls (w:=W1.drew) hA1 (by omega) (by omega) (by omega) (by omega) (IfB.intro (fun hl1=>?_) (fun hl1=>⟨rfl,i,rfl,hi,hS,hA1,hC1.drew⟩))
  simp only[Int.toNat_natCast,Bool.not_eq_true',decide_eq_false_iff_not] at hl1
  refine⟨rfl,_,by omega,i+1,rfl,wp1 (by omega),by omega,fun p q h1 h2 h3=>?_,hA1,hC1.drew⟩
  by_cases hq:q=i
  ·subst hq
   by_cases hp:p=q-1
   ·subst hp;omega
   ·have:=hS p (q-1) h1 (by omega) (by omega)
    omega
  ·exact hS p q h1 h2 (by omega)
 rintro _ W2 _ ⟨i,rfl,hi,hS,hA2,hC2⟩
 unfold F40j3
 refine IfB.intro (fun hi3=>?_) (fun hi3=>?_)
 ·have hi3:(i:Int)=(e:Int):=by simpa using hi3
  have:i=e:=by omega
  subst this
  exact⟨true,rfl,ys,hP,fun _=>hS,hA2,hC2⟩
 have hie:i<e:=by
  have:(i:Int)≠(e:Int):=by simpa using hi3
  omega
 rw[wsb (by omega) (by omega)]
 refine @IfB.dec (((e-a:Nat):Int)<(50:Int)) _ _ _ (fun _=>⟨false,rfl,ys,hP,(fun h=>by cases h),hA2,hC2⟩) (fun _=>?_)
 rw[wm1 (by omega) (by omega)]
 refine sw (w:=W2.drew) hA2 (by omega) (by omega) (by omega) (by omega) fun W3 hA3 hC3=>?_
 rw[Int.toNat_natCast,Int.toNat_natCast] at hA3
 have hP3:PI a e xs (swp ys i (i-1)):=.step hP (by omega) (by omega) (by omega) (by omega) (by omega)
 have hC3:=(CB.drew hC2).trans hC3
 rw[wsb (by omega) (by omega)]
 refine⟨fun _ W=>∃zs,PI a e xs zs/\SO zs a i/\Ar s b W.heap zs/\CB b w W,?_,?_⟩
 ·refine IfB.dec (fun h2=>?_) (fun h2=>⟨rfl,_,hP3,fun p q _ _ _=>by omega,hA3,hC3⟩)
  refine⟨fun n x W=>∃(j:Nat)(zs:List Int),j=n/\x=(j:Int)/\(a<=j/\j<=i-1)/\PI a e xs zs/\(∀p q,a<=p->p<q->q<i->q≠j->g zs p<=g zs q)/\Ar s b W.heap zs/\CB b w W,⟨_,i-1,_,rfl,rfl,by omega,hP3,fun p q h1 h2 h3 h4=>?_,hA3,hC3⟩,?_⟩
  ·rw[g_swo (by omega) (by omega) (by omega) (by omega),g_swo (by omega) (by omega) (by omega) (by omega)]
   exact hS p q h1 h2 h3
  rintro _ _ W4 _ ⟨j,zs,rfl,rfl,hj,hP4,hS4,hA4,hC4⟩
  have hzl:=hP4.len
  unfold F40j4
  refine IfB.dec (fun hj1=>?_) (fun hj1=>⟨rfl,zs,hP4,fun p q h1 h2 h3=>hS4 p q h1 h2 h3 (by omega),hA4,hC4⟩)
  rw[wm1 (by omega) (by omega)]
  refine ls (w:=W4.drew) hA4 (by omega) (by omega) (by omega) (by omega) (IfB.intro (fun hl1=>?_) (fun hl1=>?_))
  ·simp only[Int.toNat_natCast,Bool.not_eq_true',decide_eq_false_iff_not] at hl1
   refine⟨rfl,zs,hP4,fun p q h1 h2 h3=>?_,hA4,hC4.drew⟩
   by_cases hq:q=j
   ·subst hq
    by_cases hp:p=q-1
    ·subst hp;omega
    ·have:=hS4 p (q-1) h1 (by omega) (by omega) (by omega)
     omega
   ·exact hS4 p q h1 h2 h3 hq
  ·simp only[Int.toNat_natCast,Bool.not_eq_false',decide_eq_true_eq] at hl1
   have haj:a<j:=by
    rcases Nat.lt_or_ge a j with h|h
    ·exact h
    ·have:a=j:=by omega
     subst this
     have:=lb hP4 (by omega) a (Nat.le_refl _) (by omega)
     omega
   refine sw (w:=W4.drew.drew) hA4 (by omega) (by omega) (by omega) (by omega) fun W5 hA5 hC5=>?_
   rw[Int.toNat_natCast,Int.toNat_natCast] at hA5
   refine⟨rfl,j-1,by omega,j-1,_,rfl,rfl,by omega,.step hP4 (by omega) (by omega) (by omega) (by omega) (by omega),fun p q h1 h2 h3 h4=>?_,hA5,(CB.drew (CB.drew hC4)).trans hC5⟩
   rw[g_swp (by omega) (by omega),g_swp (by omega) (by omega)]
   have A1:=hS4 p (j-1) h1
   have A2:=hS4 p q h1 h2 h3
   have A3:=hS4 j q (by omega)
   have A4:=hS4 (j-1) q (by omega)
   split<;>split<;>(try split)<;>(try split)<;>first|omega|skip
 rintro _ W6 _ ⟨zs,hP6,hS6,hA6,hC6⟩
 have hzl:=hP6.len
 have next:∀ {us:List Int}{W:World},PI a e xs us->SO us a i->Ar s b W.heap us->CB b w W->([]:List Nat)=[]/\∃b112,b112<5-j0/\∃(i' j':Nat)(ys:List Int),b112=5-j'/\((i:Int),IntKind.i64.wrap ((j0:Int)+(1:Int)))=((i':Int),(j':Int))/\j'<=5/\(a+1<=i'/\i'<=e)/\PI a e xs ys/\SO ys a i'/\Ar s b W.heap ys/\CB b w W:=
  fun h1 h2 h3 h4=>⟨rfl,5-(j0+1),by omega,i,j0+1,_,rfl,by rw[wp1 (by omega)],by omega,by omega,h1,h2,h3,h4⟩
 unfold F40j5
 refine⟨fun t W=>W=W6,⟨rfl,rfl⟩,?_⟩
 rintro t _ _ rfl
 refine IfB.intro (fun _=>?_) (fun _=>next hP6 hS6 hA6 hC6)
 refine⟨fun n x W=>∃(j:Nat)(us:List Int),n=e-j/\x=(j:Int)/\(i+1<=j/\j<=e)/\PI a e xs us/\SO us a i/\Ar s b W.heap us/\CB b w W,⟨_,i+1,zs,rfl,wp1 (by omega),by omega,hP6,hS6,hA6,hC6⟩,?_⟩
 rintro _ _ W7 _ ⟨j,us,rfl,rfl,hj,hP7,hS7,hA7,hC7⟩
 have hul:=hP7.len
 unfold F40j7
 refine IfB.dec (fun hlt=>?_) (fun _=>next hP7 hS7 hA7 hC7)
 rw[wm1 (by omega) (by omega)]
 refine ls (w:=W7.drew) hA7 (by omega) (by omega) (by omega) (by omega) (IfB.intro (fun _=>next hP7 hS7 hA7 hC7.drew) (fun _=>?_))
 refine sw (w:=W7.drew.drew) hA7 (by omega) (by omega) (by omega) (by omega) fun W8 hA8 hC8=>?_
 rw[Int.toNat_natCast,Int.toNat_natCast] at hA8
 refine⟨rfl,_,by omega,j+1,_,rfl,wp1 (by omega),by omega,.step hP7 (by omega) (by omega) (by omega) (by omega) (by omega),fun p q h1 h2 h3=>?_,hA8,(CB.drew (CB.drew hC7)).trans hC8⟩
 rw[g_swo (by omega) (by omega) (by omega) (by omega),g_swo (by omega) (by omega) (by omega) (by omega)]
 exact hS7 p q h1 h2 h3
theorem tab_all:((List.range 256).all fun i=>match GxLSby0[i]? with|some y=>decide (i<2^y.toNat)&&(decide (i=0)||decide (2^(y.toNat-1)<=i))&&decide (y.toNat<=8)&&(decide (i=0)||decide (1<=y.toNat))|none=>false)=true:=by kernel_rfl
theorem tab_get{i:Nat}(hi:i<256):∃y,GxLSby0[i]? =some y/\i<2^y.toNat/\(0<i->2^(y.toNat-1)<=i/\1<=y.toNat)/\y.toNat<=8:=by
 have h:=List.all_eq_true.1 tab_all i (List.mem_range.2 hi)
 cases hy:GxLSby0[i]? with
 | none=>rw[hy] at h;cases h
 | some y=>
  rw[hy] at h
  simp only[Bool.and_eq_true,Bool.or_eq_true,decide_eq_true_eq] at h
  exact⟨y,rfl,h.1.1.1,fun h0=>⟨by omega,by omega⟩,h.1.2⟩
theorem wu8{i:Nat}(h:i<256):IntKind.u8.wrap (i:Int)=(i:Int):=by
 unfold IntKind.wrap;simp[IntKind.signed,IntKind.bits];omega
def LenIs(x L:Nat):Prop:=x<2^L/\(0<x->2^(L-1)<=x/\1<=L)/\L<=24
theorem LenIs.shift{x L k:Nat}(h:LenIs (x/2^k) L)(h0:0<x/2^k)(hL:L+k<=24):LenIs x (k+L):=by
 obtain⟨h1,h2,h3⟩:=h
 obtain⟨h4,h5⟩:=h2 h0
 have hp:0<2^k:=Nat.pow_pos (by decide)
 refine⟨?_,fun _=>⟨?_,by omega⟩,by omega⟩
 ·rw[Nat.pow_add,Nat.mul_comm];exact(Nat.div_lt_iff_lt_mul hp).1 h1
 ·rw[show k+L-1=(L-1)+k by omega,Nat.pow_add]
  exact(Nat.le_div_iff_mul_le hp).1 h4
theorem fdv{x k:Nat}{n:Int}(hk:min (Int.toNat n) IntKind.u64.bits=k):(x:Int).fdiv ((2:Int)^min (Int.toNat n) IntKind.u64.bits)=((x/2^k:Nat):Int):=by
 rw[hk,Int.fdiv_eq_ediv_of_nonneg _ (Int.pow_nonneg (by decide))]
 simp
theorem c45{x:Nat}(hx:x<=1000000)(w:World):Cw 45 #[.int .u64 x] w fun v w'=>∃L:Nat,v=iv L/\LenIs x L/\w=w':=by
 refine F45_ok _ _ _ (IfB.no (decide_eq_false (by omega)) (IfB.dec (fun h1=>⟨by decide,?_⟩) (fun h1=>IfB.dec (fun h2=>?_) (fun h2=>?_))))
 ·rw[fdv (n:=(16:Int)) (k:=16) rfl]
  refine IfB.no (decide_eq_false (by omega)) ?_
  unfold F45k3
  rw[fdv (n:=(16:Int)) (k:=16) rfl,wu8 (by omega)]
  obtain⟨y,hy,h3,h4,h5⟩:=tab_get (i:=x/2^16) (by omega)
  refine⟨y,by omega,by rw[Int.toNat_natCast];exact hy,16+y.toNat,?_,LenIs.shift ⟨h3,h4,by omega⟩ (by omega) (by omega),rfl⟩
  rw[wrap_of (n:=((y.toNat:Nat):Int)) (by omega) (by omega),wrap_of (n:=(0:Int)+16) (by omega) (by omega),wrap_of (by omega) (by omega)];rfl
 ·unfold F45k4
  rw[fdv (n:=(8:Int)) (k:=8) rfl,wu8 (by omega)]
  obtain⟨y,hy,h3,h4,h5⟩:=tab_get (i:=x/2^8) (by omega)
  refine⟨by decide,y,by omega,by rw[Int.toNat_natCast];exact hy,8+y.toNat,?_,LenIs.shift ⟨h3,h4,by omega⟩ (by omega) (by omega),rfl⟩
  rw[wrap_of (n:=((y.toNat:Nat):Int)) (by omega) (by omega),wrap_of (n:=(0:Int)+8) (by omega) (by omega),wrap_of (by omega) (by omega)];rfl
 ·unfold F45k1
  rw[wu8 (by omega)]
  obtain⟨y,hy,h3,h4,h5⟩:=tab_get (i:=x) (by omega)
  refine⟨y,by omega,by rw[Int.toNat_natCast];exact hy,y.toNat,?_,⟨h3,h4,by omega⟩,rfl⟩
  rw[wrap_of (n:=((y.toNat:Nat):Int)) (by omega) (by omega),wrap_of (by omega) (by omega)];simp
theorem c32{x:Nat}(hx:x<=1000000)(w:World):Cw 32 #[.int .u64 x] w fun v w'=>∃L:Nat,v=iv L/\LenIs x L/\w=w':=by
 refine F32_ok _ _ _ ((c45 hx w).use ?_)
 rintro _ _ ⟨L,rfl,hL,rfl⟩
 exact⟨_,rfl,L,rfl,hL,rfl⟩
theorem wu64{i:Nat}(h:i<2^64):IntKind.u64.wrap (i:Int)=(i:Int):=by
 unfold IntKind.wrap;simp[IntKind.signed,IntKind.bits];omega
theorem c47{x:Nat}(hx:x<=1000000)(w:World):Cw 47 #[iv x] w fun v w'=>∃L:Nat,v=.int .u64 ((2^L:Nat):Int)/\LenIs x L/\w=w':=by
 refine F47_ok _ _ _ ?_
 unfold F47
 rw[wu64 (by omega)]
 refine(c32 hx w).use ?_
 rintro _ _ ⟨L,rfl,hL,rfl⟩
 refine⟨_,rfl,by omega,L,?_,hL,rfl⟩
 have h24:=hL.2.2
 rw[Int.toNat_natCast,show min L IntKind.u64.bits=L from Nat.min_eq_left (by show L<=64;omega),Int.one_mul]
 have:2^L<2^64:=Nat.pow_lt_pow_right (by decide) (by omega)
 rw[<-wu64 this];simp
theorem c48{b1:Nat}{w:World}(h:Ct .u64 b1 w):Cw 48 #[.pointer (some ⟨b1,0,none⟩)] w fun v w'=>∃n,v=.int .u64 n/\Ct .u64 b1 w'/\Ch (fun q=>q=b1) w w':=by
 obtain⟨T,n,hn⟩:=h
 refine F48_ok _ w _ ⟨b1,0,rfl,n,by rw[cell_of (w:=w.drew) hn];rfl,b1,0,rfl,n,by rw[cell_of (w:=w.drew) hn];rfl,by decide,b1,0,rfl,rfl,store_one (w:=w.drew) hn (by simp) rfl fun w9 h9=>?_⟩
 have hn9:=h9.new
 refine⟨b1,0,rfl,_,by rw[cell_of (w:=w9.drew) hn9];rfl,b1,0,rfl,_,by rw[cell_of (w:=w9.drew) hn9];rfl,by decide,b1,0,rfl,rfl,store_one (w:=w9.drew) hn9 (by simp) rfl fun w18 h18=>?_⟩
 have hn18:=h18.new
 refine⟨b1,0,rfl,_,by rw[cell_of (w:=w18.drew) hn18];rfl,b1,0,rfl,_,by rw[cell_of (w:=w18.drew) hn18];rfl,by decide,b1,0,rfl,rfl,store_one (w:=w18.drew) hn18 (by simp) rfl fun w27 h27=>?_⟩
 have hn27:=h27.new
 exact⟨b1,0,rfl,_,by rw[cell_of hn27];rfl,_,rfl,⟨T,_,hn27⟩,((CB.drew (CB.drew (CB.drew (Ch.refl _ w) |>.trans h9.ch) |>.trans h18.ch)).trans h27.ch)⟩
theorem and_le{n:Int}{m:Nat}(hm:m<2^64):∃k:Nat,bitsI BinOp.and IntKind.u64 n (m:Int)=(k:Int)/\k<=m:=by
 refine⟨(BitVec.ofInt 64 n &&& BitVec.ofInt 64 (m:Int)).toNat,?_,?_⟩
 ·show IntKind.u64.wrap _=_
  exact wu64 (BitVec.isLt _)
 ·rw[BitVec.toNat_and]
  refine Nat.le_trans Nat.and_le_right ?_
  rw[BitVec.ofInt_natCast,BitVec.toNat_ofNat,Nat.mod_eq_of_lt hm]
  exact Nat.le_refl _
theorem c37{s:Sl}{b:Nat}{w:World}{xs:List Int}{a e:Nat}(h:Ar s b w.heap xs)(he:e<=xs.length)(ha:a+12<e):
  Cw 37 #[slV s,iv a,iv e] w fun v w'=>v=.tuple #[]/\∃ys,PI a e xs ys/\Ar s b w'.heap ys/\CB b w w':=by
 have hl:=h.2.2.1
 have hlt:=h.lt
 refine F37_ok s a e w _ ?_
 unfold F37
 rw[wsb (by omega) (by omega)]
 refine IfB.yes (decide_eq_true (by omega)) ?_
 intro b1 w2 h2
 have p2:=h2.here;have z2:=h2.size
 rw[wu64 (by omega)]
 refine⟨rfl,store_all h2.new rfl (by intro u hu;simp at hu;subst hu;rfl) fun w3 h3=>?_⟩
 have e3:Ext w w3:=Ext.fresh h2 h3
 have hne:b1≠b:=by omega
 refine(c47 (x:=e-a) (by omega) w3).use ?_
 rintro _ _ ⟨L,rfl,hL,rfl⟩
 have hq:IntKind.i64.wrap ((((e-a:Nat):Int)).tdiv (4:Int))=(((e-a)/4:Nat):Int):=by
  rw[Int.tdiv_eq_ediv_of_nonneg (by omega),wrap_of (by omega) (by omega)];omega
 obtain⟨hL1,hL2,hL3⟩:=hL
 obtain⟨hL4,hL5⟩:=hL2 (by omega)
 have h2L:2^L<=2*(e-a):=by
  have:2^L=2^(L-1)*2:=by rw[<-Nat.pow_succ];congr 1;omega
  omega
 have hLpos:0<2^L:=Nat.pow_pos (by decide)
 generalize 2^L=M at*
 rw[hq,wmul (k:=(2:Int)) (m:=2) rfl (by omega) (by omega),wad (by omega),wm1 (by omega) (by omega)]
 generalize hqq:(e-a)/4=q at*
 refine⟨_,rfl,by decide,fun n x W=>∃(i:Nat)(ys:List Int),n=a+q*2+2-i/\x=(i:Int)/\(a+q*2-1<=i/\i<=a+q*2+2)/\PI a e xs ys/\Ar s b W.heap ys/\Ct .u64 b1 W/\CB b w W,⟨_,_,xs,rfl,rfl,by omega,.refl,h.ch e3 id,⟨_,_,h3.new⟩,e3.mono fun _ _ h=>h.elim⟩,?_⟩
 rintro _ _ W _ ⟨i,ys,rfl,rfl,hi,hP,hA,hK,hC⟩
 have hyl:=hP.len
 unfold F37j1
 rw[wsb (by omega) (by omega),hq,wmul (k:=(2:Int)) (m:=2) rfl (by omega) (by omega),wad (by omega),wp1 (by omega)]
 refine⟨by decide,IfB.dec (fun hle=>?_) (fun hgt=>⟨rfl,ys,hP,hA,hC⟩)⟩
 refine(c48 hK).use ?_
 rintro _ w15 ⟨n16,rfl,hK2,hC2⟩
 have hA2:=hA.ch hC2 (Ne.symm hne)
 have hC3:CB b w w15:=hC.then hC2 fun j hj h=>by omega
 have hm:IntKind.u64.wrap ((M:Int)-(1:Int))=((M-1:Nat):Int):=by
  rw[show ((M:Int)-(1:Int))=((M-1:Nat):Int) by omega,wu64 (by omega)]
 obtain⟨k,hk,hkM⟩:=and_le (n:=n16) (m:=M-1) (by omega)
 refine⟨n16,rfl,fun x W=>∃t:Nat,x=(t:Int)/\t<e-a/\w15=W,?_,?_⟩
 ·rw[hm,hk,wrap_of (n:=(k:Int)) (by omega) (by omega)]
  refine IfB.dec (fun h1=>⟨rfl,k-(e-a),wsb (by omega) (by omega),by omega,rfl⟩) (fun h1=>⟨rfl,k,rfl,by omega,rfl⟩)
 rintro _ _ _ ⟨t,rfl,ht,rfl⟩
 unfold F37j2
 rw[wad (by omega)]
 refine sw (w:=w15.drew) hA2 (by omega) (by omega) (by omega) (by omega) fun W5 hA5 hC5=>?_
 rw[Int.toNat_natCast,Int.toNat_natCast] at hA5
 exact⟨rfl,_,by omega,i+1,_,rfl,wp1 (by omega),by omega,.step hP (by omega) (by omega) (by omega) (by omega) (by omega),hA5,by
  obtain⟨T,n,hn⟩:=hK2
  exact⟨T,n,hC5.at (w:=w15.drew) hn hne⟩,hC3.drew.trans hC5⟩
theorem SO.split{ys:List Int}{a m e:Nat}(h1:SO ys a m)(h2:SO ys (m+1) e)(hl:∀k,a<=k->k<m->g ys k<=g ys m)(hr:∀k,m<k->k<e->g ys m<=g ys k):SO ys a e:=by
 intro p q hp hpq hq
 rcases Nat.lt_trichotomy p m with h|h|h
 ·rcases Nat.lt_trichotomy q m with k|k|k
  ·exact h1 p q hp hpq k
  ·subst k;exact hl p hp h
  ·have:=hl p hp h;have:=hr q k hq;omega
 ·subst h;exact hr q hpq hq
 ·exact h2 p q (by omega) hpq hq
theorem PI.trans'{a b a' b':Nat}{xs ys zs:List Int}(h:PI a b xs ys)(k:PI a' b' ys zs)(h1:a<=a')(h2:b'<=b)(h3:b<=xs.length):PI a b xs zs:=
 h.trans (k.mono h1 h2 (by rw[h.len];exact h3))
def LB(xs:List Int)(a e:Nat):Prop:=0<a->∀k,a<=k->k<e->g xs (a-1)<=g xs k
theorem LB.pi{xs ys:List Int}{a e:Nat}(h:LB xs a e)(hP:PI a e xs ys):LB ys a e:=fun h0 k h1 h2=>by
 rw[hP.out (.inl (by omega))]
 exact hP.all (Q:=fun v=>g xs (a-1)<=v) (fun i h3 h4=>h h0 i h3 h4) k h1 h2
def Pd(ys:List Int)(a m e:Nat):Prop:=(∀k,a<=k->k<m->g ys k<=g ys m)/\(∀k,m<k->k<e->g ys m<=g ys k)
theorem Pd.left{ys zs:List Int}{a m e:Nat}(h:Pd ys a m e)(hP:PI a m ys zs):Pd zs a m e:=by
 have em:g zs m=g ys m:=hP.out (.inr (Nat.le_refl _))
 refine⟨fun k h1 h2=>?_,fun k h1 h2=>?_⟩
 ·rw[em];exact hP.all (Q:=fun v=>v<=g ys m) (fun i h3 h4=>h.1 i h3 h4) k h1 h2
 ·rw[em,hP.out (.inr (by omega))];exact h.2 k h1 h2
theorem Pd.right{ys zs:List Int}{a m e:Nat}(h:Pd ys a m e)(hP:PI (m+1) e ys zs):Pd zs a m e:=by
 have em:g zs m=g ys m:=hP.out (.inl (by omega))
 refine⟨fun k h1 h2=>?_,fun k h1 h2=>?_⟩
 ·rw[em,hP.out (.inl (by omega))];exact h.1 k h1 h2
 ·rw[em];exact hP.all (Q:=fun v=>g ys m<=v) (fun i h3 h4=>h.2 i (by omega) h4) k (by omega) h2
theorem SO.keep{ys zs:List Int}{a e a' e':Nat}(h:SO ys a e)(hP:PI a' e' ys zs)(hd:e<=a'\/e'<=a):SO zs a e:=by
 intro p q h1 h2 h3
 rw[hP.out (by omega),hP.out (by omega)]
 exact h p q h1 h2 h3
theorem c31(n:Nat):∀ {s:Sl}{b:Nat}{w:World}{xs:List Int}{a e:Nat}(lim:Int),e-a=n->Ar s b w.heap xs->e<=xs.length->a<=e->LB xs a e->
  Cw 31 #[slV s,iv a,iv e,iv lim] w fun v w'=>v=.tuple #[]/\∃ys,PI a e xs ys/\SO ys a e/\Ar s b w'.heap ys/\CB b w w':=by
 induction n using Nat.strongRecOn with
 | _ n ih=>
 intro s b w xs a e lim hn h he hae hLB
 have hl:=h.2.2.1
 refine F31_ok s a e lim w _ ⟨fun k x W=>∃(a' e':Nat)(lm:Int)(wb wp:Bool)(ys:List Int),k=e'-a'/\x=((a':Int),(e':Int),lm,wb,wp)/\(a<=a'/\a'<=e'/\e'<=e)/\PI a e xs ys/\LB ys a' e'/\
  (∀zs,PI a' e' ys zs->SO zs a' e'->SO zs a e)/\Ar s b W.heap ys/\CB b w W,⟨_,a,e,lim,true,true,xs,rfl,rfl,by omega,.refl,hLB,fun _ _ h=>h,h,Ch.refl _ _⟩,?_⟩
 rintro _ _ W _ ⟨a',e',lm,wb,wp,ys,rfl,rfl,hae',hP,hB,hG,hA,hC⟩
 have hyl:=hP.len
 have up:∀ {zs},PI a' e' ys zs->PI a e xs zs:=fun k=>hP.trans' k (by omega) (by omega) he
 unfold F31j1
 dsimp only
 rw[wsb (by omega) (by omega)]
 refine IfB.dec (fun h12=>?_) (fun h12=>?_)
 ·refine(c35 hA (by omega) (by omega)).use ?_
  rintro _ W2 ⟨rfl,zs,hP2,hS2,hA2,hC2⟩
  exact⟨(),rfl,rfl,zs,up hP2,hG zs hP2 hS2,hA2,hC.trans hC2⟩
 have hbig:a'+12<e':=by omega
 refine IfB.intro (fun _=>?_) (fun _=>?_)
 ·refine(c36 hA (by omega) (by omega)).use ?_
  rintro _ W2 ⟨rfl,zs,hP2,hS2,hA2,hC2⟩
  exact⟨(),rfl,rfl,zs,up hP2,hG zs hP2 hS2,hA2,hC.trans hC2⟩
 refine⟨fun _ W=>∃zs,PI a' e' ys zs/\Ar s b W.heap zs/\CB b w W,?_,?_⟩
 ·refine IfB.intro (fun _=>?_) (fun _=>⟨rfl,ys,.refl,hA,hC⟩)
  refine(c37 hA (by omega) hbig).use ?_
  rintro _ W2 ⟨rfl,zs,hP2,hA2,hC2⟩
  exact⟨(),rfl,rfl,zs,hP2,hA2,hC.trans hC2⟩
 rintro lm2 W2 _ ⟨zs,hP2,hA2,hC2⟩
 have hzl:=hP2.len
 unfold F31j2
 dsimp only
 refine(c38 hA2 (by omega) hbig).use ?_
 rintro _ W3 ⟨p,t,rfl,hp,hA3,e3⟩
 have hC3:CB b w W3:=hC2.then e3 fun _ _ h=>h.elim
 refine⟨((p:Int),t),rfl,fun x W=>∃(p:Nat)(us:List Int),x.1=(p:Int)/\(a'<=p/\p<e')/\PI a' e' ys us/\Ar s b W.heap us/\CB b w W,?_,?_⟩
 ·refine IfB.intro (fun _=>?_) (fun _=>⟨rfl,p,zs,rfl,hp,hP2,hA3,hC3⟩)
  refine(c39 hA3 (by omega) (by omega)).use ?_
  rintro _ W4 ⟨rfl,us,hP4,hA4,hC4⟩
  refine⟨(),rfl,rfl,e'-1-(p-a'),us,?_,by omega,hP2.trans hP4,hA4,hC3.trans hC4⟩
  show IntKind.i64.wrap (IntKind.i64.wrap ((e':Int)-1)-IntKind.i64.wrap ((p:Int)-(a':Int)))=_
  rw[wm1 (by omega) (by omega),wsb (by omega) (by omega),wsb (by omega) (by omega)]
 rintro⟨_,t2⟩ W5 _ ⟨p,us,rfl,hp,hP5,hA5,hC5⟩
 have hul:=hP5.len
 unfold F31j3
 dsimp only
 refine⟨fun _ W=>∃us,PI a' e' ys us/\Ar s b W.heap us/\CB b w W,?_,?_⟩
 ·refine IfB.intro (fun _=>IfB.intro (fun _=>IfB.intro (fun _=>?_) (fun _=>⟨rfl,us,hP5,hA5,hC5⟩)) (fun _=>⟨rfl,us,hP5,hA5,hC5⟩)) (fun _=>⟨rfl,us,hP5,hA5,hC5⟩)
  refine(c40 hA5 (by omega) (by omega) (hB.pi hP5)).use ?_
  rintro _ W6 ⟨t,rfl,vs,hP6,hS6,hA6,hC6⟩
  exact⟨t,rfl,IfB.intro (fun ht=>⟨rfl,vs,up (hP5.trans hP6),hG vs (hP5.trans hP6) (hS6 ht),hA6,hC5.trans hC6⟩) (fun _=>⟨rfl,vs,hP5.trans hP6,hA6,hC5.trans hC6⟩)⟩
 rintro _ W7 _ ⟨us,hP7,hA7,hC7⟩
 have hul:=hP7.len
 have hB7:=hB.pi hP7
 have hG7:∀zs,PI a' e' us zs->SO zs a' e'->SO zs a e:=fun zs k=>hG zs (hP7.trans k)
 have part:∀ {W8:World},W8.heap=W7.heap->CB b w W8->Cx 43 #[slV s,iv a',iv e',iv p] W8 fun v65 w66=>∃x67:Int×Bool,v65=.tuple #[.int .i64 x67.1,.bool x67.2]/\¬(8:Int)=0/\
   IfB (decide (IntKind.i64.wrap (x67.fst-(a':Int))<IntKind.i64.wrap ((e':Int)-x67.fst))) (F31k2 s ((a':Int),(e':Int),lm,wb,wp) x67 lm2 w66 (e'-a') (fun k x W=>∃(a' e':Nat)(lm:Int)(wb wp:Bool)(ys:List Int),k=e'-a'/\x=((a':Int),(e':Int),lm,wb,wp)/\(a<=a'/\a'<=e'/\e'<=e)/\PI a e xs ys/\LB ys a' e'/\
  (∀zs,PI a' e' ys zs->SO zs a' e'->SO zs a e)/\Ar s b W.heap ys/\CB b w W))
    (F31k1 s x67 ((a':Int),(e':Int),lm,wb,wp) lm2 w66 (e'-a') (fun k x W=>∃(a' e':Nat)(lm:Int)(wb wp:Bool)(ys:List Int),k=e'-a'/\x=((a':Int),(e':Int),lm,wb,wp)/\(a<=a'/\a'<=e'/\e'<=e)/\PI a e xs ys/\LB ys a' e'/\
  (∀zs,PI a' e' ys zs->SO zs a' e'->SO zs a e)/\Ar s b W.heap ys/\CB b w W)):=by
  intro W8 hW8 hC8
  have hA8:Ar s b W8.heap us:=by rw[hW8];exact hA7
  refine(c43 hA8 (by omega) hp).use ?_
  rintro _ W9 ⟨m,t,rfl,hm,vs,hP9,h1,h2,hA9,hC9⟩
  have hvl:=hP9.len
  have hPd:Pd vs a' m e':=⟨fun k h3 h4=>Int.le_of_lt (h1 k h3 h4),h2⟩
  have hB9:=hB7.pi hP9
  have hC9:=hC8.trans hC9
  refine⟨((m:Int),t),rfl,by decide,IfB.intro (fun _=>?_) (fun _=>?_)⟩
  ·unfold F31k2
   refine(ih (m-a') (by omega) lm2 rfl hA9 (by omega) (by omega) fun h0 k h3 h4=>hB9 h0 k h3 (by omega)).use ?_
   rintro _ W10 ⟨rfl,ts,hP10,hS10,hA10,hC10⟩
   have hPd2:=hPd.left hP10
   refine⟨(),rfl,rfl,e'-(m+1),by omega,m+1,e',_,_,_,ts,rfl,by rw[wp1 (by omega)],by omega,hP.trans' (hP7.trans (hP9.trans' hP10 (by omega) (by omega) (by omega))) (by omega) (by omega) he,fun _ k h3 h4=>hPd2.2 k (by omega) h4,fun zs hz hSz=>?_,hA10,hC9.trans hC10⟩
   have hPz:PI a' e' us zs:=(hP9.trans' hP10 (by omega) (by omega) (by omega)).trans' hz (by omega) (by omega) (by omega)
   have hPd3:=hPd2.right hz
   exact hG7 zs hPz ((hS10.keep hz (.inl (by omega))).split hSz hPd3.1 hPd3.2)
  ·unfold F31k1
   dsimp only
   rw[wp1 (by omega)]
   refine(ih (e'-(m+1)) (by omega) lm2 rfl hA9 (by omega) (by omega) fun h0 k h3 h4=>hPd.2 k (by omega) h4).use ?_
   rintro _ W10 ⟨rfl,ts,hP10,hS10,hA10,hC10⟩
   have hPd2:=hPd.right hP10
   have hB10:LB ts a' m:=fun h0 k h3 h4=>by
    rw[hP10.out (.inl (by omega)),hP10.out (.inl (by omega))]
    exact hB9 h0 k h3 (by omega)
   refine⟨(),rfl,rfl,m-a',by omega,a',m,_,_,_,ts,rfl,rfl,by omega,hP.trans' (hP7.trans (hP9.trans' hP10 (by omega) (by omega) (by omega))) (by omega) (by omega) he,hB10,fun zs hz hSz=>?_,hA10,hC9.trans hC10⟩
   have hPz:PI a' e' us zs:=(hP9.trans' hP10 (by omega) (by omega) (by omega)).trans' hz (by omega) (by omega) (by omega)
   have hPd3:=hPd2.left hz
   exact hG7 zs hPz (hSz.split (hS10.keep hz (.inr (by omega))) hPd3.1 hPd3.2)
 unfold F31j4
 dsimp only
 refine IfB.dec (fun h0=>?_) (fun h0=>part rfl hC7.drew)
 have h0:0<a':=by omega
 rw[wm1 (by omega) (by omega)]
 refine ls (w:=W7.drew) hA7 (by omega) (by omega) (by omega) (by omega) (IfB.intro (fun hl1=>?_) (fun _=>part rfl hC7.drew))
 simp only[Int.toNat_natCast,Bool.not_eq_true',decide_eq_false_iff_not] at hl1
 refine(c42 (w:=W7.drew) hA7 (by omega) hp).use ?_
 rintro _ W8 ⟨m,rfl,hm,vs,hP8,hv,h1,h2,hA8,hC8⟩
 have hvl:=hP8.len
 have hB8:=hB7.pi hP8
 have ho:g vs (a'-1)=g us (a'-1):=hP8.out (.inl (by omega))
 have hv1:∀k,a'<=k->k<m->g vs k=g us p:=fun k h3 h4=>by
  have:=h1 k h3 h4
  have:=hB8 h0 k h3 (by omega)
  omega
 refine⟨_,rfl,rfl,e'-m,by omega,m,e',lm2,wb,wp,vs,rfl,rfl,by omega,up (hP7.trans hP8),fun _ k h3 h4=>?_,fun zs hz hSz=>?_,hA8,hC7.drew.trans hC8⟩
 ·rw[hv1 (m-1) (by omega) (by omega)]
  have:=h2 k h3 h4
  omega
 ·have hlow:∀k,a'<=k->k<m->g zs k=g us p:=fun k h3 h4=>by rw[hz.out (.inl h4)];exact hv1 k h3 h4
  have hhigh:∀k,m<=k->k<e'->g us p<g zs k:=hz.all (Q:=fun v=>g us p<v) h2
  refine hG7 zs (hP8.trans' hz (by omega) (by omega) (by omega)) fun i j h3 h4 h5=>?_
  by_cases hj:j<m
  ·rw[hlow i h3 (by omega),hlow j (by omega) hj];exact Int.le_refl _
  ·by_cases hi:i<m
   ·rw[hlow i h3 hi]
    have:=hhigh j (by omega) h5
    omega
   ·exact hSz i j (by omega) h4 h5
theorem SO.sorted{ys:List Int}(h:SO ys 0 ys.length):ys.Pairwise (· <=·):=by
 rw[List.pairwise_iff_getElem]
 intro i j hi hj hij
 have:=h i j (Nat.zero_le _) hij hj
 have e1:=g_eq hi;have e2:=g_eq hj
 rw[List.getElem?_eq_getElem hi] at e1
 rw[List.getElem?_eq_getElem hj] at e2
 rw[Option.some.injEq] at e1 e2
 rw[e1,e2];exact this
theorem c125e(s:Sl)(w:World):Cw 35 #[slV s,iv 0,iv 0] w fun v w'=>v=.tuple #[]/\w=w':=by
 refine F35_ok s (0:Int) (0:Int) w _ ⟨fun k x W'=>x=(1:Int)/\w=W',⟨0,by decide,rfl⟩,?_⟩
 rintro k _ _ _ ⟨rfl,rfl⟩
 exact IfB.no (by decide) ⟨rfl,rfl⟩
theorem c120e(s:Sl)(L:Int)(w:World):Cw 31 #[slV s,iv 0,iv 0,iv L] w fun v w'=>v=.tuple #[]/\w=w':=by
 refine F31_ok s (0:Int) (0:Int) L w _ ⟨fun k x W=>x=((0:Int),(0:Int),L,true,true)/\w=W,⟨0,rfl,rfl⟩,?_⟩
 rintro k _ _ _ ⟨rfl,rfl⟩
 unfold F31j1
 refine IfB.yes (show decide (IntKind.i64.wrap ((0:Int)-(0:Int))<=(12:Int))=true by decide) ((c125e s w).use ?_)
 rintro _ _ ⟨rfl,rfl⟩
 exact⟨(),rfl,rfl,rfl⟩
theorem c25{w:World}{s:Sl}{xs:List Int}(h:OwS w s 1 (xs.map iv))(hl:xs.length<=1000000):
  Cw 25 #[slV s] w fun v w'=>v=.tuple #[]/\∃ys:List Int,ys.Perm xs/\ys.Pairwise (· <=·)/\OwS w' s 1 (ys.map iv)/\Ch (fun i=>i∈blk s) w w':=by
 have hn:=h.len1
 rw[List.length_map] at hn
 refine F25_ok s w _ ?_
 unfold F25
 rw[show (s.2:Int)=((xs.length:Nat):Int) by show (s.n:Int)=_;rw[hn],wu64 (by omega)]
 refine(c32 hl w).use ?_
 rintro _ _ ⟨L,rfl,hL,rfl⟩
 refine⟨_,rfl,?_⟩
 by_cases h0:xs.length=0
 ·have:xs=[]:=List.length_eq_zero_iff.1 h0
  subst this
  refine(c120e s L w).use ?_
  rintro _ _ ⟨rfl,rfl⟩
  exact⟨(),rfl,rfl,[],.refl _,.nil,h,Ch.refl _ _⟩
 ·obtain⟨b,hA,hb⟩:=Ar.of h (by omega) hl
  refine(c31 _ (L:Int) rfl hA (Nat.le_refl _) (Nat.zero_le _) (fun h0=>absurd h0 (by decide))).use ?_
  rintro _ W2 ⟨rfl,ys,hP,hS,hA2,hC2⟩
  have hyl:=hP.len
  exact⟨(),rfl,rfl,ys,hP.perm,SO.sorted (by rw[hyl];exact hS),hA2.own,hC2.mono fun i _ hi=>by rw[hb];simpa using hi⟩
set_option maxRecDepth 100000
noncomputable def R30_0:Code:=codeAt [1,0,1,0] (bodyOf Try.f30)
def R30_0a:An:=.nil
theorem R30_0ok1:okC tb Try.f30.ntmps (rA R30_0) .nil=true:=by kernel_rfl
theorem R30_0ok2:okC tb Try.f30.ntmps (rB R30_0) R30_0a=true:=by kernel_rfl
theorem R30_0okp:(rP R30_0).toList.all (fun p=>Nat.blt p Try.f30.ntmps)=true:=by kernel_rfl
theorem F30_ok(t0:Sl)(t1:Nat×Array Value)(w:World)(R:RV)(h:AllocP w (Obj.cells #[Qy t0] 35) fun b1 w2=>∀(y3:Nat->Value),RangeP Try.prog tb (nat_lit 13) none R30_0a (rG R30_0) (rP R30_0) (rA R30_0) (rB R30_0) (frC y3 [(2,Value.pointer (some ⟨b1,0,none⟩)),(4,Value.slice none 0 0),(6,Value.func (Fn.func t1.1) #[] t1.2)]) [] w2 (fun(l4:List Nat) (w5:World)=>Qs w5 b1 0 fun s6=>marksP w5 l4 fun w7=>R (Qy s6) w7) (fun(l8:List Nat) (w9:World)=>marksP w9 l8 fun w10=>R (Value.slice none 0 0) w10) fun(b11:Nat) (l12:List Nat) (w13:World)=>match b11.beq 0 with|true=>Qs w13 b1 0 fun s15=>marksP w13 l12 fun w16=>R (Qy s15) w16|false=>False):Cw 30 #[Qy t0,Value.func (Fn.func t1.1) #[] t1.2] w R:=
 ckF Try.func30 (nd (.node (nd (.rng [(2,.one (.box)),(4,.one (.sl)),(6,.one (.clo))] .nil)) .nil)) h (by kernel_rfl) (by kernel_rfl)
theorem F30b0_ok(t2:Nat)(t4:Sl)(t6:Nat×Array Value)(x7:Int)(l D n₀:Nat)(Jn:World->Prop)(Jx:Code->World->Prop)(W:World){g:Nat->Value}(h:([]:List Nat)=[]/\(W.1[l]? =W.1[l]? /\W.1[D]? =W.1[D]?)/\∀(w9:World),Stb n₀ W w9->Its W w9->(∃y12:Loop,w9.1[l]? =some (Obj.loop y12))->∃s16:Sl,w9.cell? ⟨t2,0,none⟩=some (Qy s16)/\1*1<=16777216/\AllocP w9 (Obj.cells #[Qz x7] 3) fun b17 w18=>∃(l19:List Value),ReadC w18 (some ⟨b17,0,none⟩) (1*1) l19/\AppendP tt3 3 w18 s16.1 s16.2 s16.3 1 l19 fun s20 w21=>#[Qy s20].size=1/\StoreP w21 t2 0 [Qy s20] fun w22=>(w22.1[l]? =w9.1[l]? /\w22.1[D]? =w9.1[D]?)/\Jn w22):
  BodyP Try.prog tb Try.f30.ntmps l D n₀ R30_0a (rP R30_0) (rA R30_0) (rB R30_0) (frC g [(2,Value.pointer (some ⟨t2,0,none⟩)),(4,Value.slice t4.1 t4.2 t4.3),(6,Value.func (Fn.func t6.1) #[] t6.2)]) Jn Jx [Value.int IntKind.i64 x7] W:=
 Eq.mp (by kernel_rfl) h
theorem F24_ok(t0:Nat×Array Value)(w:World)(R:RV)(h:Cx 30 #[Value.slice none 0 0,Value.func (Fn.func t0.1) #[] t0.2] w fun v1 w2=>∃s3:Sl,v1=Qy s3/\R (Qy s3) w2):Cw 24 #[Value.func (Fn.func t0.1) #[] t0.2] w R:=
 ckF Try.func24 .nil h (by kernel_rfl) (by kernel_rfl)
theorem F16_ok(t0:Nat×Array Value)(w:World)(R:RV)(h:Cx 24 #[Value.func (Fn.func t0.1) #[] t0.2] w fun v1 w2=>∃s3:Sl,v1=Qy s3/\Cx 25 #[Qy s3] w2 fun v4 w5=>∃y6:Unit,v4=Value.tuple #[]/\R (Qy s3) w5):Cw 16 #[Value.func (Fn.func t0.1) #[] t0.2] w R:=
 ckF Try.func16 .nil h (by kernel_rfl) (by kernel_rfl)
end Go.Proofs.Ytlpgdngcgbeegaa.Gx
