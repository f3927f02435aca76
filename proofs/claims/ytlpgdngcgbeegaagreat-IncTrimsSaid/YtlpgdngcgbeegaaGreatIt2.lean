/- Merged by pack.py: GxC, WaitA, GxH, GxT, GxLS. -/
import Derived.Test.YtlpgdngcgbeegaaGreatIt1
import Derived.Below
import Derived.Laws.StructEq
import Derived.ChangeKeysEq
import Derived.Lib.Overlaps
import Derived.ChangeSame
import Derived.ProofKit
import Derived.ChangeArms
import Derived.OpenShut
import Derived.Carry
import Derived.Test.YtlpgdngcgbeegaaGreatProg
import Derived.KernelRfl
namespace Go.Proofs.YtlpgdngcgbeegaaGreat.Gx
open Go
structure Ch(F:Nat->Prop)(w w':World):Prop where
 rest:Rest w w'
 size:w.heap.size<=w'.heap.size
 old:∀i,i<w.heap.size->¬F i->w'.heap[i]? =w.heap[i]?
theorem Ch.refl(F:Nat->Prop)(w:World):Ch F w w:=⟨Rest.refl _,Nat.le_refl _,fun _ _ _=>rfl⟩
theorem Ch.trans{F:Nat->Prop}{a b c:World}(h:Ch F a b)(k:Ch F b c):Ch F a c:=
 ⟨h.rest.trans k.rest,Nat.le_trans h.size k.size,fun i hi hF=>(k.old i (Nat.lt_of_lt_of_le hi h.size) hF).trans (h.old i hi hF)⟩
theorem Ch.mono{F G:Nat->Prop}{a b:World}(h:Ch F a b)(hF:∀i,i<a.heap.size->F i->G i):Ch G a b:=
 ⟨h.rest,h.size,fun i hi hG=>h.old i hi fun hf=>hG (hF i hi hf)⟩
theorem Ch.then{F G:Nat->Prop}{a b c:World}(h:Ch F a b)(k:Ch G b c)(hG:∀i,i<a.heap.size->G i->F i):Ch F a c:=
 ⟨h.rest.trans k.rest,Nat.le_trans h.size k.size,fun i hi hF=>(k.old i (Nat.lt_of_lt_of_le hi h.size) fun hg=>hF (hG i hi hg)).trans (h.old i hi hF)⟩
theorem IsAlloc.ch{w w':World}{o:Obj}{b:Nat}(h:IsAlloc w o b w')(F:Nat->Prop):Ch F w w':=
 ⟨h.rest,by rw[h.size];omega,fun i hi _=>h.old i hi⟩
theorem IsUpd.ch{w w':World}{o:Obj}{b:Nat}(h:IsUpd w b o w'):Ch (fun i=>i=b) w w':=
 ⟨h.rest,by rw[h.size];exact Nat.le_refl _,fun i _ hb=>h.old i hb⟩
theorem Ch.ofStb{w w':World}{n:Nat}(h:Stb n w w'):Ch (fun i=>n<=i) w w':=
 ⟨h.rest,h.size,fun i _ hn=>h.low i (Nat.lt_of_not_le hn)⟩
abbrev Ext(w w':World):Prop:=Ch (fun _=>False) w w'
theorem Ext.at{w w':World}(h:Ext w w'){i:Nat}{o:Obj}(ho:w.heap[i]? =some o):w'.heap[i]? =some o:=by
 have hi:i<w.heap.size:=(Array.getElem?_eq_some_iff.1 ho).1
 rw[h.old i hi id];exact ho
theorem Ext.below{w w':World}(h:Ext w w'):RowKit.Below w.heap.size w w':=
 ⟨h.rest.os,h.rest.tape,h.rest.output,h.size,fun k hk=>h.old k hk id⟩
theorem Ch.at{F:Nat->Prop}{w w':World}(h:Ch F w w'){i:Nat}{o:Obj}(ho:w.heap[i]? =some o)(hF:¬F i):w'.heap[i]? =some o:=by
 have hi:i<w.heap.size:=(Array.getElem?_eq_some_iff.1 ho).1
 rw[h.old i hi hF];exact ho
theorem heap_lt{w:World}{i:Nat}{o:Obj}(ho:w.heap[i]? =some o):i<w.heap.size:=(Array.getElem?_eq_some_iff.1 ho).1
theorem IsAlloc.at{w w':World}{o o':Obj}{b i:Nat}(h:IsAlloc w o b w')(ho:w.heap[i]? =some o'):w'.heap[i]? =some o':=by
 rw[h.old i (heap_lt ho)];exact ho
theorem IsUpd.at{w w':World}{o o':Obj}{b i:Nat}(h:IsUpd w b o w')(ho:w.heap[i]? =some o')(hi:i≠b):w'.heap[i]? =some o':=by
 rw[h.old i hi];exact ho
theorem cell_of{w:World}{b:Nat}{cs:Array Value}{T:TypeId}{q:Nat×Nat}(h:w.heap[b]? =some (.cells cs T q))(o:Nat):w.cell? ⟨b,o,none⟩=cs[o]? :=by
 simp[World.cell?,h]
theorem cellsAt_of{w:World}{b o:Nat}{cs:Array Value}{T:TypeId}{q:Nat×Nat}(h:w.heap[b]? =some (.cells cs T q)){l:List Value}(hl:∀i v,l[i]? =some v->cs[o+i]? =some v):CellsAt w b o l:=by
 intro i v hv
 rw[cell_of h];exact hl i v hv
theorem marks_one{w:World}{D:Nat}{K:World->Prop}(hD:w.heap[D]? =some (.deferred (some [])))(h:∀w',IsUpd w D (.deferred none) w'->K w'):marksP w [D] K:=⟨hD,h⟩
theorem store_one{w:World}{b o:Nat}{v:Value}{old:Array Value}{T:TypeId}{K:World->Prop}(hb:w.heap[b]? =some (.cells old T (0,0)))(ho:o<old.size)(h1:v.oneCell'=true)
  (hK:∀w',IsUpd w b (.cells (old.setIfInBounds o v) T (0,0)) w'->K w'):StoreP w b o [v] K:=
 ⟨old,T,hb,by simp;omega,by intro x hx;simp at hx;subst hx;exact h1,hK⟩
theorem zc_len(z:Array Value)(n:Nat):(zc z n).length=n*z.size:=by
 unfold zc
 rw[Array.length_toList]
 simp[Builtin.zeroCells]
set_option linter.unusedSimpArgs false
def partV(tj:TI)(cs:Array Value)(off:Nat):Option Value:=
 match tj.kd.isAgg with
 | true=>some (.agg (takeL tj.size (dropL off cs.toList)).toArray)
 | false=>nth cs.toList off
def eqK:IntKind->IntKind->Bool
 | .i64,.i64=>true | .u64,.u64=>true | .u8,.u8=>true | .i32,.i32=>true | .u32,.u32=>true | .i8,.i8=>true | .i16,.i16=>true | .u16,.u16=>true
 | _,_=>false
theorem eqK_eq{j k:IntKind}(h:eqK j k=true):j=k:=by cases j<;>cases k<;>first|rfl|cases h
def eqF(tb:Tab)(E:TypeId->Value->Value->Option Bool)(xs ys:Array Value):List Field->Option Bool
 | []=>some true
 | f::fs=>match decide (f.name= "_") with
  | true=>none
  | false=>match tb f.type with
   | none=>none
   | some tj=>match partV tj xs f.offset,partV tj ys f.offset with
    | some x,some y=>match E f.type x y,eqF tb E xs ys fs with
     | some a,some b=>some (a&&b)
     | _,_=>none
    | _,_=>none
def eqL(P:Program)(tb:Tab):Nat->TypeId->Value->Value->Option Bool
 | 0,_,_,_=>none
 | d+1,t,x,y=>match tb t with
  | none=>none
  | some ti=>match ti.kd,x,y with
   | .int _,.int k a,.int j b=>match eqK k j with
    | true=>some (a == b)
    | false=>none
   | .bool,.bool a,.bool b=>some (a == b)
   | .string,.string a,.string b=>some (a.toList == b.toList)
   | .struct _,.agg xs,.agg ys=>match P.stoodInHeld t with
    | true=>none
    | false=>eqF tb (eqL P tb d) xs ys (P.fieldsOf t).toList
   | _,_,_=>none
section
variable {P:Program} {tb:Tab}
theorem partV_run(hT:tb.Ok P){T:TypeId}{tj:TI}(h:tb T=some tj){cs:Array Value}{off:Nat}{v:Value}(hp:partV tj cs off=some v)(w:World):(part T cs off).run P w=.ok v w:=by
 have:partX tj cs off (fun u=>u=v):=by
  unfold partX
  unfold partV at hp
  cases hk:tj.kd.isAgg with
  | true=>rw[hk] at hp;exact Option.some.inj hp
  | false=>
   rw[hk] at hp
   dsimp only at hp ⊢
   rw[hp]
 obtain⟨u,hu,hr⟩:=run_part_of (hT _ _ h) this
 rw[<-hu];exact hr w
theorem eqF_run(hT:tb.Ok P){d:Nat}{E:TypeId->Value->Value->Option Bool}(hE:∀t x y b,E t x y=some b->∀w,(Op.equalIn d t x y).run P w=.ok b w){xs ys:Array Value}:∀(fs:List Field)(b:Bool),eqF tb E xs ys fs=some b->∀w,(Op.eqFields d xs ys fs).run P w=.ok b w
 | [],b,h,w=>by simp only[eqF,Option.some.injEq] at h;subst h;simp[Op.eqFields]
 | f::fs,b,h,w=>by
  simp only[eqF] at h
  split at h
  ·cases h
  ·rename_i hn
   have hn':f.name≠ "_" :=by simpa using hn
   split at h
   ·cases h
   ·rename_i tj htj
    split at h
    ·rename_i x y hx hy
     split at h
     ·rename_i a b' ha hb
      simp only[Option.some.injEq] at h
      subst h
      have ih:=eqF_run hT hE fs b' hb
      simp only[Op.eqFields,if_pos hn',Sem.run_bind,partV_run hT htj hx,partV_run hT htj hy,Result.andThen_ok,hE _ _ _ _ ha]
      cases a
      ·simp
      ·simpa using ih w
     ·cases h
    ·cases h
theorem eqL_run(hT:tb.Ok P):∀(d:Nat)(t:TypeId)(x y:Value)(b:Bool),eqL P tb d t x y=some b->∀d',d<=d'->∀w,(Op.equalIn d' t x y).run P w=.ok b w
 | 0,_,_,_,_,h,_,_,_=>by cases h
 | d+1,t,x,y,b,h,d',hd,w=>by
  obtain⟨d',rfl⟩:∃e,d'=e+1:=⟨d'-1,by omega⟩
  simp only[eqL] at h
  split at h
  ·cases h
  ·rename_i ti hti
   obtain⟨u,hu,hk⟩:=(hT _ _ hti).desc
   split at h
   ·rename_i k' k a j b' hkd
    rw[hkd] at hk
    have:=kd_int hk;subst this
    split at h
    ·rename_i he
     have:=eqK_eq he;subst this
     simp only[Option.some.injEq] at h;subst h
     exact run_equalIn_int w d' t _ _ a b' hu
    ·cases h
   ·rename_i a b' hkd
    rw[hkd] at hk
    have:=kd_bool hk;subst this
    simp only[Option.some.injEq] at h;subst h
    exact run_equalIn_bool' w d' t a b' hu
   ·rename_i a b' hkd
    rw[hkd] at hk
    have:=kd_string hk;subst this
    simp only[Option.some.injEq] at h;subst h
    exact run_equalIn_string w d' t a b' hu
   ·rename_i fs xs ys hkd
    rw[hkd] at hk
    obtain⟨fs',rfl,_⟩:=kd_struct hk
    split at h
    ·cases h
    ·rename_i hs
     have hf:P.fieldsOf t=fs':=by simp[Program.fieldsOf,hu]
     rw[run_equalIn_struct w d' t xs ys (by rw[hf];exact hu) hs]
     exact eqF_run hT (fun t x y b hb w=>eqL_run hT d t x y b hb d' (by omega) w) _ _ h w
   ·cases h
theorem eqAt_struct(hT:tb.Ok P){d:Nat}(hd:d<=10000){t:TypeId}{xs ys:Array Value}{b:Bool}(h:eqL P tb d t (.agg xs) (.agg ys)=some b)(hg:P.eqGuardType P.depth t=false):EqAt P t (.agg xs) (.agg ys) b:=by
 intro xo yo w
 have h1:=eqL_run hT d t _ _ b h 10000 hd w
 constructor
 ·simp only[Sem.run_bind,run_eqGuard_agg w _ t xo yo xs ys hg,Result.andThen_ok,run_eql_struct,h1]
 ·simp only[Sem.run_bind,run_eqGuard_agg w _ t xo yo xs ys hg,Result.andThen_ok,run_neq_struct,h1]
theorem eqItems_ints(hT:tb.Ok P){e:TypeId}{te:TI}(hte:tb e=some te){k:IntKind}(hk:te.kd=.int k)(hz:te.size=1)(d:Nat){k':IntKind}{xs ys:List Int}(hl:xs.length=ys.length)(w:World):
  ∀(n i:Nat),i+n=xs.length->(Op.eqItems (d+1) e 1 (xs.map (Value.int k')).toArray (ys.map (Value.int k')).toArray (List.range' i n)).run P w=.ok (xs.drop i == ys.drop i) w
 | 0,i,h=>by
  rw[List.drop_of_length_le (by omega),List.drop_of_length_le (by omega)];simp[Op.eqItems]
 | n+1,i,h=>by
  obtain⟨u,hu,hkd⟩:=(hT _ _ hte).desc
  rw[hk] at hkd
  have:=kd_int hkd;subst this
  have hi:i<xs.length:=by omega
  have hi':i<ys.length:=by omega
  have hp:∀(l:List Int)(h:i<l.length),partV te (l.map (Value.int k')).toArray (i*1)=some (.int k' l[i]):=fun l hl=>by
   unfold partV
   rw[hk]
   simp only[Kd.isAgg,Nat.mul_one]
   rw[nth_eq]
   simp[hl]
  have ih:=eqItems_ints hT hte hk hz d (k':=k') hl w n (i+1) (by omega)
  rw[List.range'_succ]
  simp only[Op.eqItems,Sem.run_bind,partV_run hT hte (hp xs hi),partV_run hT hte (hp ys hi'),Result.andThen_ok,run_equalIn_int w d e k' k xs[i] ys[i] hu]
  rw[List.drop_eq_getElem_cons hi,List.drop_eq_getElem_cons hi',List.cons_beq_cons]
  cases hb:xs[i] == ys[i]
  ·simp
  ·simpa using ih
end
def blk(s:Sl):List Nat:=match s.p with
 | some a=>[a.block]
 | none=>[]
abbrev slV(s:Sl):Value:=.slice s.p s.n s.c
def OwS(w:World)(s:Sl)(sz:Nat)(cs:List Value):Prop:=
 (s=⟨none,0,0⟩/\cs=[])\/∃b arr T,s.p=some ⟨b,0,none⟩/\w.heap[b]? =some (.cells arr T (0,0))/\arr.size=s.c*sz/\s.n<=s.c/\arr.toList.take (s.n*sz)=cs
abbrev One(cs:List Value):Prop:=∀x∈cs,x.oneCell'=true
theorem OwS.nil(w:World)(sz:Nat):OwS w ⟨none,0,0⟩ sz []:=.inl ⟨rfl,rfl⟩
theorem OwS.keep{w w':World}{s:Sl}{sz:Nat}{cs:List Value}(h:OwS w s sz cs)(hw:∀b∈blk s,w'.heap[b]? =w.heap[b]?):OwS w' s sz cs:=by
 rcases h with h|⟨b,arr,T,h1,h2,h3⟩
 ·exact .inl h
 ·exact .inr ⟨b,arr,T,h1,by rw[hw b (by simp[blk,h1])];exact h2,h3⟩
theorem OwS.lt{w:World}{s:Sl}{sz:Nat}{cs:List Value}(h:OwS w s sz cs):∀b∈blk s,b<w.heap.size:=by
 rcases h with ⟨rfl,_⟩|⟨b,arr,T,h1,h2,h3⟩
 ·intro b hb;simp[blk] at hb
 ·intro b' hb;simp[blk,h1] at hb;subst hb;exact heap_lt h2
theorem OwS.ch{w w':World}{s:Sl}{sz:Nat}{cs:List Value}{F:Nat->Prop}(h:OwS w s sz cs)(hc:Ch F w w')(hF:∀b∈blk s,¬F b):OwS w' s sz cs:=
 h.keep fun b hb=>hc.old b (h.lt b hb) (hF b hb)
theorem OwS.ext{w w':World}{s:Sl}{sz:Nat}{cs:List Value}(h:OwS w s sz cs)(hc:Ext w w'):OwS w' s sz cs:=h.ch hc fun _ _=>id
theorem OwS.len{w:World}{s:Sl}{sz:Nat}{cs:List Value}(h:OwS w s sz cs):cs.length=s.n*sz:=by
 rcases h with ⟨rfl,rfl⟩|⟨b,arr,T,_,_,h4,h5,rfl⟩
 ·simp
 ·have:s.n*sz<=s.c*sz:=Nat.mul_le_mul_right _ h5
  rw[List.length_take,Array.length_toList,h4];omega
theorem OwS.len1{w:World}{s:Sl}{cs:List Value}(h:OwS w s 1 cs):s.n=cs.length:=by rw[h.len,Nat.mul_one]
theorem OwS.cap{w:World}{s:Sl}{sz:Nat}{cs:List Value}(h:OwS w s sz cs):s.n<=s.c:=by
 rcases h with ⟨rfl,rfl⟩|⟨b,arr,T,_,_,_,h5,_⟩
 ·exact Nat.le_refl _
 ·exact h5
theorem OwS.ptr{w:World}{s:Sl}{sz:Nat}{cs:List Value}(h:OwS w s sz cs)(hn:0<s.n):∃b,s.p=some ⟨b,0,none⟩:=by
 rcases h with ⟨rfl,_⟩|⟨b,arr,T,h1,_⟩
 ·exact absurd hn (Nat.lt_irrefl _)
 ·exact⟨b,h1⟩
theorem slAddr_some(b o c l sz:Nat):slAddr (some ⟨b,o,none⟩) c l sz=some ⟨b,o+(if c=l then 0 else l*sz),none⟩:=by
 unfold slAddr
 split
 ·rfl
 ·simp[Addr.add]
theorem slAddr_none(c l sz:Nat):slAddr none c l sz=none:=by unfold slAddr;split<;>rfl
theorem slAddr_zero(p:Option Addr)(c sz:Nat):slAddr p c 0 sz=p:=by
 cases p with
 | none=>exact slAddr_none _ _ _
 | some a=>
  unfold slAddr
  split
  ·rfl
  ·simp[Addr.add]
theorem OwS.read{w:World}{s:Sl}{sz:Nat}{cs:List Value}(h:OwS w s sz cs)(i m:Nat)(him:i+m<=s.n):ReadC w (slAddr s.p s.c i sz) (m*sz) ((cs.drop (i*sz)).take (m*sz)):=by
 have hl:=h.len
 rcases h with ⟨rfl,rfl⟩|⟨b,arr,T,h1,h3,h4,h5,rfl⟩
 ·rw[slAddr_none]
  simp[ReadC]
 ·rw[h1,slAddr_some]
  have e:(i+m)*sz<=s.n*sz:=Nat.mul_le_mul_right _ him
  rw[Nat.add_mul] at e
  refine⟨by rw[List.length_take,List.length_drop,hl];omega,cellsAt_of h3 fun j v hv=>?_⟩
  rw[List.getElem?_take] at hv
  split at hv
  ·rename_i hj
   split
   ·rename_i hc
    have:s.n=i:=by omega
    subst this
    have:m=0:=by omega
    subst this
    simp at hj
   ·rw[List.getElem?_drop,List.getElem?_take] at hv
    split at hv
    ·rw[show 0+i*sz+j=i*sz+j by omega];simpa using hv
    ·cases hv
  ·cases hv
theorem OwS.readAll{w:World}{s:Sl}{sz:Nat}{cs:List Value}(h:OwS w s sz cs):ReadC w s.p (s.n*sz) cs:=by
 have hl:=h.len
 rcases h with ⟨rfl,rfl⟩|⟨b,arr,T,h1,h3,h4,h5,rfl⟩
 ·rfl
 ·rw[h1]
  refine⟨hl,cellsAt_of h3 fun i v hv=>?_⟩
  rw[Nat.zero_add]
  rw[List.getElem?_take] at hv
  split at hv
  ·simpa using hv
  ·cases hv
theorem OwS.elem{w:World}{s:Sl}{sz:Nat}{cs:List Value}(h:OwS w s sz cs){i:Nat}(hi:i<s.n){l:List Value}(hl:(cs.drop (i*sz)).take sz=l):
  ∃b,s.p=some ⟨b,0,none⟩/\CellsAt w b (i*sz) l:=by
 obtain⟨b,hp⟩:=h.ptr (by omega)
 refine⟨b,hp,?_⟩
 have:=h.read i 1 (by omega)
 rw[hp,slAddr_some,Nat.one_mul] at this
 have hc:=h.cap
 rw[if_neg (by omega),hl] at this
 have:=this.2
 rw[Nat.zero_add] at this
 exact this
theorem OwS.elem1{w:World}{s:Sl}{cs:List Value}(h:OwS w s 1 cs){i:Nat}{v:Value}(hv:cs[i]? =some v):∃b,s.p=some ⟨b,0,none⟩/\w.cell? ⟨b,i,none⟩=some v:=by
 have hi:i<s.n:=by rw[h.len1];exact(List.getElem?_eq_some_iff.1 hv).1
 obtain⟨b,hp,hc⟩:=h.elem hi (l:=[v]) (by
  rw[Nat.mul_one]
  obtain⟨hi',rfl⟩:=List.getElem?_eq_some_iff.1 hv
  rw[List.drop_eq_getElem_cons hi'];rfl)
 exact⟨b,hp,by simpa using hc 0 v rfl⟩
theorem CellsAt.fst{w:World}{b o:Nat}{u v:Value}(h:CellsAt w b o [u,v]):w.cell? ⟨b,o,none⟩=some u:=h 0 u rfl
theorem CellsAt.snd{w:World}{b o:Nat}{u v:Value}(h:CellsAt w b o [u,v]):w.cell? ⟨b,o+1,none⟩=some v:=h 1 v rfl
theorem OwS.cut{w:World}{s:Sl}{sz:Nat}{cs:List Value}(h:OwS w s sz cs){k:Nat}(hk:k<=s.n):OwS w ⟨s.p,k,s.c⟩ sz (cs.take (k*sz)):=by
 rcases h with ⟨rfl,rfl⟩|⟨b,arr,T,h1,h3,h4,h5,rfl⟩
 ·have:k=0:=Nat.le_zero.1 hk
  subst this
  exact .inl ⟨rfl,by simp⟩
 ·refine .inr ⟨b,arr,T,h1,h3,h4,Nat.le_trans hk h5,?_⟩
  dsimp only
  rw[List.take_take,Nat.min_eq_left (Nat.mul_le_mul_right _ hk)]
theorem setsA_list{old:Array Value}{o:Nat}{vs:List Value}(h:o+vs.length<=old.size):(setsA old o vs).toList=old.toList.take o++vs++old.toList.drop (o+vs.length):=by
 rw[setsA_eq old o vs h];rfl
theorem OwS.store{w:World}{s:Sl}{sz:Nat}{cs vs:List Value}{b o:Nat}{K:World->Prop}(h:OwS w s sz cs)(hp:s.p=some ⟨b,0,none⟩)(ho:o+vs.length<=s.n*sz)(h1:One vs)
  (hK:∀w',OwS w' s sz (cs.take o++vs++cs.drop (o+vs.length))->Ch (fun i=>i=b) w w'->K w'):StoreP w b o vs K:=by
 have hl:=h.len
 rcases h with ⟨rfl,rfl⟩|⟨b',arr,T,hp',h3,h4,h5,rfl⟩
 ·cases hp
 ·rw[hp'] at hp
  cases hp
  have e1:s.n*sz<=s.c*sz:=Nat.mul_le_mul_right _ h5
  cases vs with
  | nil=>
   refine hK w (.inr ⟨b,arr,T,hp',h3,h4,h5,?_⟩) (Ch.refl _ _)
   simp
  | cons v vs=>
   refine⟨arr,T,h3,by simp only[List.length_cons] at ho;omega,h1,fun w' hu=>hK w' (.inr ⟨b,_,T,hp',hu.new,?_,h5,?_⟩) hu.ch⟩
   ·rw[<-Array.length_toList,setsA_list (by rw[h4];omega)]
    simp only[List.length_append,List.length_take,List.length_drop,Array.length_toList,h4];omega
   ·rw[setsA_list (by rw[h4];omega)]
    have hA:arr.toList.length=s.c*sz:=by rw[Array.length_toList,h4]
    apply List.ext_getElem?
    intro j
    simp only[List.getElem?_take,List.getElem?_append,List.length_append,List.length_take,List.getElem?_drop,hA,List.length_cons] at*
    by_cases c1:j<s.n*sz
    ·simp only[c1,if_true]
     have:min (min o (s.n*sz)) (s.c*sz)=min o (s.c*sz):=by omega
     simp only[Nat.min_eq_left (show o<=s.c*sz by omega),Nat.min_eq_left (show o<=s.n*sz by omega),Nat.min_eq_left (show s.n*sz<=s.c*sz by omega)]
     repeat' split
     all_goals first|rfl|(exfalso;omega)
    ·simp only[c1,if_false]
     repeat' split
     all_goals first|rfl|(exfalso;omega)
theorem OwS.storeTail{w:World}{s:Sl}{sz:Nat}{cs vs:List Value}{b o:Nat}{K:World->Prop}(h:OwS w s sz cs)(hp:s.p=some ⟨b,0,none⟩)(hn:s.n*sz<=o)(ho:o+vs.length<=s.c*sz)(h1:One vs)
  (hK:∀w',OwS w' s sz cs->Ch (fun i=>i=b) w w'->K w'):StoreP w b o vs K:=by
 rcases h with ⟨rfl,rfl⟩|⟨b',arr,T,hp',h3,h4,h5,rfl⟩
 ·cases hp
 ·rw[hp'] at hp
  cases hp
  cases vs with
  | nil=>exact hK w (.inr ⟨b,arr,T,hp',h3,h4,h5,rfl⟩) (Ch.refl _ _)
  | cons v vs=>
   refine⟨arr,T,h3,by simp only[List.length_cons] at ho;omega,h1,fun w' hu=>hK w' (.inr ⟨b,_,T,hp',hu.new,?_,h5,?_⟩) hu.ch⟩
   ·rw[<-Array.length_toList,setsA_list (by rw[h4];omega)]
    simp only[List.length_append,List.length_take,List.length_drop,Array.length_toList,h4];omega
   ·rw[setsA_list (by rw[h4];omega),List.append_assoc,List.take_append_of_le_length (by rw[List.length_take,Array.length_toList,h4];omega),List.take_take,Nat.min_eq_left hn]
theorem OwS.append{w:World}{s:Sl}{T:TypeId}{sz cnt:Nat}{cs new:List Value}{te:TI}{K:Sl->World->Prop}(h:OwS w s sz cs)(hsz:te.size=sz)(hz:te.zero.cells.size=sz)
  (hn:new.length=cnt*sz)(h1:One new)(hr:Roomy (s.n+cnt) te.bytes)
  (hK:∀s' w',OwS w' s' sz (cs++new)->s'.n=s.n+cnt->Ch (fun i=>i∈blk s) w w'->(∀i∈blk s',i∈blk s\/w.heap.size<=i)->(s.n+cnt<=s.c->s'=⟨s.p,s.n+cnt,s.c⟩)->K s' w'):AppendP te T w s.p s.n s.c cnt new K:=by
 have hlen:=h.len
 have hread:=h.readAll
 refine⟨fun hc=>?_,fun hc=>⟨hr,cs,by rw[hsz];exact hread,fun k hk b w' ha=>?_⟩⟩
 ·rcases h with ⟨rfl,rfl⟩|⟨b,arr,T',hp,ho,hs,hle,rfl⟩
  ·have:cnt=0:=by simpa using hc
   subst this
   have:new=[]:=by simpa using hn
   subst this
   exact hK _ _ (.inl ⟨rfl,by simp⟩) rfl (Ch.refl _ _) (fun i hi=>.inl hi) fun _=>rfl
  ·rw[hp]
   dsimp only
   rw[hsz,Nat.zero_add]
   have hmul:(s.n+cnt)*sz<=s.c*sz:=Nat.mul_le_mul_right _ hc
   rw[Nat.add_mul] at hmul
   have hb:blk s=[b]:=by simp[blk,hp]
   cases new with
   | nil=>
    have e:cnt*sz=0:=by simpa using hn.symm
    refine hK ⟨some ⟨b,0,none⟩,s.n+cnt,s.c⟩ w (.inr ⟨b,arr,T',rfl,ho,hs,hc,?_⟩) rfl (Ch.refl _ _) (fun i hi=>.inl (by rw[hb];simpa [blk] using hi)) fun _=>by rw[hp]
    rw[Nat.add_mul,e];simp
   | cons v vs=>
    refine⟨arr,T',ho,by simp only[List.length_cons] at hn;omega,h1,fun w' hu=>?_⟩
    have e:=setsA_list (old:=arr) (o:=s.n*sz) (vs:=v::vs) (by rw[hn];omega)
    refine hK _ _ (.inr ⟨b,_,T',rfl,hu.new,?_,hc,?_⟩) rfl (hu.ch.mono fun i _ hi=>by rw[hb];simpa using hi) (fun i hi=>.inl (by rw[hb];simpa [blk] using hi)) fun _=>by rw[hp]
    ·rw[<-Array.length_toList,e];simp only[List.length_append,List.length_take,List.length_drop,Array.length_toList,hs,hn];omega
    ·rw[e]
     dsimp only
     rw[Nat.add_mul,<-hn]
     rw[List.take_append_of_le_length (by simp only[List.length_append,List.length_take,Array.length_toList,hs];omega),List.take_of_length_le]
     simp only[List.length_append,List.length_take,Array.length_toList,hs];omega
 ·have e:IsAlloc w (.cells (cs++new++zc te.zero.cells (k-(s.n+cnt))).toArray T (0,0)) b w':=⟨ha.here,ha.size,ha.new,ha.old,⟨ha.rest.os,ha.rest.tape,ha.rest.output⟩⟩
  refine hK _ _ (.inr ⟨b,_,T,rfl,e.new,?_,hk,?_⟩) rfl (e.ch _) (fun i hi=>.inr (Nat.le_of_eq (e.here.symm.trans (by simpa [blk] using hi:i=b).symm))) fun hc'=>absurd hc (Nat.not_lt.2 hc')
  ·simp only[List.size_toArray,List.length_append,zc_len,hlen,hn,hz]
   rw[<-Nat.add_mul,<-Nat.add_mul]
   congr 1
   omega
  ·dsimp only
   rw[List.take_append_of_le_length (by simp only[List.length_append,hlen,hn,Nat.add_mul];omega),List.take_of_length_le]
   simp only[List.length_append,hlen,hn,Nat.add_mul];omega
theorem OwS.new{w w':World}{cs:List Value}{T:TypeId}{b:Nat}(h:IsAlloc w (.cells cs.toArray T (0,0)) b w'){n sz:Nat}(hn:cs.length=n*sz):OwS w' ⟨some ⟨b,0,none⟩,n,n⟩ sz cs:=
 .inr ⟨b,_,T,rfl,h.new,by simpa using hn,Nat.le_refl _,by dsimp only;rw[<-hn];simp⟩
set_option linter.unusedVariables false
theorem cell_ch{F:Nat->Prop}{w w':World}{a:Addr}{v:Value}(h:w.cell? a=some v)(hc:Ch F w w')(hF:¬F a.block):w'.cell? a=some v:=by
 have hb:a.block<w.heap.size:=by
  unfold World.cell? at h
  split at h
  ·rename_i ho;exact heap_lt ho
  ·cases h
 unfold World.cell? at h ⊢
 rw[hc.old _ hb hF];exact h
theorem CellsAt.ch{F:Nat->Prop}{w w':World}{b o:Nat}{cs:List Value}(h:CellsAt w b o cs)(hc:Ch F w w')(hF:¬F b):CellsAt w' b o cs:=
 fun i v hv=>cell_ch (h i v hv) hc hF
theorem ReadC.ch{F:Nat->Prop}{w w':World}{p:Option Addr}{m:Nat}{cs:List Value}(h:ReadC w p m cs)(hc:Ch F w w')(hF:∀a,p=some a->¬F a.block):ReadC w' p m cs:=by
 unfold ReadC at h ⊢
 split at h
 ·exact⟨h.1,h.2.ch hc (hF _ rfl)⟩
 ·exact h
 ·exact h
def Rd(w:World)(s:Sl)(sz:Nat)(cs:List Value):Prop:=cs.length=s.n*sz/\ReadC w s.p (s.n*sz) cs
theorem OwS.rd{w:World}{s:Sl}{sz:Nat}{cs:List Value}(h:OwS w s sz cs):Rd w s sz cs:=⟨h.len,h.readAll⟩
theorem Rd.ch{F:Nat->Prop}{w w':World}{s:Sl}{sz:Nat}{cs:List Value}(h:Rd w s sz cs)(hc:Ch F w w')(hF:∀b∈blk s,¬F b):Rd w' s sz cs:=
 ⟨h.1,h.2.ch hc fun a ha=>hF _ (by simp[blk,ha])⟩
theorem Rd.ext{w w':World}{s:Sl}{sz:Nat}{cs:List Value}(h:Rd w s sz cs)(hc:Ext w w'):Rd w' s sz cs:=h.ch hc fun _ _=>id
theorem Rd.elem{w:World}{s:Sl}{sz:Nat}{cs:List Value}(h:Rd w s sz cs){i:Nat}(hi:i<s.n)(hz:0<sz){l:List Value}(hl:(cs.drop (i*sz)).take sz=l):
  ∃b o,s.p=some ⟨b,o,none⟩/\CellsAt w b (o+i*sz) l:=by
 obtain⟨hn,hr⟩:=h
 have e:(i+1)*sz<=s.n*sz:=Nat.mul_le_mul_right _ hi
 rw[Nat.add_mul,Nat.one_mul] at e
 unfold ReadC at hr
 split at hr
 ·rename_i b o hp
  refine⟨b,o,hp,fun j v hv=>?_⟩
  rw[<-hl,List.getElem?_take] at hv
  split at hv
  ·rw[List.getElem?_drop] at hv
   have:=hr.2 _ _ hv
   rw[show o+i*sz+j=o+(i*sz+j) by omega];exact this
  ·cases hv
 ·have:=hr.1;omega
 ·subst hr
  simp at hn
  omega
theorem Rd.elem1{w:World}{s:Sl}{cs:List Value}(h:Rd w s 1 cs){i:Nat}{v:Value}(hv:cs[i]? =some v):∃b o,s.p=some ⟨b,o,none⟩/\w.cell? ⟨b,o+i,none⟩=some v:=by
 have hi:i<s.n:=by have:=h.1;rw[Nat.mul_one] at this;rw[<-this];exact(List.getElem?_eq_some_iff.1 hv).1
 obtain⟨b,o,hp,hc⟩:=h.elem hi (by omega) (l:=[v]) (by
  rw[Nat.mul_one]
  obtain⟨hi',rfl⟩:=List.getElem?_eq_some_iff.1 hv
  rw[List.drop_eq_getElem_cons hi'];rfl)
 exact⟨b,o,hp,by simpa using hc 0 v rfl⟩
def CloneF(te:TI)(e sz:Nat)(t0:Sl)(w:World)(R:RV):Prop:=
 IfB t0.1.isNone (R (Value.slice none (0:Nat) (0:Nat)) w)
 ((0:Nat)*sz<=(16777216:Nat)/\
 AllocP w (Obj.cells #[] e) fun(b1:Nat) (w2:World)=>
 ∃(l3:List Value),
 ReadC w2 t0.1 (t0.2*sz) l3/\
 AppendP te e w2 (some ({ block:=b1,off:=(0:Nat) }:Addr)) (0:Nat) (0:Nat) t0.2 l3 fun(s4:Sl) (w5:World)=>R (Value.slice s4.1 s4.2 s4.3) w5)
theorem CloneF_of{te:TI}{e sz:Nat}{t0:Sl}{w:World}{R:RV}{cs:List Value}(h:Rd w t0 sz cs)(hsz:te.size=sz)(hz:te.zero.cells.size=sz)(h1:One cs)(hr:Roomy t0.n te.bytes)
  (hK:∀s' w',OwS w' s' sz cs->s'.n=t0.n->Ext w w'->(∀i∈blk s',w.heap.size<=i)->R (slV s') w')(hnil:t0.p=none->t0.n=0):CloneF te e sz t0 w R:=by
 refine IfB.intro (fun hp=>?_) (fun hp=>⟨by simp,fun b1 w2 h2=>⟨cs,h.2.ch (h2.ch (fun _=>False)) (fun _ _=>id),?_⟩⟩)
 ·have hp':t0.p=none:=by cases hq:t0.p with|none=>rfl|some _=>rw[show t0.1=t0.p from rfl,hq] at hp;cases hp
  have hn:=hnil hp'
  have:cs=[]:=by have:=h.1;rw[hn] at this;simpa using this
  subst this
  exact hK ⟨none,0,0⟩ w (.nil _ _) hn.symm (Ch.refl _ _) (by simp[blk])
 ·have ho:OwS w2 ⟨some ⟨b1,0,none⟩,0,0⟩ sz []:=.inr ⟨b1,_,e,rfl,h2.new,by simp,Nat.le_refl _,by simp⟩
  refine ho.append (cnt:=t0.n) hsz hz h.1 h1 (by simpa using hr) fun s' w' ho' hn' hc hb _=>?_
  have hb1:∀i∈blk (⟨some ⟨b1,0,none⟩,0,0⟩:Sl),w.heap.size<=i:=by intro i hi;simp[blk] at hi;rw[hi,h2.here];exact Nat.le_refl _
  refine hK s' w' (by simpa using ho') (by simpa using hn') ((h2.ch _).then hc fun i hi hm=>absurd (hb1 i hm) (by omega)) fun i hi=>?_
  rcases hb i hi with h|h
  ·exact hb1 i h
  ·have:=h2.size;omega
theorem One.append{cs ds:List Value}(h:One cs)(k:One ds):One (cs++ds):=fun x hx=>(List.mem_append.1 hx).elim (h x) (k x)
theorem zc_one{z:Array Value}(h:One z.toList)(n:Nat):One (zc z n):=by
 intro x hx
 unfold zc Builtin.zeroCells at hx
 rw[Array.mem_toList_iff,Array.mem_map] at hx
 obtain⟨i,hi,rfl⟩:=hx
 have hi':=Array.mem_range.1 hi
 have h0:0<z.size:=by
  rcases Nat.eq_zero_or_pos z.size with h0|h0
  ·rw[h0] at hi';simp at hi'
  ·exact h0
 have hlt:=Nat.mod_lt i h0
 apply h
 rw[show z[i%z.size]! =z[i%z.size] from getElem!_pos z (i%z.size) hlt]
 exact Array.mem_toList_iff.2 (Array.getElem_mem _)
def GrowF(te:TI)(e sz:Nat)(t0:Sl)(t1:Int)(w:World)(R:RV):Prop:=
 IfB (decide (t1<(0:Int))) False
 (IfB (decide ((0:Int)<IntKind.i64.wrap (t1-IntKind.i64.wrap ((t0.c:Int)-(t0.n:Int)))))
 (((0:Int)<=(t0.3:Int)/\(t0.3:Int)<=(t0.3:Int))/\
 ((0:Int)<=IntKind.i64.wrap (t1-IntKind.i64.wrap ((t0.3:Int)-(t0.2:Int)))/\
 IntKind.i64.wrap (t1-IntKind.i64.wrap ((t0.3:Int)-(t0.2:Int)))<=(281474976710656:Int)/\IntKind.i64.wrap (t1-IntKind.i64.wrap ((t0.3:Int)-(t0.2:Int)))*(te.bytes:Int)<=(281474976710656:Int))/\
 AppendP te e w (slAddr t0.1 t0.3 (0:Nat) sz) ((t0.3:Int)).toNat t0.3 (IntKind.i64.wrap (t1-IntKind.i64.wrap ((t0.3:Int)-(t0.2:Int)))).toNat
 (zc te.zero.cells (IntKind.i64.wrap (t1-IntKind.i64.wrap ((t0.3:Int)-(t0.2:Int)))).toNat) fun(s1:Sl) (w2:World)=>
 ((0:Int)<=(t0.2:Int)/\(t0.2:Int)<=(s1.3:Int))/\R (Value.slice (slAddr s1.1 s1.3 (0:Nat) sz) ((t0.2:Int)).toNat s1.3) w2)
 (R (Value.slice t0.1 t0.2 t0.3) w))
theorem wrap_of{n:Int}(h0: -9223372036854775808<=n)(h1:n<=9223372036854775807):IntKind.i64.wrap n=n:=by rw[IntKind.wrap_i64];omega
theorem GrowF_nil{te:TI}{e sz k:Nat}{w:World}{R:RV}(hsz:te.size=sz)(hz:te.zero.cells.size=sz)(hz1:One te.zero.cells.toList)(hr:Roomy k te.bytes)(hb:te.bytes<=100000)(hk:k<=1000000)
  (hK:∀s' w',OwS w' s' sz []->s'.n=0->Ext w w'->(∀i∈blk s',w.heap.size<=i)->R (slV s') w'):GrowF te e sz ⟨none,0,0⟩ k w R:=by
 have e0:IntKind.i64.wrap ((k:Int)-IntKind.i64.wrap (((0:Nat):Int)-((0:Nat):Int)))=k:=by
  rw[wrap_of (n:=((0:Nat):Int)-((0:Nat):Int)) (by omega) (by omega),wrap_of (by omega) (by omega)];omega
 refine IfB.no (by simp) (IfB.dec (fun hd=>?_) (fun hd=>?_))
 ·dsimp only at hd ⊢
  rw[e0] at hd
  rw[e0,slAddr_none]
  simp only[Int.toNat_natCast]
  have hkb:k*te.bytes<=1000000*100000:=Nat.mul_le_mul hk hb
  refine⟨⟨by omega,by omega⟩,⟨by omega,by omega,by rw[<-Int.natCast_mul];omega⟩,?_⟩
  refine(OwS.nil w sz).append (cnt:=k) hsz hz (by rw[zc_len,hz]) (zc_one hz1 _) (by show Roomy (0+k) _;rw[Nat.zero_add];exact hr) fun s' w' ho hn hc hb' _=>?_
  refine⟨⟨by omega,by omega⟩,?_⟩
  have hb2:∀i∈blk s',w.heap.size<=i:=fun i hi=>(hb' i hi).elim (fun h=>by simp[blk] at h) id
  have hc2:Ext w w':=hc.mono fun i _ hi=>by simp[blk] at hi
  have:=hK ⟨s'.p,0,s'.c⟩ w' (by simpa using ho.cut (Nat.zero_le _)) rfl hc2 hb2
  rw[slAddr_zero]
  exact this
 ·exact hK ⟨none,0,0⟩ w (.nil _ _) rfl (Ch.refl _ _) (by simp[blk])
def IndexF(P:Program){δ:Type}(E:World->Nat->Nat->Nat->δ->Prop)(V:δ->Value)(t0:Sl)(t1:Nat×Array Value)(w:World)(R:RV):Prop:=
 ∃(y1:Nat->Int->World->Prop),
 (∃(b2:Nat),y1 b2 (0:Int) w)/\
 ∀(b3:Nat)(n4:Int)(w5:World)(y6:Nat->Value),
 y1 b3 n4 w5->
 IfB (decide (n4<(t0.n:Int)))
 (∃(b8:Nat),
 ∃(b9:Nat),
 t0.1=some ({ block:=b8,off:=b9 }:Addr)/\
 ((0:Int)<=n4/\n4<(t0.2:Int))/\
 ∃(s10:δ),
 E w5 b8 b9 n4.toNat s10/\
 CX P t1.1 { toList:=V s10::t1.snd.1 } w5 fun(v11:Value) (w12:World)=>
 ∃(t13:Bool),v11=Value.bool t13/\IfB t13 (R (Value.int IntKind.i64 n4) w12) (([]:List Nat)=[]/\∃(b14:Nat),b14<b3/\y1 b14 (IntKind.i64.wrap (n4+(1:Int))) w12))
 (R (Value.int IntKind.i64 (-1:Int)) w5)
def idxV(o:Option Nat):Int:=match o with
 | some i=>i
 | none=> -1
theorem IndexF_of{P:Program}{δ ε:Type}{E:World->Nat->Nat->Nat->δ->Prop}{V:δ->Value}{t0:Sl}{t1:Nat×Array Value}{w:World}{R:RV}(xs:List ε)(f:ε->δ)(q:ε->Bool)(hn:t0.n=xs.length)(hb:t0.n<=4611686018427387904)
  (hE:∀(i:Nat)(x:ε)(w5:World),xs[i]? =some x->Ext w w5->∃b o,t0.p=some ⟨b,o,none⟩/\E w5 b o i (f x))
  (hq:∀(i:Nat)(x:ε)(w5:World),xs[i]? =some x->Ext w w5->∀R':RV,(∀w',Ext w5 w'->R' (.bool (q x)) w')->CX P t1.1 { toList:=V (f x)::t1.2.toList } w5 R')
  (hK:∀w',Ext w w'->R (.int .i64 (idxV (xs.findIdx? q))) w'):IndexF P E V t0 t1 w R:=by
 refine⟨fun k n w5=>∃i:Nat,n=i/\i<=xs.length/\k+i=xs.length/\Ext w w5/\∀j<i,∀x,xs[j]? =some x->q x=false,⟨xs.length,0,rfl,Nat.zero_le _,rfl,Ch.refl _ _,fun j hj=>absurd hj (Nat.not_lt_zero _)⟩,?_⟩
 rintro k n w5 g ⟨i,rfl,hi,hk,hx,hlow⟩
 refine IfB.dec (fun hlt=>?_) (fun hge=>?_)
 ·have hi':i<xs.length:=by omega
  have hxi:xs[i]? =some xs[i]:=List.getElem?_eq_getElem hi'
  obtain⟨b,o,hp,he⟩:=hE i _ w5 hxi hx
  refine⟨b,o,hp,⟨by omega,hlt⟩,f xs[i],by rw[Int.toNat_natCast];exact he,?_⟩
  refine hq i _ w5 hxi hx _ fun w' hx'=>⟨q xs[i],rfl,IfB.intro (fun ht=>?_) (fun hf=>?_)⟩
  ·have:xs.findIdx? q=some i:=by
    rw[List.findIdx?_eq_some_iff_getElem]
    exact⟨hi',ht,fun j hj=>by have:=hlow j hj _ (List.getElem?_eq_getElem (by omega));simp[this]⟩
   have h2:=hK w' (hx.trans hx')
   rw[this] at h2
   exact h2
  ·refine⟨rfl,k-1,by omega,i+1,by rw[wrap_of (by omega) (by omega)];omega,hi',by omega,hx.trans hx',fun j hj x hjx=>?_⟩
   by_cases hji:j<i
   ·exact hlow j hji x hjx
   ·have:j=i:=by omega
    subst this
    rw[hxi] at hjx;cases hjx;exact hf
 ·have:xs.findIdx? q=none:=by
   rw[List.findIdx?_eq_none_iff]
   intro x hx'
   obtain⟨j,hj,rfl⟩:=List.getElem_of_mem hx'
   exact hlow j (by omega) _ (List.getElem?_eq_getElem hj)
  have h2:=hK w5 hx
  rw[this] at h2
  exact h2
theorem take_succ_get{α:Type}{l:List α}{i:Nat}{x:α}(h:l[i]? =some x):l.take (i+1)=l.take i++[x]:=by
 rw[List.take_add_one,h];rfl
theorem extDrew(w:World):Ext w w.drew:=⟨drew_rest w,Nat.le_refl _,fun _ _ _=>rfl⟩
theorem maxOne{n:Nat}(h:n<=1000000):(if IntKind.i64.wrap ((n:Int)-(1:Int))<(0:Int) then (0:Int) else IntKind.i64.wrap ((n:Int)-(1:Int)))=((n-1:Nat):Int):=by
 rw[wrap_of (by omega) (by omega)];split<;>omega
theorem store_all{w:World}{b:Nat}{vs:List Value}{old:Array Value}{T:TypeId}{K:World->Prop}(hb:w.heap[b]? =some (.cells old T (0,0)))(hl:old.size=vs.length)(h1:One vs)
  (hK:∀w',IsUpd w b (.cells vs.toArray T (0,0)) w'->K w'):StoreP w b 0 vs K:=by
 cases vs with
 | nil=>
  have:old=#[]:=Array.eq_empty_of_size_eq_zero hl
  subst this
  exact hK w ⟨rfl,hb,fun _ _=>rfl,Rest.refl _⟩
 | cons v vs=>
  refine⟨old,T,hb,by rw[hl];simp,h1,fun w' hu=>hK w' ?_⟩
  have e:=setsA_list (old:=old) (o:=0) (vs:=v::vs) (by rw[hl];simp)
  have e2:setsA old 0 (v::vs)=(v::vs).toArray:=by
   apply Array.toList_inj.1
   rw[e,Nat.zero_add,<-hl,List.drop_of_length_le (by simp)]
   simp
  rw[e2] at hu
  exact hu
theorem Stb.fresh{n:Nat}{w w1 w2:World}{o o':Obj}{b:Nat}(h:IsAlloc w o b w1)(k:IsUpd w1 b o' w2)(hn:n<=w.heap.size):Stb n w w2:=by
 have hb:=h.here
 refine⟨by rw[k.size,h.size];omega,fun i hi=>?_,fun i o2 ho _=>?_,h.rest.trans k.rest⟩
 ·rw[k.old i (by omega),h.old i (by omega)]
 ·have hi:=heap_lt ho
  rw[k.old i (by omega),h.old i hi];exact ho
theorem Ext.fresh{w w1 w2:World}{o o':Obj}{b:Nat}(h:IsAlloc w o b w1)(k:IsUpd w1 b o' w2):Ext w w2:=
 (h.ch _).then k.ch fun i hi e=>by have:=h.here;omega
theorem OwS.stb{n:Nat}{w w':World}{s:Sl}{sz:Nat}{cs:List Value}(h:OwS w s sz cs)(hS:Stb n w w'):OwS w' s sz cs:=by
 rcases h with h|⟨b,arr,T,h1,h2,h3⟩
 ·exact .inl h
 ·exact .inr ⟨b,arr,T,h1,hS.keep _ _ h2 rfl,h3⟩
theorem OwS.lit{w:World}{s:Sl}{sz bl:Nat}{cs new:List Value}{te:TI}{T T':TypeId}{K:Sl->World->Prop}(h:OwS w s sz cs)(hb:w.heap[bl]? =some (.cells new.toArray T' (0,0)))(hnew:new.length=sz)(h1:One new)(hsz:te.size=sz)(hz:te.zero.cells.size=sz)
  (hn:s.n<=1000000)(hby:te.bytes<=100000)
  (hK:∀s' w',OwS w' s' sz (cs++new)->s'.n=s.n+1->Ch (fun i=>i∈blk s) w w'->(∀i∈blk s',i∈blk s\/w.heap.size<=i)->K s' w'):
  ∃l,ReadC w (some ⟨bl,0,none⟩) (1*sz) l/\AppendP te T w s.p s.n s.c 1 l K:=by
 refine⟨new,⟨by omega,cellsAt_of hb fun i v hv=>by simpa using hv⟩,h.append (cnt:=1) hsz hz (by omega) h1 ⟨by omega,?_⟩ fun s' w' a b c d _=>hK s' w' a b c d⟩
 exact Nat.le_trans (Nat.mul_le_mul (show 2*(s.n+1)<=3000000 by omega) hby) (by decide)
theorem Rd.len1{w:World}{s:Sl}{cs:List Value}(h:Rd w s 1 cs):s.n=cs.length:=by have:=h.1;omega
theorem Rd.cut{w:World}{s:Sl}{sz:Nat}{cs:List Value}(h:Rd w s sz cs){k:Nat}(hk:k<=s.n):Rd w ⟨s.p,k,s.c⟩ sz (cs.take (k*sz)):=by
 obtain⟨h1,h2⟩:=h
 have e:k*sz<=s.n*sz:=Nat.mul_le_mul_right _ hk
 refine⟨by rw[List.length_take];dsimp only;omega,?_⟩
 unfold ReadC at h2 ⊢
 dsimp only
 split at h2
 ·refine⟨by rw[List.length_take];omega,fun i v hv=>h2.2 i v ?_⟩
  rw[List.getElem?_take] at hv
  split at hv
  ·exact hv
  ·cases hv
 ·obtain⟨h0,rfl⟩:=h2
  exact⟨by omega,by simp⟩
 ·rw[h2];simp
theorem Its.ch{F:Nat->Prop}{W W':World}(hc:Ch F W W')(hF:∀i,F i->∀m s q t,W.heap[i]? ≠some (.mapIter m s q t)):Its W W':=fun i m s q t e=>by
 have hi:=heap_lt e
 rw[hc.old i hi fun h=>hF i h m s q t e];exact e
theorem Its.ext{W W':World}(hc:Ext W W'):Its W W':=Its.ch hc fun _ h=>h.elim
theorem OwS.blkIt{w:World}{s:Sl}{sz:Nat}{cs:List Value}(h:OwS w s sz cs){i:Nat}(hi:i∈blk s)(m:Option Nat)(q:Nat)(a:Array Nat)(t:Nat):w.heap[i]? ≠some (.mapIter m q a t):=by
 rcases h with ⟨rfl,_⟩|⟨b,arr,T,h1,h2,_⟩
 ·simp[blk] at hi
 ·simp only[blk,h1] at hi
  simp at hi
  rw[hi,h2];simp
theorem notIt{w:World}{i:Nat}{cs:Array Value}{T:TypeId}{p:Nat×Nat}(h:w.heap[i]? =some (.cells cs T p))(m:Option Nat)(q:Nat)(a:Array Nat)(t:Nat):w.heap[i]? ≠some (.mapIter m q a t):=by rw[h];simp
section
variable {β:Type} {enc:β->Value}
def MpE(enc:β->Value)(es:List MapEntry)(f:List (Int×β))(ck:Nat):Prop:=
 es.map (fun e=>(e.key,e.val))=f.map (fun p=>(Value.int .i64 p.1,enc p.2))/\(f.map (·.1)).Nodup/\(∀e∈es,e.born<ck)/\(es.map (·.born)).Nodup
def Mp(enc:β->Value)(w:World)(r:Nat)(f:List (Int×β)):Prop:=∃es ck,w.heap[r]? =some (.map es ck)/\MpE enc es.toList f ck
theorem Mp.ch{F:Nat->Prop}{w w':World}{r:Nat}{f:List (Int×β)}(h:Mp enc w r f)(hc:Ch F w w')(hF:¬F r):Mp enc w' r f:=by
 obtain⟨es,ck,h1,h2⟩:=h
 exact⟨es,ck,hc.at h1 hF,h2⟩
theorem Mp.ext{w w':World}{r:Nat}{f:List (Int×β)}(h:Mp enc w r f)(hc:Ext w w'):Mp enc w' r f:=h.ch hc id
theorem Mp.stb{n:Nat}{w w':World}{r:Nat}{f:List (Int×β)}(h:Mp enc w r f)(hS:Stb n w w'):Mp enc w' r f:=by
 obtain⟨es,ck,h1,h2⟩:=h
 exact⟨es,ck,hS.keep _ _ h1 rfl,h2⟩
theorem Mp.new{w w':World}{r:Nat}(h:IsAlloc w (.map #[] 0) r w'):Mp enc w' r []:=⟨_,_,h.new,rfl,.nil,by simp,.nil⟩
theorem Mp.lt{w:World}{r:Nat}{f:List (Int×β)}(h:Mp enc w r f):r<w.heap.size:=by
 obtain⟨es,ck,h1,h2⟩:=h
 exact heap_lt h1
def getM(f:List (Int×β))(k:Int):Option β:=(f.find? fun p=>p.1 == k).map (·.2)
theorem getM_nil(k:Int):getM ([]:List (Int×β)) k=none:=rfl
theorem getM_cons(p:Int×β)(f:List (Int×β))(k:Int):getM (p::f) k=if p.1=k then some p.2 else getM f k:=by
 unfold getM
 by_cases h:p.1=k
 ·rw[if_pos h,List.find?_cons_of_pos (by simpa using h)];rfl
 ·rw[if_neg h,List.find?_cons_of_neg (by simpa using h)]
theorem getM_append(f f':List (Int×β))(k:Int):getM (f++f') k=match getM f k with|some v=>some v|none=>getM f' k:=by
 induction f with
 | nil=>rfl
 | cons p f ih=>
  rw[List.cons_append,getM_cons,getM_cons,ih]
  split<;>rfl
theorem getM_none{f:List (Int×β)}{k:Int}(h:∀p∈f,p.1≠k):getM f k=none:=by
 unfold getM
 rw[List.find?_eq_none.2 (by intro p hp;simpa using h p hp)];rfl
theorem getM_key{f:List (Int×β)}{k:Int}:k∈f.map (·.1)↔getM f k≠none:=by
 induction f with
 | nil=>simp[getM_nil]
 | cons p f ih=>
  rw[getM_cons,List.map_cons,List.mem_cons,ih]
  by_cases h:p.1=k
  ·rw[if_pos h];simp[h]
  ·rw[if_neg h]
   constructor
   ·rintro(e|e)
    ·exact absurd e.symm h
    ·exact e
   ·exact .inr
theorem find_is{k:Int}:∀ {es:List MapEntry}{f:List (Int×β)}(i:Nat),es.map (fun e=>(e.key,e.val))=f.map (fun p=>(Value.int .i64 p.1,enc p.2))->
  ∃r,Instr.findNow (.int .i64) (.int .i64 k) es i=some r/\((r=none/\∀p∈f,p.1≠k)\/∃f1 v f2,f=f1++(k,v)::f2/\r=some (i+f1.length,enc v)/\∀p∈f1,p.1≠k)
 | [],[],i,_=>⟨none,rfl,.inl ⟨rfl,by simp⟩⟩
 | [],_::_,i,h=>by simp at h
 | _::_,[],i,h=>by simp at h
 | e::es,p::f,i,h=>by
  simp only[List.map_cons,List.cons.injEq,Prod.mk.injEq] at h
  obtain⟨⟨h1,h2⟩,h3⟩:=h
  by_cases hk:k=p.1
  ·refine⟨some (i,e.val),by simp[Instr.findNow,h1,Instr.sameNow,hk],.inr ⟨[],p.2,f,by rw[hk];rfl,by rw[h2];rfl,by simp⟩⟩
  ·obtain⟨r,hr,h⟩:=find_is (k:=k) (i+1) h3
   have hkb:(k == p.1)=false:=beq_eq_false_iff_ne.2 hk
   refine⟨r,by simp[Instr.findNow,h1,Instr.sameNow,hkb,hr],?_⟩
   rcases h with ⟨h4,h5⟩|⟨f1,v,f2,rfl,h5,h6⟩
   ·refine .inl ⟨h4,fun q hq=>?_⟩
    rcases List.mem_cons.1 hq with rfl|hq
    ·exact fun e=>hk e.symm
    ·exact h5 q hq
   ·refine .inr ⟨p::f1,v,f2,rfl,by rw[h5,List.length_cons,Nat.add_assoc,Nat.add_comm 1],fun q hq=>?_⟩
    rcases List.mem_cons.1 hq with rfl|hq
    ·exact fun e=>hk e.symm
    ·exact h6 q hq
theorem Mp.get{w:World}{r:Nat}{f:List (Int×β)}(h:Mp enc w r f){k:Int}{z:Value}{K:Value->Bool->Prop}(hK:match getM f k with|some v=>K (enc v) true|none=>K z false):
  MapGetP (.int .i64) w (.map (some r)) (.int .i64 k) z K:=by
 obtain⟨es,ck,hr,h1,h2,h3,h4⟩:=h
 obtain⟨q,hq,h⟩:=find_is (k:=k) 0 h1
 refine⟨es.toList,⟨es,ck,hr,rfl⟩,q,hq,?_⟩
 rcases h with ⟨rfl,h5⟩|⟨f1,v,f2,rfl,rfl,h6⟩
 ·rw[getM_none h5] at hK;exact hK
 ·rw[getM_append,getM_none h6,getM_cons,if_pos rfl] at hK;exact hK
theorem Mp.set{w:World}{r:Nat}{f:List (Int×β)}(h:Mp enc w r f){k:Int}{v:β}{K:World->Prop}
  (hK:∀f' w',(∀k',getM f' k'=if k=k' then some v else getM f k')->Mp enc w' r f'->Ch (fun i=>i=r) w w'->K w'):
  MapSetP (.int .i64) w (.map (some r)) (.int .i64 k) (enc v) K:=by
 obtain⟨es,ck,hr,h1,h2,h3,h4⟩:=h
 obtain⟨q,hq,h⟩:=find_is (k:=k) 0 h1
 refine⟨r,rfl,es,ck,hr,q,hq,?_⟩
 rcases h with ⟨rfl,h5⟩|⟨f1,v0,f2,rfl,rfl,h6⟩
 ·intro w' hu
  refine hK (f++[(k,v)]) w' (fun k'=>?_) ⟨_,_,hu.new,?_,?_,?_,?_⟩ hu.ch
  ·rw[getM_append,getM_cons,getM_nil]
   by_cases hk:k=k'
   ·subst hk;rw[getM_none h5]
   ·rw[if_neg hk,if_neg hk];cases getM f k'<;>rfl
  ·rw[Array.toList_push,List.map_append,List.map_append,h1];rfl
  ·rw[List.map_append,List.nodup_append]
   refine⟨h2,by simp,fun a ha b hb=>?_⟩
   obtain⟨p,hp,rfl⟩:=List.mem_map.1 ha
   simp only[List.map_cons,List.map_nil,List.mem_singleton] at hb
   rw[hb];exact h5 p hp
  ·intro e he
   rw[Array.toList_push,List.mem_append,List.mem_singleton] at he
   rcases he with he|rfl
   ·have:=h3 e he;omega
   ·simp
  ·rw[Array.toList_push,List.map_append,List.nodup_append]
   refine⟨h4,by simp,fun a ha b hb=>?_⟩
   obtain⟨e,he,rfl⟩:=List.mem_map.1 ha
   simp only[List.map_cons,List.map_nil,List.mem_singleton] at hb
   rw[hb]
   have:=h3 e he
   omega
 ·intro w' hu
  rw[Nat.zero_add] at hu
  have hlen:=congrArg List.length h1
  simp only[List.length_map,List.length_append,List.length_cons,Array.length_toList] at hlen
  have hi:f1.length<es.size:=by omega
  have hm:∀ {γ:Type}(F:MapEntry->γ),(es.modify f1.length fun e=>{ e with key:=.int .i64 k,val:=enc v }).toList.map F=(es.toList.map F).set f1.length (F { es[f1.length] with key:=.int .i64 k,val:=enc v }):=fun F=>by
   apply List.ext_getElem?
   intro i
   rw[List.getElem?_map,Array.getElem?_toList,Array.getElem?_modify,List.getElem?_set,List.getElem?_map,Array.getElem?_toList]
   by_cases h:f1.length=i
   ·subst h;simp[hi]
   ·simp[h]
  refine hK (f1++(k,v)::f2) w' (fun k'=>?_) ⟨_,_,hu.new,?_,?_,?_,?_⟩ hu.ch
  ·rw[getM_append,getM_append,getM_cons,getM_cons]
   by_cases hk:k=k'
   ·subst hk;rw[getM_none h6];simp
   ·simp[hk]
  ·rw[hm,h1]
   simp only[List.map_append,List.map_cons]
   rw[List.set_append_right _ _ (by simp)]
   simp
  ·simpa using h2
  ·intro e he
   have hb:e.born∈(es.modify f1.length fun e=>{ e with key:=.int .i64 k,val:=enc v }).toList.map (·.born):=List.mem_map_of_mem he
   rw[hm] at hb
   rcases List.mem_or_eq_of_mem_set hb with hb|hb
   ·obtain⟨e',he',hbe⟩:=List.mem_map.1 hb
    rw[<-hbe];exact h3 e' he'
   ·rw[hb];exact h3 es[f1.length] (by simp)
  ·rw[hm]
   have:(es.toList.map (·.born)).set f1.length es[f1.length].born=es.toList.map (·.born):=by
    apply List.ext_getElem?
    intro i
    rw[List.getElem?_set]
    by_cases h:f1.length=i
    ·subst h;simp[hi]
    ·simp[h]
   rw[this];exact h4
end
def KeysF(P:Program)(t0 t1:Nat)(w:World)(R:RV):Prop:=
 ∃p1:Option Nat,w.cell? ⟨t1,0,none⟩=some (.map p1)/\
 MapItP w (.map p1) fun b2 w3=>∃y4:Nat->Unit->World->Prop,(∃b5,y4 b5 () w3)/\∀(b6:Nat)(y7:Unit)(w8:World)(y9:Nat->Value),y4 b6 y7 w8->
  NextP w8 b2 (fun w11=>R (.tuple #[]) w11) fun v12 v13 w14=>EntryP w14 b2 fun v15 v16=>
   YW P t0 #[v15] w14 fun t17 w18=>IfB (!t17) (R (.tuple #[]) w18) (([]:List Nat)=[]/\∃b19,b19<b6/\y4 b19 () w18)
abbrev iv0(n:Int):Value:=.int .i64 n
def ivA(n:Int):Array Value:=#[.int .i64 n]
abbrev MO:=Option (Nat×Array MapEntry×Nat)
def KeysI(b1:Nat)(p:MO)(W:World):Prop:=
 (∃T,W.heap[b1]? =some (.cells #[.map (p.map (·.1))] T (0,0)))/\match p with
  | none=>True
  | some (r,es,ck)=>W.heap[r]? =some (.map es ck)
def KeysE(p:MO)(ks:List Int):Prop:=match p with
  | none=>ks=[]
  | some (_,es,ck)=>es.toList.map (·.key)=ks.map iv0/\ks.Nodup/\(∀e∈es.toList,e.born<ck)/\(es.toList.map (·.born)).Nodup
theorem find_born{l:List MapEntry}(hn:(l.map (·.born)).Nodup){x:MapEntry}(hx:x∈l):l.find? (fun e=>e.born == x.born)=some x:=by
 induction l with
 | nil=>cases hx
 | cons e l ih=>
  rw[List.map_cons,List.nodup_cons] at hn
  rcases List.mem_cons.1 hx with rfl|hx
  ·rw[List.find?_cons_of_pos (by simp)]
  ·have:e.born≠x.born:=fun h=>hn.1 (h ▸ List.mem_map_of_mem hx)
   rw[List.find?_cons_of_neg (by simpa using this)]
   exact ih hn.2 hx
theorem key_inj{l:List MapEntry}{ks:List Int}(hk:l.map (·.key)=ks.map iv0)(hn:ks.Nodup){x y:MapEntry}(hx:x∈l)(hy:y∈l)(h:x.key=y.key):x=y:=by
 obtain⟨i,hi,rfl⟩:=List.mem_iff_getElem.1 hx
 obtain⟨j,hj,rfl⟩:=List.mem_iff_getElem.1 hy
 have hl:=congrArg List.length hk
 simp only[List.length_map] at hl
 have e1:=congrArg (·[i]?) hk
 have e2:=congrArg (·[j]?) hk
 simp only[List.getElem?_map,List.getElem?_eq_getElem hi,List.getElem?_eq_getElem hj,List.getElem?_eq_getElem (show i<ks.length by omega),List.getElem?_eq_getElem (show j<ks.length by omega),Option.map_some,Option.some.injEq] at e1 e2
 rw[e1,e2] at h
 have:ks[i]'(by omega)=ks[j]'(by omega):=by simpa [iv0] using h
 have hp:=List.pairwise_iff_getElem.1 hn
 rcases Nat.lt_trichotomy i j with h|h|h
 ·exact absurd this (hp i j (by omega) (by omega) h)
 ·subst h;rfl
 ·exact absurd this.symm (hp j i (by omega) (by omega) h)
theorem nodup_len:∀ {a b:List Int},a.Nodup->(∀x∈a,x∈b)->a.length<=b.length
 | [],_,_,_=>Nat.zero_le _
 | x::a,b,hn,h=>by
  rw[List.nodup_cons] at hn
  have hx:=h x List.mem_cons_self
  have ih:=nodup_len (b:=b.erase x) hn.2 fun y hy=>(List.mem_erase_of_ne (fun(e:y=x)=>hn.1 (e ▸ hy))).2 (h y (List.mem_cons_of_mem _ hy))
  rw[List.length_erase_of_mem hx] at ih
  have:=List.length_pos_of_mem hx
  rw[List.length_cons];omega
theorem keys_iter{P:Program}{g:FuncId}(hen:Entr P g){b1:Nat}(hF:∀l W R,KeysF P l b1 W R->CW P g #[.func (.yield l) #[] #[],.pointer (some ⟨b1,0,none⟩)] W R){p:MO}{ks:List Int}(hks:KeysE p ks):
  Iter P g #[.pointer (some ⟨b1,0,none⟩)] ivA false (fun pre x=>x∈ks/\x∉pre) (fun xs=>xs.Perm ks) (KeysI b1 p):=by
 refine⟨hen,fun l J Jx W hJ hJx hInv hSz _ hstep h0=>?_⟩
 obtain⟨⟨T,hT⟩,hM⟩:=hInv _ _ h0
 refine hF l W _ ⟨p.map (·.1),by rw[cell_of hT];rfl,?_⟩
 match p,hks,hM,hInv with
 | none,hks,hM,hInv=>
  have hf:ks=[]:=hks
  subst hf
  refine .inl ⟨rfl,fun b2 w3 h3=>?_⟩
  refine⟨fun _ _ W'=>W'=w3,⟨0,rfl⟩,?_⟩
  rintro _ _ _ _ rfl
  exact .inl ⟨0,#[],0,h3.new,.inl ⟨[],.refl _,hJ _ _ _ h0 (Stb.alloc h3 (Nat.le_refl _))⟩⟩
 | some (r,es,ck),⟨hk,hn,hb,hbn⟩,hM,hInv=>
  refine .inr ⟨r,es,ck,rfl,hM,fun b2 w3 h3=>?_⟩
  have hlk:=congrArg List.length hk
  simp only[List.length_map] at hlk
  refine⟨fun n _ W'=>∃(se:List MapEntry)(pre:List Int),n=ks.length-pre.length/\W'.heap[b2]? =some (.mapIter (some r) ck (se.map (·.born)).toArray ck)/\pre.map iv0=se.map (·.key)/\(∀e∈se,e∈es.toList)/\pre.Nodup/\J pre W'/\W.heap.size<=W'.heap.size,
   ⟨_,[],[],rfl,h3.new,rfl,by simp,.nil,hJ _ _ _ h0 (Stb.alloc h3 (Nat.le_refl _)),by rw[h3.size];omega⟩,?_⟩
  rintro _ _ w8 _ ⟨se,pre,rfl,hit,hpk,hse,hpn,hj,hw8⟩
  obtain⟨_,hM8⟩:=hInv _ _ hj
  have hM8:w8.heap[r]? =some (.map es ck):=hM8
  have pk:∀ {k:Int},k∈pre->∃e∈se,e.key=iv0 k:=fun{k} h=>by
   have:iv0 k∈se.map (·.key):=by rw[<-hpk];exact List.mem_map_of_mem h
   obtain⟨e,he,h⟩:=List.mem_map.1 this
   exact⟨e,he,h⟩
  have sk:∀ {e:MapEntry},e∈es.toList->∃k∈ks,e.key=iv0 k:=fun{e} h=>by
   have:e.key∈ks.map iv0:=by rw[<-hk];exact List.mem_map_of_mem h
   obtain⟨k,hk,h⟩:=List.mem_map.1 this
   exact⟨k,hk,h.symm⟩
  have psub:∀k∈pre,k∈ks:=fun k h=>by
   obtain⟨e,he,h⟩:=pk h
   obtain⟨k',hk',h'⟩:=sk (hse e he)
   rw[h'] at h
   have:k'=k:=by simpa [iv0] using h
   exact this ▸ hk'
  refine .inr ⟨r,ck,_,ck,es,ck,hit,hM8,?_,fun hall d=>?_,fun x hx hns d w' hu=>?_⟩
  ·by_cases he:es.isEmpty=true
   ·exact .inr (.inl he)
   ·have:0<es.size:=by
     rcases Nat.eq_zero_or_pos es.size with h|h
     ·exact absurd (by simp[Array.isEmpty,h]) he
     ·exact h
    exact .inr (.inr ⟨es[0],Array.getElem_mem _,hb _ (by simp)⟩)
  ·refine .inl ⟨pre,?_,hJ _ _ _ hj (Stb.drawn _ _ d)⟩
   refine(List.perm_ext_iff_of_nodup hpn hn).2 fun k=>⟨psub k,fun h=>?_⟩
   have:iv0 k∈es.toList.map (·.key):=by rw[hk];exact List.mem_map_of_mem h
   obtain⟨e,he,hek⟩:=List.mem_map.1 this
   by_cases hc:(se.map (·.born)).toArray.contains e.born=false
   ·have:=hall e (by simpa using he) hc
    have:=hb e he
    omega
   ·have hc:e.born∈se.map (·.born):=by simpa using hc
    obtain⟨e',he',hbb⟩:=List.mem_map.1 hc
    have h1:=find_born hbn he
    have h2:=find_born hbn (hse e' he')
    rw[hbb] at h2
    have:e=e':=Option.some.inj (h1.symm.trans h2)
    subst this
    have:iv0 k∈pre.map iv0:=by rw[hpk,<-hek];exact List.mem_map_of_mem he'
    obtain⟨k',hk',h⟩:=List.mem_map.1 this
    have:k'=k:=by simpa [iv0] using h
    exact this ▸ hk'
  ·have hx':x∈es.toList:=by simpa using hx
   obtain⟨k,hkk,hxk⟩:=sk hx'
   have hit':({ w8 with drawn:=d }:World).heap[b2]? =some (.mapIter (some r) ck (se.map (·.born)).toArray ck):=hit
   have hS:Stb W.heap.size w8 w':=(Stb.drawn _ w8 d).trans (Stb.upd hu hit' rfl (by have:=h3.here;omega))
   have hj':=hJ _ _ _ hj hS
   obtain⟨_,hM'⟩:=hInv _ _ hj'
   have hkp:k∉pre:=fun h=>by
    obtain⟨e,he,hek⟩:=pk h
    have:=key_inj hk hn (hse e he) hx' (hek.trans hxk.symm)
    subst this
    have:(se.map (·.born)).toArray.contains e.born=true:=by simpa using ⟨e,he,rfl⟩
    rw[this] at hns;cases hns
   refine⟨r,ck,_,ck,es,x,hu.new,hM',by simp,?_,?_⟩
   ·rw[<-Array.find?_toList];exact find_born hbn hx'
   ·rw[hxk]
    refine(hstep pre k w' hj' ⟨hkk,hkp⟩).mono fun t w18 ht=>?_
    cases t with
    | false=>exact IfB.yes rfl (.inr ⟨_,ht⟩)
    | true=>
     have hlen:(pre++[k]).length<=ks.length:=by
      have hnd:(pre++[k]).Nodup:=by
       rw[List.nodup_append]
       exact⟨hpn,by simp,fun a ha b hb=>by rw[List.mem_singleton.1 hb];exact fun e=>hkp (e ▸ ha)⟩
      exact nodup_len hnd fun a ha=>by
       rcases List.mem_append.1 ha with h|h
       ·exact psub a h
       ·rw[List.mem_singleton.1 h];exact hkk
     rw[List.length_append,List.length_singleton] at hlen
     refine IfB.no rfl ⟨rfl,ks.length-(pre++[k]).length,by rw[List.length_append,List.length_singleton];omega,se++[x],pre++[k],rfl,?_,?_,?_,?_,ht.1,?_⟩
     ·have:=ht.2 b2 _ _ _ _ hu.new
      rw[this];simp
     ·rw[List.map_append,List.map_append,hpk];simp[hxk]
     ·intro e he
      rcases List.mem_append.1 he with h|h
      ·exact hse e h
      ·rw[List.mem_singleton.1 h];exact hx'
     ·rw[List.nodup_append]
      exact⟨hpn,by simp,fun a ha b hb=>by rw[List.mem_singleton.1 hb];exact fun e=>hkp (e ▸ ha)⟩
     ·exact hSz _ _ ht.1
section
open Go Go.ChangeShapes Go.WideShapes Go.ChangeAt Go.RowKit
variable {H:Type} {enc:TypeId×Value->H} {P:Program}
theorem post_of_below{f:Func}{s:ChangeSpec}{apart fresh handsOn again:Bool}{W W':World}{args:Array Value}{v:Value}{ds gs:List (DataW H)}{before pa pv:List MemPlace}
  (hW:DataW.Whole enc P f.params.toList s.vars apart W args.toList ds gs before)(hB:Below W.heap.size W W')
  (hres:∀(b:Nat)(sp:Nat->Bool)(hd:Bool),DataW.TrodAll enc P W' b sp hd f.resultTypes.toList (v.resultList f.resultTypes.size) (s.fn H (ds++gs)).results [])
  (hargs:∀sp:Nat->Bool,(∀p∈before,sp p.block=true)->DataW.TrodAll enc P W' 0 sp true f.params.toList args.toList (s.fn H (ds++gs)).args pa)
  (hvars:∀sp:Nat->Bool,(∀p∈before,sp p.block=true)->DataW.TrodVars enc P W' sp s.vars (s.fn H (ds++gs)).vars pv)
  (hps:before=pa++pv)
  (hok:∀(j:Nat)(t:TypeId)(r:Value),f.resultTypes[j]? =some t->(v.resultList f.resultTypes.size)[j]? =some r->Value.okWide P W' .any 0 t r):
  s.post enc P f apart fresh handsOn again W args v W':=by
 have low:∀p∈before,p.block<W.heap.size:=hW.lt
 have hold:∀p∈before,(fun b=>decide (b<W.heap.size)) p.block=true:=fun p hp=>decide_eq_true (low p hp)
 refine⟨ds,gs,before,[],pa,pv,hW,hres _ _ _,hargs _ hold,hvars _ hold,World.keptBut_mono (fun p hp=>⟨hp,.inr (by rw[hps] at hp;simpa using hp)⟩) (hB.frame (· ∈before)),fun _=>?_⟩
 obtain⟨_,_,_,_,_,hz,hn⟩:=hW
 refine⟨hok,_,_,([]++pa)++pv,⟨[]++pa,pv,trodAll_append (hargs _ fun _ _=>rfl) (hres _ _ _),hvars _ fun _ _=>rfl,rfl,fun b off hp=>?_,fun ha=>?_⟩,fun p hp _=>?_⟩
 ·rw[List.nil_append,<-hps] at hp
  rw[hB.frozen (low _ hp)]
  exact hz b off hp
 ·have:=hn ha
  rw[hps] at this
  exact this
 ·rw[hps];exact hp
end
inductive Ty where
 | int (k:IntKind)|bool|str
 | pair (a b:Ty)
 | sl (e:Ty)
 | arr (n:Nat) (e:Ty)
@[reducible] def Ty.den:Ty->Type
 | .int _=>Int
 | .bool=>Bool
 | .str=>ByteArray
 | .pair a b=>a.den×b.den
 | .sl e=>List e.den
 | .arr _ e=>List e.den
def Ty.sz:Ty->Nat
 | .pair a b=>a.sz+b.sz
 | .arr n e=>n*e.sz
 | _=>1
def rep(A:Nat->Prop)(w:World):(t:Ty)->t.den->List Value->Prop
 | .int k,n,cs=>cs=[.int k n]/\k.min<=n/\n<=k.max
 | .bool,b,cs=>cs=[.bool b]
 | .str,s,cs=>cs=[.string s]/\s.size<=maxLen
 | .pair a b,x,cs=>∃c d,cs=c++d/\rep A w a x.1 c/\rep A w b x.2 d
 | .sl e,l,cs=>∃s:Sl,cs=[slV s]/\s.n=l.length/\s.n<=s.c/\s.n<=maxLen/\(0<s.n->∀i∈blk s,A i)/\
   ∃css:List (List Value),css.length=l.length/\(∀(i:Nat) c x,css[i]? =some c->l[i]? =some x->rep A w e x c)/\Rd w s e.sz css.flatten
 | .arr n e,l,cs=>l.length=n/\∃css:List (List Value),css.length=l.length/\(∀(i:Nat) c x,css[i]? =some c->l[i]? =some x->rep A w e x c)/\cs=css.flatten
theorem flatten_len{css:List (List Value)}{m:Nat}(h:∀c∈css,c.length=m):css.flatten.length=css.length*m:=by
 induction css with
 | nil=>simp
 | cons c css ih=>
  rw[List.flatten_cons,List.length_append,ih fun d hd=>h d (by simp[hd]),h c (by simp),List.length_cons,Nat.add_mul];omega
theorem flatten_get{css:List (List Value)}{m:Nat}(h:∀c∈css,c.length=m):∀ {i:Nat}{c:List Value},css[i]? =some c->(css.flatten.drop (i*m)).take m=c:=by
 induction css with
 | nil=>intro i c hc;cases hc
 | cons d css ih=>
  have hd:=h d (by simp)
  intro i c hc
  cases i with
  | zero=>cases hc;rw[Nat.zero_mul,List.drop_zero,List.flatten_cons,List.take_append_of_le_length (by omega),List.take_of_length_le (by omega)]
  | succ i=>
   rw[List.flatten_cons,Nat.add_mul,Nat.one_mul,List.drop_append,List.drop_of_length_le (by omega),List.nil_append,show i*m+m-d.length=i*m by omega]
   exact ih (fun c hc=>h c (by simp[hc])) hc
theorem rep_len{A:Nat->Prop}{w:World}:∀ {t:Ty}{x:t.den}{cs:List Value},rep A w t x cs->cs.length=t.sz
 | .int _,_,_,h=>by rw[h.1];rfl
 | .bool,_,_,h=>by rw[show _=_ from h];rfl
 | .str,_,_,h=>by rw[h.1];rfl
 | .pair a b,_,_,h=>by
  obtain⟨c,d,rfl,h1,h2⟩:=h
  rw[List.length_append,rep_len h1,rep_len h2];rfl
 | .sl e,_,_,h=>by obtain⟨s,rfl,_⟩:=h;rfl
 | .arr n e,l,_,h=>by
  obtain⟨hn,css,hl,hr,rfl⟩:=h
  have hm:∀c∈css,c.length=e.sz:=fun c hc=>by
   obtain⟨i,hi,rfl⟩:=List.getElem_of_mem hc
   exact rep_len (hr i _ _ (List.getElem?_eq_getElem hi) (List.getElem?_eq_getElem (by omega)))
  rw[flatten_len hm,hl,hn];rfl
theorem rep_lens{A:Nat->Prop}{w:World}{e:Ty}{l:List e.den}{css:List (List Value)}(hl:css.length=l.length)(hr:∀(i:Nat) c x,css[i]? =some c->l[i]? =some x->rep A w e x c):∀c∈css,c.length=e.sz:=fun c hc=>by
 obtain⟨i,hi,rfl⟩:=List.getElem_of_mem hc
 exact rep_len (hr i _ _ (List.getElem?_eq_getElem hi) (List.getElem?_eq_getElem (by omega)))
theorem Rd.nil{w w':World}{s:Sl}{sz:Nat}{cs:List Value}(h:Rd w s sz cs)(h0:s.n=0):Rd w' s sz cs:=by
 obtain⟨h1,h2⟩:=h
 rw[h0,Nat.zero_mul] at h1
 have:cs=[]:=List.eq_nil_of_length_eq_zero h1
 subst this
 refine⟨by rw[h0];simp,?_⟩
 unfold ReadC at h2 ⊢
 split
 ·exact⟨by rw[h0];simp,fun i v hv=>by simp at hv⟩
 ·exact⟨by rw[h0];simp,rfl⟩
 ·rfl
theorem Rd.ch0{F:Nat->Prop}{w w':World}{s:Sl}{sz:Nat}{cs:List Value}(h:Rd w s sz cs)(hc:Ch F w w')(hF:0<s.n->∀b∈blk s,¬F b):Rd w' s sz cs:=by
 by_cases h0:s.n=0
 ·exact h.nil h0
 ·exact h.ch hc (hF (by omega))
theorem rep_ch{A F:Nat->Prop}{w w':World}(hc:Ch F w w')(hF:∀i,A i->¬F i):∀ {t:Ty}{x:t.den}{cs:List Value},rep A w t x cs->rep A w' t x cs
 | .int _,_,_,h=>h
 | .bool,_,_,h=>h
 | .str,_,_,h=>h
 | .pair a b,_,_,h=>by
  obtain⟨c,d,rfl,h1,h2⟩:=h
  exact⟨c,d,rfl,rep_ch hc hF h1,rep_ch hc hF h2⟩
 | .sl e,_,_,h=>by
  obtain⟨s,rfl,h1,h2,h3,h4,css,h5,h6,h7⟩:=h
  exact⟨s,rfl,h1,h2,h3,h4,css,h5,fun i c x hi hx=>rep_ch hc hF (h6 i c x hi hx),h7.ch0 hc fun h0 b hb=>hF b (h4 h0 b hb)⟩
 | .arr n e,l,_,h=>by
  obtain⟨hn,css,hl,hr,rfl⟩:=h
  exact⟨hn,css,hl,fun i c x hi hx=>rep_ch hc hF (hr i c x hi hx),rfl⟩
theorem rep_ext{A:Nat->Prop}{w w':World}(hc:Ext w w'){t:Ty}{x:t.den}{cs:List Value}(h:rep A w t x cs):rep A w' t x cs:=rep_ch hc (fun _ _=>id) h
theorem rep_mono{A B:Nat->Prop}{w:World}(hB:∀i,A i->B i):∀ {t:Ty}{x:t.den}{cs:List Value},rep A w t x cs->rep B w t x cs
 | .int _,_,_,h=>h
 | .bool,_,_,h=>h
 | .str,_,_,h=>h
 | .pair a b,_,_,h=>by
  obtain⟨c,d,rfl,h1,h2⟩:=h
  exact⟨c,d,rfl,rep_mono hB h1,rep_mono hB h2⟩
 | .sl e,_,_,h=>by
  obtain⟨s,rfl,h1,h2,h3,h4,css,h5,h6,h7⟩:=h
  exact⟨s,rfl,h1,h2,h3,fun h0 i hi=>hB i (h4 h0 i hi),css,h5,fun i c x hi hx=>rep_mono hB (h6 i c x hi hx),h7⟩
 | .arr n e,l,_,h=>by
  obtain⟨hn,css,hl,hr,rfl⟩:=h
  exact⟨hn,css,hl,fun i c x hi hx=>rep_mono hB (hr i c x hi hx),rfl⟩
theorem rep_get{A:Nat->Prop}{w:World}{e:Ty}{l:List e.den}{cs:List Value}(h:rep A w (.sl e) l cs)(hz:0<e.sz){i:Nat}{x:e.den}(hx:l[i]? =some x):
  ∃(s:Sl)(b o:Nat)(c:List Value),cs=[slV s]/\s.n=l.length/\s.p=some ⟨b,o,none⟩/\A b/\CellsAt w b (o+i*e.sz) c/\rep A w e x c:=by
 obtain⟨s,rfl,h1,h2,h3,h4,css,h5,h6,h7⟩:=h
 have hi:i<l.length:=(List.getElem?_eq_some_iff.1 hx).1
 have hc:css[i]? =some (css[i]'(by omega)):=List.getElem?_eq_getElem (by omega)
 obtain⟨b,o,hp,hcc⟩:=h7.elem (i:=i) (by omega) hz (flatten_get (rep_lens h5 h6) hc)
 exact⟨s,b,o,_,rfl,h1,hp,h4 (by omega) b (by simp[blk,hp]),hcc,h6 i _ _ hc hx⟩
def ftB(P:Program)(B:TypeId->Ty->Bool):Nat->List Field->Ty->Bool
 | _,[],_=>false
 | off,[f],ty=>Nat.beq f.offset off&&B f.type ty&&Nat.beq (P.cellsOf f.type) ty.sz
 | off,f::g::fs,ty=>match ty with
  | .pair a b=>Nat.beq f.offset off&&B f.type a&&Nat.beq (P.cellsOf f.type) a.sz&&ftB P B (off+a.sz) (g::fs) b
  | _=>false
def tyB(P:Program):Nat->TypeId->Ty->Bool
 | 0,_,_=>false
 | d+1,t,ty=>match P.underlying t with
  | some (.struct fs)=>ftB P (tyB P d) 0 fs.toList ty&&Nat.beq (P.cellsOf t) ty.sz
  | u=>match u,ty with
   | some (.int k),.int k'=>eqK k k'
   | some .bool,.bool=>true
   | some .string,.str=>true
   | some (.slice e),.sl x=>tyB P d e x&&Nat.beq (P.cellsOf e) x.sz&&Nat.blt 0 x.sz
   | some (.array n e),.arr m x=>Nat.beq n m&&tyB P d e x&&Nat.beq (P.cellsOf e) x.sz&&Nat.beq (P.cellsOf t) (n*x.sz)
   | _,_=>false
section
variable {H:Type} {enc:TypeId×Value->H} {P:Program} {w:World} {base:Nat} {sp:Nat->Bool} {held:Bool}
theorem cells_at{a:Addr}{n:Nat}{c:List Value}(h:w.cells? base a n=some c)(hn:0<n):a.spot=none/\CellsAt w a.block a.off c:=by
 obtain⟨_,hl,hc⟩:=World.cells?_some h
 obtain⟨b,o,s⟩:=a
 have h0:=hc 0 hn
 rw[show (Addr.mk b o s).add 0=⟨b,o,s⟩ from rfl,List.getElem?_eq_getElem (show 0<c.length by omega)] at h0
 have hs:s=none:=by
  unfold World.cell? at h0
  split at h0
  ·cases s with
   | none=>rfl
   | some _=>simp at h0
  ·cases h0
 subst hs
 refine⟨rfl,fun i v hv=>?_⟩
 have:=hc i (by have:=(List.getElem?_eq_some_iff.1 hv).1;omega)
 rw[addr_add,hv] at this
 exact this
theorem pick{α β:Type}{Q:Nat->α->β->Prop}:∀(n:Nat),(∀i,i<n->∃a b,Q i a b)->∃(av:List α)(bs:List β),av.length=n/\bs.length=n/\∀(i:Nat) a b,av[i]? =some a->bs[i]? =some b->Q i a b
 | 0,_=>⟨[],[],rfl,rfl,fun i a b h=>by simp at h⟩
 | n+1,h=>by
  obtain⟨av,bs,h1,h2,h3⟩:=pick n fun i hi=>h i (by omega)
  obtain⟨a,b,hab⟩:=h n (Nat.lt_succ_self n)
  refine⟨av++[a],bs++[b],by simp[h1],by simp[h2],fun i x y hx hy=>?_⟩
  rw[List.getElem?_append] at hx hy
  split at hx
  ·rename_i hi
   rw[if_pos (by omega)] at hy
   exact h3 i x y hx hy
  ·rename_i hi
   rw[if_neg (by omega)] at hy
   have e1:i-av.length=0:=by
    have:=(List.getElem?_eq_some_iff.1 hx).1;simp at this;exact this
   have e2:i-bs.length=0:=by omega
   rw[e1] at hx;rw[e2] at hy
   cases hx;cases hy
   have:i=n:=by omega
   subst this;exact hab
theorem cellsAt_flatten{b m:Nat}:∀ {css:List (List Value)}{o:Nat},(∀(i:Nat) c,css[i]? =some c->CellsAt w b (o+i*m) c)->(∀c∈css,c.length=m)->CellsAt w b o css.flatten
 | [],_,_,_=>fun i v hv=>by simp at hv
 | c::css,o,h,hm=>by
  intro i v hv
  rw[List.flatten_cons,List.getElem?_append] at hv
  split at hv
  ·have:=h 0 c rfl i v hv
   simpa using this
  ·rename_i hi
   have hc:=hm c (by simp)
   have ih:=cellsAt_flatten (css:=css) (o:=o+m) (fun j d hd=>by
    have:=h (j+1) d hd
    rw[show o+m+j*m=o+(j+1)*m by rw[Nat.add_mul];omega];exact this) (fun d hd=>hm d (by simp[hd])) (i-c.length) v hv
   rw[show o+m+(i-c.length)=o+i by omega] at ih
   exact ih
theorem chunks{m:Nat}:∀(n:Nat)(cs:List Value),cs.length=n*m->cs=((List.range n).map fun i=>(cs.drop (i*m)).take m).flatten
 | 0,cs,h=>by
  have:cs=[]:=List.eq_nil_of_length_eq_zero (by omega)
  subst this;rfl
 | n+1,cs,h=>by
  have ih:=chunks (m:=m) n (cs.drop m) (by rw[List.length_drop,h,Nat.add_mul];omega)
  rw[List.range_succ_eq_map,List.map_cons,List.flatten_cons,List.map_map]
  have e:(List.range n).map ((fun i=>(cs.drop (i*m)).take m) ∘ Nat.succ)=(List.range n).map fun i=>((cs.drop m).drop (i*m)).take m:=by
   apply List.map_congr_left
   intro i _
   simp only[Function.comp,List.drop_drop]
   rw[show m+i*m=Nat.succ i*m by rw[Nat.succ_mul];omega]
  rw[e,<-ih]
  simp
theorem ft_rep{B:TypeId->Ty->Bool}{cs:List Value}(hB:∀(f:Field)(ty:Ty),B f.type ty=true->(∃r n,DataW.trod enc P w base sp held n f.type ((cs.drop f.offset).take (P.cellsOf f.type))=some r)->∃x:ty.den,rep (fun _=>True) w ty x ((cs.drop f.offset).take (P.cellsOf f.type))):
  ∀(fs:List Field)(off:Nat)(ty:Ty),ftB P B off fs ty=true->(∀f∈fs,∃r n,DataW.trod enc P w base sp held n f.type ((cs.drop f.offset).take (P.cellsOf f.type))=some r)->∃x:ty.den,rep (fun _=>True) w ty x ((cs.drop off).take ty.sz)
 | [],_,_,h,_=>by cases h
 | [f],off,ty,h,hf=>by
  simp only[ftB,Bool.and_eq_true] at h
  obtain⟨⟨h1,h2⟩,h3⟩:=h
  have e1:=Nat.eq_of_beq_eq_true h1
  have e3:=Nat.eq_of_beq_eq_true h3
  obtain⟨x,hx⟩:=hB f ty h2 (hf f (by simp))
  rw[e1,e3] at hx
  exact⟨x,hx⟩
 | f::g::fs,off,ty,h,hf=>by
  simp only[ftB] at h
  split at h
  ·rename_i a b
   simp only[Bool.and_eq_true] at h
   obtain⟨⟨⟨h1,h2⟩,h3⟩,h4⟩:=h
   have e1:=Nat.eq_of_beq_eq_true h1
   have e3:=Nat.eq_of_beq_eq_true h3
   obtain⟨x,hx⟩:=hB f a h2 (hf f (by simp))
   rw[e1,e3] at hx
   obtain⟨y,hy⟩:=ft_rep hB (g::fs) (off+a.sz) b h4 fun f' hf'=>hf f' (List.mem_cons_of_mem _ hf')
   refine⟨(x,y),_,_,?_,hx,hy⟩
   show (cs.drop off).take (a.sz+b.sz)=_
   rw[List.take_add,List.drop_drop]
  ·cases h
theorem trod_rep:∀(d:Nat)(t:TypeId)(ty:Ty)(fuel:Nat)(cs:List Value)(r:DataW H×List MemPlace),tyB P d t ty=true->DataW.trod enc P w base sp held fuel t cs=some r->∃x:ty.den,rep (fun _=>True) w ty x cs
 | 0,_,_,_,_,_,h,_=>by cases h
 | d+1,t,ty,fuel,cs,r,hty,h=>by
  unfold tyB at hty
  split at hty
  ·rename_i fs hu
   simp only[Bool.and_eq_true] at hty
   obtain⟨h1,h2⟩:=hty
   have htz:=Nat.eq_of_beq_eq_true h2
   obtain⟨xs,n,rfl,_,hl,hxl,hel⟩:=DataW.trod_struct hu h
   have:=ft_rep (enc:=enc) (P:=P) (w:=w) (base:=base) (sp:=sp) (held:=held) (B:=tyB P d) (cs:=cs) (fun f ty hf ⟨r,m,hr⟩=>trod_rep d f.type ty m _ r hf hr) fs.toList 0 ty h1 fun f hf=>by
    obtain⟨i,hi,rfl⟩:=List.getElem_of_mem hf
    have:=hel i (fs.toList[i]) (by rw[<-Array.getElem?_toList,List.getElem?_eq_getElem hi])
    rw[List.getElem?_eq_getElem (by rw[hxl];simpa using hi)] at this
    exact⟨_,n,this⟩
   obtain⟨x,hx⟩:=this
   rw[List.drop_zero,<-htz,<-hl,List.take_length] at hx
   exact⟨x,hx⟩
  ·skip
   split at hty
   ·rename_i k k' hu
    have:=eqK_eq hty;subst this
    obtain⟨n,rfl,_,hw⟩:=DataW.trod_int hu h
    simp only[Lit.wf,Bool.and_eq_true,decide_eq_true_eq] at hw
    exact⟨n,rfl,hw⟩
   ·rename_i hu
    obtain⟨b,rfl,_⟩:=DataW.trod_bool hu h
    exact⟨b,rfl⟩
   ·rename_i hu
    obtain⟨s,rfl,_,hs⟩:=DataW.trod_string hu h
    exact⟨s,rfl,hs⟩
   ·rename_i e x hu
    simp only[Bool.and_eq_true] at hty
    obtain⟨⟨h1,h2⟩,h3⟩:=hty
    have hsz:=Nat.eq_of_beq_eq_true h2
    have hpos:0<x.sz:=by simpa using h3
    rcases DataW.trod_slice hu h with ⟨rfl,_⟩|⟨a,len,cap,elems,rest,n,rfl,rfl,_,_,hl,hm,hlen,hel,_,_⟩
    ·exact⟨[],⟨none,0,0⟩,rfl,rfl,Nat.le_refl _,Nat.zero_le _,fun h=>absurd h (Nat.lt_irrefl _),[],rfl,fun i c y hc=>by simp at hc,by simp[Rd,ReadC]⟩
    ·obtain⟨css,ys,g1,g2,g3⟩:=pick (Q:=fun i (c:List Value) (y:x.den)=>w.cells? base (a.add (i*x.sz)) x.sz=some c/\rep (fun _=>True) w x y c) len fun i hi=>by
      have h4:=hel i hi
      rw[hsz,List.getElem?_eq_getElem (by omega),Option.bind_eq_some_iff] at h4
      obtain⟨c,hc,hy⟩:=h4
      obtain⟨y,hr⟩:=trod_rep d e x n c _ h1 hy
      exact⟨c,y,hc,hr⟩
     refine⟨ys,⟨some a,len,cap⟩,rfl,g2.symm,hl,Nat.le_trans hl hm,fun _ _ _=>trivial,css,by omega,fun i c y hc hy=>(g3 i c y hc hy).2,?_⟩
     have hlens:∀c∈css,c.length=x.sz:=rep_lens (by omega) fun i c y hc hy=>(g3 i c y hc hy).2
     have hfl:=flatten_len hlens
     refine⟨by rw[hfl,g1],?_⟩
     dsimp only
     by_cases h0:len=0
     ·subst h0
      have:css=[]:=List.eq_nil_of_length_eq_zero g1
      subst this
      unfold ReadC
      split
      ·exact⟨by simp,fun i v hv=>by simp at hv⟩
      ·exact⟨by simp,rfl⟩
      ·rfl
     ·have cell0:=(g3 0 _ _ (List.getElem?_eq_getElem (show 0<css.length by omega)) (List.getElem?_eq_getElem (show 0<ys.length by omega))).1
      rw[Nat.zero_mul] at cell0
      have hspot:=(cells_at cell0 hpos).1
      obtain⟨b,o,s⟩:=a
      have hs:s=none:=hspot
      subst hs
      refine⟨by rw[hfl,g1],cellsAt_flatten (m:=x.sz) (fun i c hc=>?_) hlens⟩
      have hi:i<css.length:=(List.getElem?_eq_some_iff.1 hc).1
      have:=(cells_at (g3 i c _ hc (List.getElem?_eq_getElem (show i<ys.length by omega))).1 hpos).2
      rw[addr_add] at this
      exact this
   ·rename_i n e m x hu
    simp only[Bool.and_eq_true] at hty
    obtain⟨⟨⟨h0,h1⟩,h2⟩,h3⟩:=hty
    have hnm:=Nat.eq_of_beq_eq_true h0
    have hsz:=Nat.eq_of_beq_eq_true h2
    have htz:=Nat.eq_of_beq_eq_true h3
    subst hnm
    obtain⟨xs,k,rfl,_,hl,hxl,hel⟩:=DataW.trod_array hu h
    rw[htz] at hl
    obtain⟨css,ys,g1,g2,g3⟩:=pick (Q:=fun i (c:List Value) (y:x.den)=>c=(cs.drop (i*x.sz)).take x.sz/\rep (fun _=>True) w x y c) n fun i hi=>by
     have h4:=hel i hi
     rw[hsz,List.getElem?_eq_getElem (by omega)] at h4
     obtain⟨y,hr⟩:=trod_rep d e x k _ _ h1 h4
     exact⟨_,y,rfl,hr⟩
    refine⟨ys,g2,css,by omega,fun i c y hc hy=>(g3 i c y hc hy).2,?_⟩
    have e1:css=(List.range n).map fun i=>(cs.drop (i*x.sz)).take x.sz:=by
     apply List.ext_getElem?
     intro i
     by_cases hi:i<n
     ·rw[List.getElem?_map,List.getElem?_range hi,List.getElem?_eq_getElem (by omega)]
      have:=(g3 i _ _ (List.getElem?_eq_getElem (show i<css.length by omega)) (List.getElem?_eq_getElem (show i<ys.length by omega))).1
      rw[this];rfl
     ·rw[List.getElem?_eq_none (by omega),List.getElem?_eq_none (by simp;omega)]
    rw[e1]
    exact chunks n cs hl
   ·cases hty
theorem open_arg{d:Nat}{t:TypeId}{ty:Ty}{v:Value}{x:DataW H}{ps:List MemPlace}(hty:tyB P d t ty=true)(h:DataW.Trod enc P w base sp held t v x ps):∃y:ty.den,rep (fun _=>True) w ty y v.cells.toList:=by
 obtain⟨fuel,h⟩:=h
 exact trod_rep d t ty fuel _ _ hty h
theorem trod_keep{t:TypeId}(hl:laidOutB P=true)(hr:P.readableRec t=true)(hrow:t<P.types.size){W W':World}{v:Value}{d:DataW H}{ps:List MemPlace}
  (h:DataW.Trod enc P W 0 (fun _=>true) true t v d ps)(hb:RowKit.Below W.heap.size W W')(hlt:∀x∈ps,x.block<W.heap.size){sp:Nat->Bool}(hsp:∀x∈ps,sp x.block=true):DataW.Trod enc P W' 0 sp true t v d ps:=
 WideElems.Trod_stays hl hr hrow h (fun x hx=>hb.same (hlt x hx)) hsp
theorem val_of_cells{r:Reach}{b0:Nat}{t:TypeId}{v:Value}{c:Value}(hval:Value.okWide P w r b0 t v)(hu:∀fs n e,P.underlying t≠some (.struct fs)/\P.underlying t≠some (.array n e))(h:v.cells.toList=[c]):v=c:=by
 cases v with
 | agg cs=>
  unfold Value.okWide at hval
  split at hval
  ·rename_i fs hs;exact absurd hs (hu fs 0 0).1
  ·rename_i n e hs;exact absurd hs (hu #[] n e).2
  ·unfold Cell.okWide at hval
   split at hval<;>first|contradiction|skip
   unfold Cell.ok at hval
   split at hval<;>first|contradiction|exact hval.elim
 | _=>simpa [Value.cells] using h
theorem val_agg{r:Reach}{b0:Nat}{t:TypeId}{v:Value}(hval:Value.okWide P w r b0 t v)(hu:(∃fs,P.underlying t=some (.struct fs))\/∃n e,P.underlying t=some (.array n e)):v=.agg v.cells:=by
 unfold Value.okWide at hval
 rcases hu with ⟨fs,hs⟩|⟨n,e,hs⟩
 ·rw[hs] at hval;obtain⟨cs,rfl,_⟩:=hval;rfl
 ·rw[hs] at hval;obtain⟨cs,rfl,_⟩:=hval;rfl
end
def posT:Ty->Bool
 | .pair a b=>posT a&&posT b
 | .sl e=>Nat.blt 0 e.sz&&posT e
 | .arr _ e=>posT e
 | _=>true
theorem cellLt{w:World}{a:Addr}{v:Value}(h:w.cell? a=some v):a.block<w.heap.size:=by
 unfold World.cell? at h
 split at h
 ·rename_i ho;exact heap_lt ho
 ·cases h
theorem rd_lt{w:World}{s:Sl}{sz:Nat}{cs:List Value}(h:Rd w s sz cs)(hz:0<sz)(h0:0<s.n):∀i∈blk s,i<w.heap.size:=by
 obtain⟨b,o,hp,hc⟩:=h.elem h0 hz rfl
 intro i hi
 simp[blk,hp] at hi
 subst hi
 have hl:((cs.drop (0*sz)).take sz).length=sz:=by
  rw[List.length_take,List.length_drop,h.1]
  have:1*sz<=s.n*sz:=Nat.mul_le_mul_right _ h0
  omega
 cases hq:(cs.drop (0*sz)).take sz with
 | nil=>rw[hq] at hl;simp at hl;omega
 | cons v l=>rw[hq] at hc;exact cellLt (hc 0 v rfl)
theorem rep_old{A:Nat->Prop}{w:World}:∀ {t:Ty}{x:t.den}{cs:List Value},posT t=true->rep A w t x cs->rep (fun i=>i<w.heap.size) w t x cs
 | .int _,_,_,_,h=>h
 | .bool,_,_,_,h=>h
 | .str,_,_,_,h=>h
 | .pair a b,_,_,hp,h=>by
  simp only[posT,Bool.and_eq_true] at hp
  obtain⟨c,d,rfl,h1,h2⟩:=h
  exact⟨c,d,rfl,rep_old hp.1 h1,rep_old hp.2 h2⟩
 | .sl e,_,_,hp,h=>by
  simp only[posT,Bool.and_eq_true] at hp
  obtain⟨s,rfl,h1,h2,h3,h4,css,h5,h6,h7⟩:=h
  exact⟨s,rfl,h1,h2,h3,fun h0=>rd_lt h7 (by simpa using hp.1) h0,css,h5,fun i c x hi hx=>rep_old hp.2 (h6 i c x hi hx),h7⟩
 | .arr n e,l,_,hp,h=>by
  obtain⟨hn,css,hl,hr,rfl⟩:=h
  exact⟨hn,css,hl,fun i c x hi hx=>rep_old (t:=e) hp (hr i c x hi hx),rfl⟩
theorem slEq{s t:Sl}(h:[slV s]=[slV t]):s=t:=by
 obtain⟨p,n,c⟩:=s
 obtain⟨p',n',c'⟩:=t
 simp only[List.cons.injEq,Value.slice.injEq,and_true] at h
 obtain⟨rfl,rfl,rfl⟩:=h;rfl
theorem CellsAt.left{w:World}{b o:Nat}{c d:List Value}(h:CellsAt w b o (c++d)):CellsAt w b o c:=fun i v hv=>h i v (by
 rw[List.getElem?_append_left (List.getElem?_eq_some_iff.1 hv).1];exact hv)
theorem CellsAt.right{w:World}{b o:Nat}{c d:List Value}(h:CellsAt w b o (c++d)):CellsAt w b (o+c.length) d:=fun i v hv=>by
 have:=h (c.length+i) v (by rw[List.getElem?_append_right (by omega),Nat.add_sub_cancel_left];exact hv)
 rw[show o+c.length+i=o+(c.length+i) by omega];exact this
theorem cell_stb{n:Nat}{w w':World}{a:Addr}{v:Value}(h:w.cell? a=some v)(hS:Stb n w w'):w'.cell? a=some v:=by
 unfold World.cell? at h ⊢
 split at h
 ·rename_i ho;rw[hS.keep _ _ ho rfl];exact h
 ·cases h
theorem rd_stb{n:Nat}{w w':World}{s:Sl}{sz:Nat}{cs:List Value}(h:Rd w s sz cs)(hS:Stb n w w'):Rd w' s sz cs:=by
 obtain⟨h1,h2⟩:=h
 refine⟨h1,?_⟩
 unfold ReadC at h2 ⊢
 split at h2
 ·exact⟨h2.1,fun i v hv=>cell_stb (h2.2 i v hv) hS⟩
 ·exact h2
 ·exact h2
inductive TC{α:Type}(E:α->α->Prop):α->α->Prop
 | one {a b:α}:E a b->TC E a b
 | more {a b c:α}:TC E a b->E b c->TC E a c
section
variable {α:Type} {E E':α->α->Prop}
theorem TC.trans{a b c:α}(h:TC E a b)(k:TC E b c):TC E a c:=by
 induction k with
 | one e=>exact .more h e
 | more _ e ih=>exact .more ih e
theorem TC.mono(hE:∀a b,E a b->E' a b){a b:α}(h:TC E a b):TC E' a b:=by
 induction h with
 | one e=>exact .one (hE _ _ e)
 | more _ e ih=>exact .more ih (hE _ _ e)
theorem TC.last{a b:α}(h:TC E a b):∃c,E c b/\(c=a\/TC E a c):=by
 cases h with
 | one e=>exact⟨_,e,.inl rfl⟩
 | more h e=>exact⟨_,e,.inr h⟩
theorem TC.first{a b:α}(h:TC E a b):∃c,E a c/\(c=b\/TC E c b):=by
 induction h with
 | one e=>exact⟨_,e,.inl rfl⟩
 | more h e ih=>
  obtain⟨c,h1,h2⟩:=ih
  refine⟨c,h1,.inr ?_⟩
  rcases h2 with rfl|h2
  ·exact .one e
  ·exact .more h2 e
theorem filter_lt{p q:α->Bool}:∀ {l:List α}{t:α},(∀x,p x=true->q x=true)->t∈l->q t=true->p t=false->(l.filter p).length<(l.filter q).length
 | x::l,t,h,ht,hq,hp=>by
  have le:∀l:List α,(l.filter p).length<=(l.filter q).length:=fun l=>by
   induction l with
   | nil=>exact Nat.le_refl _
   | cons y l ih=>
    rw[List.filter_cons,List.filter_cons]
    cases hy:p y with
    | true=>rw[h y hy];simpa using ih
    | false=>
     cases q y
     ·simpa using ih
     ·simp;omega
  rw[List.filter_cons,List.filter_cons]
  rcases List.mem_cons.1 ht with rfl|ht
  ·rw[hp,hq]
   have:=le l
   simp;omega
  ·have ih:=filter_lt (l:=l) h ht hq hp
   cases hx:p x with
   | true=>rw[h x hx];simpa using ih
   | false=>
    cases q x
    ·simpa using ih
    ·simp;omega
theorem acyc_some{keys:List α}(ha:∀k,¬TC E k k)(hk:∀a b,E a b->a∈keys){k:α}(h0:∃b,E k b):∃a,(∃b,E a b)/\∀b,E a b->∀c,¬E b c:=by
 classical
 have main:∀(n:Nat)(k:α),(keys.filter fun x=>decide (TC E k x)).length<=n->(∃b,E k b)->∃a,(∃b,E a b)/\∀b,E a b->∀c,¬E b c:=by
  intro n
  induction n with
  | zero=>
   intro k hn hkb
   refine⟨k,hkb,fun b hb c hc=>?_⟩
   have hm:b∈keys.filter fun x=>decide (TC E k x):=List.mem_filter.2 ⟨hk _ _ hc,decide_eq_true (.one hb)⟩
   have:(keys.filter fun x=>decide (TC E k x))=[]:=List.eq_nil_of_length_eq_zero (by omega)
   rw[this] at hm;cases hm
  | succ n ih=>
   intro k hn hkb
   by_cases hex:∃b c,E k b/\E b c
   ·obtain⟨b,c,hb,hc⟩:=hex
    refine ih b ?_ ⟨c,hc⟩
    have:=filter_lt (p:=fun x=>decide (TC E b x)) (q:=fun x=>decide (TC E k x)) (l:=keys) (t:=b) (fun x hx=>decide_eq_true ((TC.one hb).trans (of_decide_eq_true hx))) (hk _ _ hc) (decide_eq_true (.one hb)) (decide_eq_false (ha b))
    omega
   ·exact⟨k,hkb,fun b hb c hc=>hex ⟨b,c,hb,hc⟩⟩
 exact main _ k (Nat.le_refl _) h0
end
section
variable {δ:Type} {sv:δ->List Value} {sz:Nat}
theorem flatLen(h:∀x,(sv x).length=sz):∀l:List δ,(l.flatMap sv).length=l.length*sz
 | []=>by simp
 | x::l=>by rw[List.flatMap_cons,List.length_append,flatLen h l,h,List.length_cons,Nat.add_mul];omega
theorem flatTake(h:∀x,(sv x).length=sz):∀(l:List δ)(i:Nat),(l.flatMap sv).take (i*sz)=(l.take i).flatMap sv
 | [],i=>by simp
 | x::l,0=>by simp
 | x::l,i+1=>by
  rw[List.flatMap_cons,List.take_succ_cons,List.flatMap_cons,<-flatTake h l i,Nat.add_mul,Nat.one_mul,Nat.add_comm,<-h x,List.take_length_add_append]
theorem flatDrop(h:∀x,(sv x).length=sz):∀(l:List δ)(i:Nat),(l.flatMap sv).drop (i*sz)=(l.drop i).flatMap sv
 | [],i=>by simp
 | x::l,0=>by simp
 | x::l,i+1=>by
  rw[List.flatMap_cons,List.drop_succ_cons,<-flatDrop h l i,Nat.add_mul,Nat.one_mul,Nat.add_comm,<-h x,List.drop_length_add_append]
theorem flatSet(h:∀x,(sv x).length=sz){l:List δ}{i:Nat}{x:δ}(hi:i<l.length):(l.flatMap sv).take (i*sz)++sv x++(l.flatMap sv).drop (i*sz+sz)=(l.set i x).flatMap sv:=by
 rw[List.set_eq_take_append_cons_drop,if_pos hi,List.flatMap_append,List.flatMap_cons,flatTake h,show i*sz+sz=(i+1)*sz by rw[Nat.add_mul,Nat.one_mul],flatDrop h]
 simp
theorem flatGet(h:∀x,(sv x).length=sz){l:List δ}{i:Nat}{x:δ}(hx:l[i]? =some x):((l.flatMap sv).drop (i*sz)).take sz=sv x:=by
 obtain⟨hi,rfl⟩:=List.getElem?_eq_some_iff.1 hx
 rw[flatDrop h,List.drop_eq_getElem_cons hi,List.flatMap_cons,<-h l[i],List.take_append_of_le_length (Nat.le_refl _),List.take_length]
theorem flatOne(h:∀x,One (sv x))(l:List δ):One (l.flatMap sv):=by
 intro v hv
 obtain⟨x,_,hx⟩:=List.mem_flatMap.1 hv
 exact h x v hx
theorem owsN{w:World}{t:Sl}{l:List δ}(h:∀x,(sv x).length=sz)(hz:0<sz)(ho:OwS w t sz (l.flatMap sv)):t.n=l.length:=by
 have:=ho.len
 rw[flatLen h] at this
 exact(Nat.eq_of_mul_eq_mul_right hz this).symm
theorem rdN{w:World}{t:Sl}{l:List δ}(h:∀x,(sv x).length=sz)(hz:0<sz)(ho:Rd w t sz (l.flatMap sv)):t.n=l.length:=by
 have:=ho.1
 rw[flatLen h] at this
 exact(Nat.eq_of_mul_eq_mul_right hz this).symm
end
theorem takeFilter{α:Type}{p:α->Bool}{l:List α}{i:Nat}{x:α}(h:l[i]? =some x):(l.take (i+1)).filter p=(l.take i).filter p++if p x then [x] else []:=by
 rw[take_succ_get h,List.filter_append]
 cases hp:p x<;>simp[hp]
theorem Ch.stbE{n:Nat}{w W W':World}(e:Ext w W)(hS:Stb n W W')(hn:w.heap.size<=n):Ext w W':=e.then (.ofStb hS) fun i hi h=>by omega
theorem Ch.chN{F:Nat->Prop}{w W W':World}(e:Ext w W)(hC:Ch F W W')(hF:∀i,F i->w.heap.size<=i):Ext w W':=e.then hC fun i hi h=>by have:=hF i h;omega
abbrev tt3:TI:={ kd:=.int .i64,size:=1,bytes:=8,zero:=(.int .i64 0),sh:=.one (.int .i64) }
abbrev tt23:TI:={ kd:=.array 4 3,size:=4,bytes:=32,zero:=(.agg #[(.int .i64 0),(.int .i64 0),(.int .i64 0),(.int .i64 0)]),sh:=.agg [.int .i64,.int .i64,.int .i64,.int .i64] }
abbrev tt24:TI:={ kd:=.array 4 23,size:=16,bytes:=128,zero:=(.agg #[(.int .i64 0),(.int .i64 0),(.int .i64 0),(.int .i64 0),(.int .i64 0),(.int .i64 0),(.int .i64 0),(.int .i64 0),(.int .i64 0),(.int .i64 0),(.int .i64 0),(.int .i64 0),(.int .i64 0),(.int .i64 0),(.int .i64 0),(.int .i64 0)]),sh:=.one .arr }
abbrev tt30:TI:={ kd:=.slice 3,size:=1,bytes:=24,zero:=(.slice none 0 0),sh:=.one .sl }
abbrev tt44:TI:={ kd:=.struct [(3,0),(3,1),(3,2)],size:=3,bytes:=24,zero:=(.agg #[(.int .i64 0),(.int .i64 0),(.int .i64 0)]),sh:=.agg [.int .i64,.int .i64,.int .i64] }
abbrev tt49:TI:={ kd:=.struct [(9,0),(3,1),(47,2),(47,3),(4,4)],size:=5,bytes:=80,zero:=(.agg #[(.string ⟨#[]⟩),(.int .i64 0),(.slice none 0 0),(.slice none 0 0),(.bool false)]),sh:=.agg [.str,.int .i64,.sl,.sl,.bool] }
abbrev tt53:TI:={ kd:=.struct [(3,0),(3,1),(3,2),(4,3),(51,4),(51,5)],size:=6,bytes:=80,zero:=(.agg #[(.int .i64 0),(.int .i64 0),(.int .i64 0),(.bool false),(.slice none 0 0),(.slice none 0 0)]),sh:=.agg [.int .i64,.int .i64,.int .i64,.bool,.sl,.sl] }
abbrev tt95:TI:={ kd:=.struct [(3,0),(3,1),(3,2),(3,3),(93,4),(93,6),(2,8)],size:=9,bytes:=72,zero:=(.agg #[(.int .i64 0),(.int .i64 0),(.int .i64 0),(.int .i64 0),(.int .i64 0),(.int .i64 0),(.int .i64 0),(.int .i64 0),(.int .i64 0)]),sh:=.agg [.int .i64,.int .i64,.int .i64,.int .i64,.int .i64,.int .i64,.int .i64,.int .i64,.int .i64] }
abbrev tt99:TI:={ kd:=.struct [(96,0),(97,1)],size:=2,bytes:=48,zero:=(.agg #[(.slice none 0 0),(.slice none 0 0)]),sh:=.agg [.sl,.sl] }
abbrev tt101:TI:={ kd:=.struct [(3,0),(3,1)],size:=2,bytes:=16,zero:=(.agg #[(.int .i64 0),(.int .i64 0)]),sh:=.agg [.int .i64,.int .i64] }
abbrev tt139:TI:={ kd:=.struct [(26,0),(39,17),(102,18),(137,19)],size:=20,bytes:=224,zero:=(.agg #[(.slice none 0 0),(.int .i64 0),(.int .i64 0),(.int .i64 0),(.int .i64 0),(.int .i64 0),(.int .i64 0),(.int .i64 0),(.int .i64 0),(.int .i64 0),(.int .i64 0),(.int .i64 0),(.int .i64 0),(.int .i64 0),(.int .i64 0),(.int .i64 0),(.int .i64 0),(.slice none 0 0),(.slice none 0 0),(.slice none 0 0)]),sh:=.one .arr }
abbrev tt147:TI:={ kd:=.array 2 145,size:=2,bytes:=16,zero:=(.agg #[(.int .u64 0),(.int .u64 0)]),sh:=.agg [.int .u64,.int .u64] }
abbrev tt217:TI:={ kd:=.struct [(93,0),(93,2),(4,4)],size:=5,bytes:=40,zero:=(.agg #[(.int .i64 0),(.int .i64 0),(.int .i64 0),(.int .i64 0),(.bool false)]),sh:=.agg [.int .i64,.int .i64,.int .i64,.int .i64,.bool] }
abbrev tt223:TI:={ kd:=.func,size:=1,bytes:=8,zero:=.nilFunc,sh:=.one .clo }
abbrev lC44(x:Int×Int×Int):List Value:=[.int .i64 x.1,.int .i64 x.2.1,.int .i64 x.2.2] -- .int .i64, .int .i64, .int .i64
abbrev lC49(x:ByteArray×Int×Sl×Sl×Bool):List Value:=[.string x.1,.int .i64 x.2.1,.slice x.2.2.1.1 x.2.2.1.2 x.2.2.1.3,.slice x.2.2.2.1.1 x.2.2.2.1.2 x.2.2.2.1.3,.bool x.2.2.2.2] -- .str, .int .i64, .sl, .sl, .bool
abbrev lC53(x:Int×Int×Int×Bool×Sl×Sl):List Value:=[.int .i64 x.1,.int .i64 x.2.1,.int .i64 x.2.2.1,.bool x.2.2.2.1,.slice x.2.2.2.2.1.1 x.2.2.2.2.1.2 x.2.2.2.2.1.3,.slice x.2.2.2.2.2.1 x.2.2.2.2.2.2 x.2.2.2.2.2.3] -- .int .i64, .int .i64, .int .i64, .bool, .sl, .sl
abbrev lC95(x:Int×Int×Int×Int×Int×Int×Int×Int×Int):List Value:=[.int .i64 x.1,.int .i64 x.2.1,.int .i64 x.2.2.1,.int .i64 x.2.2.2.1,.int .i64 x.2.2.2.2.1,.int .i64 x.2.2.2.2.2.1,.int .i64 x.2.2.2.2.2.2.1,.int .i64 x.2.2.2.2.2.2.2.1,.int .i64 x.2.2.2.2.2.2.2.2] -- .int .i64, .int .i64, .int .i64, .int .i64, .int .i64, .int .i64, .int .i64, .int .i64, .int .i64
abbrev lC217(x:Int×Int×Int×Int×Bool):List Value:=[.int .i64 x.1,.int .i64 x.2.1,.int .i64 x.2.2.1,.int .i64 x.2.2.2.1,.bool x.2.2.2.2] -- .int .i64, .int .i64, .int .i64, .int .i64, .bool
def tbL:List (Nat×TI):=[
 (0,{ kd:=.other,size:=1,bytes:=0,zero:=(.tuple #[]),sh:=.tup [] }),
 (2,{ kd:=.int .i64,size:=1,bytes:=8,zero:=(.int .i64 0),sh:=.one (.int .i64) }),
 (3,{ kd:=.int .i64,size:=1,bytes:=8,zero:=(.int .i64 0),sh:=.one (.int .i64) }),
 (4,{ kd:=.bool,size:=1,bytes:=1,zero:=(.bool false),sh:=.one .bool }),
 (5,{ kd:=.int .u8,size:=1,bytes:=1,zero:=(.int .u8 0),sh:=.one (.int .u8) }),
 (9,{ kd:=.string,size:=1,bytes:=16,zero:=(.string ⟨#[]⟩),sh:=.one .str }),
 (20,{ kd:=.iface,size:=1,bytes:=16,zero:=.nilIface,sh:=.one .any }),
 (22,{ kd:=.slice 49,size:=1,bytes:=24,zero:=(.slice none 0 0),sh:=.one .sl }),
 (23,{ kd:=.array 4 3,size:=4,bytes:=32,zero:=(.agg #[(.int .i64 0),(.int .i64 0),(.int .i64 0),(.int .i64 0)]),sh:=.agg [.int .i64,.int .i64,.int .i64,.int .i64] }),
 (24,{ kd:=.array 4 23,size:=16,bytes:=128,zero:=(.agg #[(.int .i64 0),(.int .i64 0),(.int .i64 0),(.int .i64 0),(.int .i64 0),(.int .i64 0),(.int .i64 0),(.int .i64 0),(.int .i64 0),(.int .i64 0),(.int .i64 0),(.int .i64 0),(.int .i64 0),(.int .i64 0),(.int .i64 0),(.int .i64 0)]),sh:=.one .arr }),
 (26,{ kd:=.struct [(22,0),(24,1)],size:=17,bytes:=152,zero:=(.agg #[(.slice none 0 0),(.int .i64 0),(.int .i64 0),(.int .i64 0),(.int .i64 0),(.int .i64 0),(.int .i64 0),(.int .i64 0),(.int .i64 0),(.int .i64 0),(.int .i64 0),(.int .i64 0),(.int .i64 0),(.int .i64 0),(.int .i64 0),(.int .i64 0),(.int .i64 0)]),sh:=.pre [.sl] }),
 (27,{ kd:=.slice 37,size:=1,bytes:=24,zero:=(.slice none 0 0),sh:=.one .sl }),
 (30,{ kd:=.slice 3,size:=1,bytes:=24,zero:=(.slice none 0 0),sh:=.one .sl }),
 (34,{ kd:=.array 4 2,size:=4,bytes:=32,zero:=(.agg #[(.int .i64 0),(.int .i64 0),(.int .i64 0),(.int .i64 0)]),sh:=.agg [.int .i64,.int .i64,.int .i64,.int .i64] }),
 (35,{ kd:=.int .i64,size:=1,bytes:=8,zero:=(.int .i64 0),sh:=.one (.int .i64) }),
 (37,{ kd:=.struct [(3,0),(30,1),(3,2),(3,3),(34,4),(35,8)],size:=9,bytes:=88,zero:=(.agg #[(.int .i64 0),(.slice none 0 0),(.int .i64 0),(.int .i64 0),(.int .i64 0),(.int .i64 0),(.int .i64 0),(.int .i64 0),(.int .i64 0)]),sh:=.agg [.int .i64,.sl,.int .i64,.int .i64,.int .i64,.int .i64,.int .i64,.int .i64,.int .i64] }),
 (39,{ kd:=.slice 53,size:=1,bytes:=24,zero:=(.slice none 0 0),sh:=.one .sl }),
 (41,{ kd:=.slice 44,size:=1,bytes:=24,zero:=(.slice none 0 0),sh:=.one .sl }),
 (44,{ kd:=.struct [(3,0),(3,1),(3,2)],size:=3,bytes:=24,zero:=(.agg #[(.int .i64 0),(.int .i64 0),(.int .i64 0)]),sh:=.agg [.int .i64,.int .i64,.int .i64] }),
 (45,{ kd:=.array 4 5,size:=4,bytes:=4,zero:=(.agg #[(.int .u8 0),(.int .u8 0),(.int .u8 0),(.int .u8 0)]),sh:=.agg [.int .u8,.int .u8,.int .u8,.int .u8] }),
 (46,{ kd:=.array 4 45,size:=16,bytes:=16,zero:=(.agg #[(.int .u8 0),(.int .u8 0),(.int .u8 0),(.int .u8 0),(.int .u8 0),(.int .u8 0),(.int .u8 0),(.int .u8 0),(.int .u8 0),(.int .u8 0),(.int .u8 0),(.int .u8 0),(.int .u8 0),(.int .u8 0),(.int .u8 0),(.int .u8 0)]),sh:=.one .arr }),
 (47,{ kd:=.slice 99,size:=1,bytes:=24,zero:=(.slice none 0 0),sh:=.one .sl }),
 (49,{ kd:=.struct [(9,0),(3,1),(47,2),(47,3),(4,4)],size:=5,bytes:=80,zero:=(.agg #[(.string ⟨#[]⟩),(.int .i64 0),(.slice none 0 0),(.slice none 0 0),(.bool false)]),sh:=.agg [.str,.int .i64,.sl,.sl,.bool] }),
 (51,{ kd:=.slice 101,size:=1,bytes:=24,zero:=(.slice none 0 0),sh:=.one .sl }),
 (53,{ kd:=.struct [(3,0),(3,1),(3,2),(4,3),(51,4),(51,5)],size:=6,bytes:=80,zero:=(.agg #[(.int .i64 0),(.int .i64 0),(.int .i64 0),(.bool false),(.slice none 0 0),(.slice none 0 0)]),sh:=.agg [.int .i64,.int .i64,.int .i64,.bool,.sl,.sl] }),
 (60,{ kd:=.other,size:=1,bytes:=0,zero:=(.tuple #[(.slice none 0 0),(.bool false)]),sh:=.tup [.sl,.bool] }),
 (64,{ kd:=.ptr,size:=1,bytes:=8,zero:=(.pointer none),sh:=.one .ptr }),
 (66,{ kd:=.func,size:=1,bytes:=8,zero:=.nilFunc,sh:=.one .clo }),
 (70,{ kd:=.slice 4,size:=1,bytes:=24,zero:=(.slice none 0 0),sh:=.one .sl }),
 (72,{ kd:=.other,size:=1,bytes:=0,zero:=(.tuple #[(.pointer none),(.bool false)]),sh:=.tup [.ptr,.bool] }),
 (74,{ kd:=.func,size:=1,bytes:=8,zero:=.nilFunc,sh:=.one .clo }),
 (79,{ kd:=.func,size:=1,bytes:=8,zero:=.nilFunc,sh:=.one .clo }),
 (81,{ kd:=.map 3 30,size:=1,bytes:=8,zero:=(.map none),sh:=.one .map }),
 (83,{ kd:=.struct [(81,0)],size:=1,bytes:=8,zero:=(.agg #[(.map none)]),sh:=.agg [.map] }),
 (87,{ kd:=.func,size:=1,bytes:=8,zero:=.nilFunc,sh:=.one .clo }),
 (91,{ kd:=.func,size:=1,bytes:=8,zero:=.nilFunc,sh:=.one .clo }),
 (93,{ kd:=.struct [(3,0),(3,1)],size:=2,bytes:=16,zero:=(.agg #[(.int .i64 0),(.int .i64 0)]),sh:=.agg [.int .i64,.int .i64] }),
 (95,{ kd:=.struct [(3,0),(3,1),(3,2),(3,3),(93,4),(93,6),(2,8)],size:=9,bytes:=72,zero:=(.agg #[(.int .i64 0),(.int .i64 0),(.int .i64 0),(.int .i64 0),(.int .i64 0),(.int .i64 0),(.int .i64 0),(.int .i64 0),(.int .i64 0)]),sh:=.agg [.int .i64,.int .i64,.int .i64,.int .i64,.int .i64,.int .i64,.int .i64,.int .i64,.int .i64] }),
 (96,{ kd:=.slice 95,size:=1,bytes:=24,zero:=(.slice none 0 0),sh:=.one .sl }),
 (97,{ kd:=.slice 217,size:=1,bytes:=24,zero:=(.slice none 0 0),sh:=.one .sl }),
 (99,{ kd:=.struct [(96,0),(97,1)],size:=2,bytes:=48,zero:=(.agg #[(.slice none 0 0),(.slice none 0 0)]),sh:=.agg [.sl,.sl] }),
 (101,{ kd:=.struct [(3,0),(3,1)],size:=2,bytes:=16,zero:=(.agg #[(.int .i64 0),(.int .i64 0)]),sh:=.agg [.int .i64,.int .i64] }),
 (102,{ kd:=.slice 30,size:=1,bytes:=24,zero:=(.slice none 0 0),sh:=.one .sl }),
 (107,{ kd:=.func,size:=1,bytes:=8,zero:=.nilFunc,sh:=.one .clo }),
 (111,{ kd:=.slice 70,size:=1,bytes:=24,zero:=(.slice none 0 0),sh:=.one .sl }),
 (113,{ kd:=.array 5 4,size:=5,bytes:=5,zero:=(.agg #[(.bool false),(.bool false),(.bool false),(.bool false),(.bool false)]),sh:=.agg [.bool,.bool,.bool,.bool,.bool] }),
 (114,{ kd:=.array 100 113,size:=500,bytes:=500,zero:=(.agg (Array.replicate 500 (.bool false))),sh:=.one .arr }),
 (115,{ kd:=.array 100 114,size:=50000,bytes:=50000,zero:=(.agg (Array.replicate 50000 (.bool false))),sh:=.one .arr }),
 (119,{ kd:=.ptr,size:=1,bytes:=8,zero:=(.pointer none),sh:=.one .ptr }),
 (124,{ kd:=.func,size:=1,bytes:=8,zero:=.nilFunc,sh:=.one .clo }),
 (131,{ kd:=.func,size:=1,bytes:=8,zero:=.nilFunc,sh:=.one .clo }),
 (133,{ kd:=.slice 193,size:=1,bytes:=24,zero:=(.slice none 0 0),sh:=.one .sl }),
 (136,{ kd:=.func,size:=1,bytes:=8,zero:=.nilFunc,sh:=.one .clo }),
 (137,{ kd:=.slice 147,size:=1,bytes:=24,zero:=(.slice none 0 0),sh:=.one .sl }),
 (139,{ kd:=.struct [(26,0),(39,17),(102,18),(137,19)],size:=20,bytes:=224,zero:=(.agg #[(.slice none 0 0),(.int .i64 0),(.int .i64 0),(.int .i64 0),(.int .i64 0),(.int .i64 0),(.int .i64 0),(.int .i64 0),(.int .i64 0),(.int .i64 0),(.int .i64 0),(.int .i64 0),(.int .i64 0),(.int .i64 0),(.int .i64 0),(.int .i64 0),(.int .i64 0),(.slice none 0 0),(.slice none 0 0),(.slice none 0 0)]),sh:=.one .arr }),
 (140,{ kd:=.other,size:=1,bytes:=0,zero:=(.tuple #[(.slice none 0 0),(.int .i64 0)]),sh:=.tup [.sl,.int .i64] }),
 (145,{ kd:=.int .u64,size:=1,bytes:=8,zero:=(.int .u64 0),sh:=.one (.int .u64) }),
 (147,{ kd:=.array 2 145,size:=2,bytes:=16,zero:=(.agg #[(.int .u64 0),(.int .u64 0)]),sh:=.agg [.int .u64,.int .u64] }),
 (149,{ kd:=.map 3 4,size:=1,bytes:=8,zero:=(.map none),sh:=.one .map }),
 (151,{ kd:=.func,size:=1,bytes:=8,zero:=.nilFunc,sh:=.one .clo }),
 (152,{ kd:=.func,size:=1,bytes:=8,zero:=.nilFunc,sh:=.one .clo }),
 (155,{ kd:=.func,size:=1,bytes:=8,zero:=.nilFunc,sh:=.one .clo }),
 (157,{ kd:=.ptr,size:=1,bytes:=8,zero:=(.pointer none),sh:=.one .ptr }),
 (158,{ kd:=.func,size:=1,bytes:=8,zero:=.nilFunc,sh:=.one .clo }),
 (161,{ kd:=.other,size:=1,bytes:=0,zero:=(.tuple #[(.int .i64 0),(.int .i64 0),(.bool false)]),sh:=.tup [.int .i64,.int .i64,.bool] }),
 (163,{ kd:=.other,size:=1,bytes:=0,zero:=(.tuple #[(.slice none 0 0),(.slice none 0 0)]),sh:=.tup [.sl,.sl] }),
 (172,{ kd:=.func,size:=1,bytes:=8,zero:=.nilFunc,sh:=.one .clo }),
 (173,{ kd:=.func,size:=1,bytes:=8,zero:=.nilFunc,sh:=.one .clo }),
 (175,{ kd:=.map 3 39,size:=1,bytes:=8,zero:=(.map none),sh:=.one .map }),
 (178,{ kd:=.func,size:=1,bytes:=8,zero:=.nilFunc,sh:=.one .clo }),
 (179,{ kd:=.func,size:=1,bytes:=8,zero:=.nilFunc,sh:=.one .clo }),
 (181,{ kd:=.other,size:=1,bytes:=0,zero:=(.tuple #[(.int .i64 0),(.int .i64 0)]),sh:=.tup [.int .i64,.int .i64] }),
 (185,{ kd:=.int .u64,size:=1,bytes:=8,zero:=(.int .u64 0),sh:=.one (.int .u64) }),
 (188,{ kd:=.array 1000 4,size:=1000,bytes:=1000,zero:=(.agg (Array.replicate 1000 (.bool false))),sh:=.one .arr }),
 (192,{ kd:=.map 193 4,size:=1,bytes:=8,zero:=(.map none),sh:=.one .map }),
 (193,{ kd:=.array 2 3,size:=2,bytes:=16,zero:=(.agg #[(.int .i64 0),(.int .i64 0)]),sh:=.agg [.int .i64,.int .i64] }),
 (195,{ kd:=.func,size:=1,bytes:=8,zero:=.nilFunc,sh:=.one .clo }),
 (197,{ kd:=.func,size:=1,bytes:=8,zero:=.nilFunc,sh:=.one .clo }),
 (208,{ kd:=.other,size:=1,bytes:=0,zero:=(.tuple #[(.slice none 0 0),(.slice none 0 0),(.bool false)]),sh:=.tup [.sl,.sl,.bool] }),
 (211,{ kd:=.func,size:=1,bytes:=8,zero:=.nilFunc,sh:=.one .clo }),
 (212,{ kd:=.func,size:=1,bytes:=8,zero:=.nilFunc,sh:=.one .clo }),
 (217,{ kd:=.struct [(93,0),(93,2),(4,4)],size:=5,bytes:=40,zero:=(.agg #[(.int .i64 0),(.int .i64 0),(.int .i64 0),(.int .i64 0),(.bool false)]),sh:=.agg [.int .i64,.int .i64,.int .i64,.int .i64,.bool] }),
 (222,{ kd:=.func,size:=1,bytes:=8,zero:=.nilFunc,sh:=.one .clo }),
 (223,{ kd:=.func,size:=1,bytes:=8,zero:=.nilFunc,sh:=.one .clo }),
 (224,{ kd:=.func,size:=1,bytes:=8,zero:=.nilFunc,sh:=.one .clo }),
 (226,{ kd:=.int .i64,size:=1,bytes:=8,zero:=(.int .i64 0),sh:=.one (.int .i64) }),
 (227,{ kd:=.other,size:=1,bytes:=0,zero:=(.tuple #[(.int .i64 0),(.int .i64 0)]),sh:=.tup [.int .i64,.int .i64] }),
 (231,{ kd:=.other,size:=1,bytes:=0,zero:=(.tuple #[(.int .i64 0),(.bool false)]),sh:=.tup [.int .i64,.bool] }),
 (234,{ kd:=.int .u32,size:=1,bytes:=4,zero:=(.int .u32 0),sh:=.one (.int .u32) }),
 (236,{ kd:=.other,size:=1,bytes:=0,zero:=(.tuple #[(.int .u64 0),(.int .u64 0)]),sh:=.tup [.int .u64,.int .u64] }),
 (247,{ kd:=.func,size:=1,bytes:=8,zero:=.nilFunc,sh:=.one .clo }),
 (249,{ kd:=.slice 51,size:=1,bytes:=24,zero:=(.slice none 0 0),sh:=.one .sl }),
 (252,{ kd:=.func,size:=1,bytes:=8,zero:=.nilFunc,sh:=.one .clo }),
 (253,{ kd:=.func,size:=1,bytes:=8,zero:=.nilFunc,sh:=.one .clo }),
 (254,{ kd:=.func,size:=1,bytes:=8,zero:=.nilFunc,sh:=.one .clo }),
 (259,{ kd:=.int .u64,size:=1,bytes:=8,zero:=(.int .u64 0),sh:=.one (.int .u64) }),
 (263,{ kd:=.ptr,size:=1,bytes:=8,zero:=(.pointer none),sh:=.one .ptr }),
 (265,{ kd:=.other,size:=1,bytes:=0,zero:=(.tuple #[(.int .u32 0),(.int .u32 0)]),sh:=.tup [.int .u32,.int .u32] }),
 (267,{ kd:=.other,size:=1,bytes:=0,zero:=(.tuple #[(.int .u64 0),(.int .u64 0)]),sh:=.tup [.int .u64,.int .u64] }),
 (282,{ kd:=.func,size:=1,bytes:=8,zero:=.nilFunc,sh:=.one .clo }),
 (284,{ kd:=.func,size:=1,bytes:=8,zero:=.nilFunc,sh:=.one .clo }),
 (288,{ kd:=.ptr,size:=1,bytes:=8,zero:=(.pointer none),sh:=.one .ptr }),
 (300,{ kd:=.other,size:=1,bytes:=0,zero:=(.tuple #[(.agg #[(.int .i64 0),(.int .i64 0),(.int .i64 0),(.int .i64 0),(.int .i64 0),(.int .i64 0),(.int .i64 0),(.int .i64 0),(.int .i64 0)]),(.bool false)]),sh:=.tup [.ints .i64 9,.bool] }),
 (302,{ kd:=.func,size:=1,bytes:=8,zero:=.nilFunc,sh:=.one .clo }),
 (304,{ kd:=.slice 93,size:=1,bytes:=24,zero:=(.slice none 0 0),sh:=.one .sl })
 ]
def tb:Tab:=fun t=>lkT t tbL
theorem ti0:TI.Ok Tryz.prog 0 { kd:=.other,size:=1,bytes:=0,zero:=(.tuple #[]),sh:=.tup [] }:=⟨by kernel_rfl,by kernel_rfl,by rfl⟩
theorem ti2:TI.Ok Tryz.prog 2 { kd:=.int .i64,size:=1,bytes:=8,zero:=(.int .i64 0),sh:=.one (.int .i64) }:=⟨by kernel_rfl,by kernel_rfl,by rfl⟩
theorem ti3:TI.Ok Tryz.prog 3 { kd:=.int .i64,size:=1,bytes:=8,zero:=(.int .i64 0),sh:=.one (.int .i64) }:=⟨by kernel_rfl,by kernel_rfl,by rfl⟩
theorem ti4:TI.Ok Tryz.prog 4 { kd:=.bool,size:=1,bytes:=1,zero:=(.bool false),sh:=.one .bool }:=⟨by kernel_rfl,by kernel_rfl,by rfl⟩
theorem ti5:TI.Ok Tryz.prog 5 { kd:=.int .u8,size:=1,bytes:=1,zero:=(.int .u8 0),sh:=.one (.int .u8) }:=⟨by kernel_rfl,by kernel_rfl,by rfl⟩
theorem ti9:TI.Ok Tryz.prog 9 { kd:=.string,size:=1,bytes:=16,zero:=(.string ⟨#[]⟩),sh:=.one .str }:=⟨by kernel_rfl,by kernel_rfl,by rfl⟩
theorem ti20:TI.Ok Tryz.prog 20 { kd:=.iface,size:=1,bytes:=16,zero:=.nilIface,sh:=.one .any }:=⟨by kernel_rfl,by kernel_rfl,by rfl⟩
theorem ti22:TI.Ok Tryz.prog 22 { kd:=.slice 49,size:=1,bytes:=24,zero:=(.slice none 0 0),sh:=.one .sl }:=⟨by kernel_rfl,by kernel_rfl,by rfl⟩
theorem ti23:TI.Ok Tryz.prog 23 { kd:=.array 4 3,size:=4,bytes:=32,zero:=(.agg #[(.int .i64 0),(.int .i64 0),(.int .i64 0),(.int .i64 0)]),sh:=.agg [.int .i64,.int .i64,.int .i64,.int .i64] }:=⟨by kernel_rfl,by kernel_rfl,by rfl⟩
theorem ti24:TI.Ok Tryz.prog 24 { kd:=.array 4 23,size:=16,bytes:=128,zero:=(.agg #[(.int .i64 0),(.int .i64 0),(.int .i64 0),(.int .i64 0),(.int .i64 0),(.int .i64 0),(.int .i64 0),(.int .i64 0),(.int .i64 0),(.int .i64 0),(.int .i64 0),(.int .i64 0),(.int .i64 0),(.int .i64 0),(.int .i64 0),(.int .i64 0)]),sh:=.one .arr }:=⟨by kernel_rfl,by kernel_rfl,by rfl⟩
theorem ti26:TI.Ok Tryz.prog 26 { kd:=.struct [(22,0),(24,1)],size:=17,bytes:=152,zero:=(.agg #[(.slice none 0 0),(.int .i64 0),(.int .i64 0),(.int .i64 0),(.int .i64 0),(.int .i64 0),(.int .i64 0),(.int .i64 0),(.int .i64 0),(.int .i64 0),(.int .i64 0),(.int .i64 0),(.int .i64 0),(.int .i64 0),(.int .i64 0),(.int .i64 0),(.int .i64 0)]),sh:=.pre [.sl] }:=⟨by kernel_rfl,by kernel_rfl,by rfl⟩
theorem ti27:TI.Ok Tryz.prog 27 { kd:=.slice 37,size:=1,bytes:=24,zero:=(.slice none 0 0),sh:=.one .sl }:=⟨by kernel_rfl,by kernel_rfl,by rfl⟩
theorem ti30:TI.Ok Tryz.prog 30 { kd:=.slice 3,size:=1,bytes:=24,zero:=(.slice none 0 0),sh:=.one .sl }:=⟨by kernel_rfl,by kernel_rfl,by rfl⟩
theorem ti34:TI.Ok Tryz.prog 34 { kd:=.array 4 2,size:=4,bytes:=32,zero:=(.agg #[(.int .i64 0),(.int .i64 0),(.int .i64 0),(.int .i64 0)]),sh:=.agg [.int .i64,.int .i64,.int .i64,.int .i64] }:=⟨by kernel_rfl,by kernel_rfl,by rfl⟩
theorem ti35:TI.Ok Tryz.prog 35 { kd:=.int .i64,size:=1,bytes:=8,zero:=(.int .i64 0),sh:=.one (.int .i64) }:=⟨by kernel_rfl,by kernel_rfl,by rfl⟩
theorem ti37:TI.Ok Tryz.prog 37 { kd:=.struct [(3,0),(30,1),(3,2),(3,3),(34,4),(35,8)],size:=9,bytes:=88,zero:=(.agg #[(.int .i64 0),(.slice none 0 0),(.int .i64 0),(.int .i64 0),(.int .i64 0),(.int .i64 0),(.int .i64 0),(.int .i64 0),(.int .i64 0)]),sh:=.agg [.int .i64,.sl,.int .i64,.int .i64,.int .i64,.int .i64,.int .i64,.int .i64,.int .i64] }:=⟨by kernel_rfl,by kernel_rfl,by rfl⟩
theorem ti39:TI.Ok Tryz.prog 39 { kd:=.slice 53,size:=1,bytes:=24,zero:=(.slice none 0 0),sh:=.one .sl }:=⟨by kernel_rfl,by kernel_rfl,by rfl⟩
theorem ti41:TI.Ok Tryz.prog 41 { kd:=.slice 44,size:=1,bytes:=24,zero:=(.slice none 0 0),sh:=.one .sl }:=⟨by kernel_rfl,by kernel_rfl,by rfl⟩
theorem ti44:TI.Ok Tryz.prog 44 { kd:=.struct [(3,0),(3,1),(3,2)],size:=3,bytes:=24,zero:=(.agg #[(.int .i64 0),(.int .i64 0),(.int .i64 0)]),sh:=.agg [.int .i64,.int .i64,.int .i64] }:=⟨by kernel_rfl,by kernel_rfl,by rfl⟩
theorem ti45:TI.Ok Tryz.prog 45 { kd:=.array 4 5,size:=4,bytes:=4,zero:=(.agg #[(.int .u8 0),(.int .u8 0),(.int .u8 0),(.int .u8 0)]),sh:=.agg [.int .u8,.int .u8,.int .u8,.int .u8] }:=⟨by kernel_rfl,by kernel_rfl,by rfl⟩
theorem ti46:TI.Ok Tryz.prog 46 { kd:=.array 4 45,size:=16,bytes:=16,zero:=(.agg #[(.int .u8 0),(.int .u8 0),(.int .u8 0),(.int .u8 0),(.int .u8 0),(.int .u8 0),(.int .u8 0),(.int .u8 0),(.int .u8 0),(.int .u8 0),(.int .u8 0),(.int .u8 0),(.int .u8 0),(.int .u8 0),(.int .u8 0),(.int .u8 0)]),sh:=.one .arr }:=⟨by kernel_rfl,by kernel_rfl,by rfl⟩
theorem ti47:TI.Ok Tryz.prog 47 { kd:=.slice 99,size:=1,bytes:=24,zero:=(.slice none 0 0),sh:=.one .sl }:=⟨by kernel_rfl,by kernel_rfl,by rfl⟩
theorem ti49:TI.Ok Tryz.prog 49 { kd:=.struct [(9,0),(3,1),(47,2),(47,3),(4,4)],size:=5,bytes:=80,zero:=(.agg #[(.string ⟨#[]⟩),(.int .i64 0),(.slice none 0 0),(.slice none 0 0),(.bool false)]),sh:=.agg [.str,.int .i64,.sl,.sl,.bool] }:=⟨by kernel_rfl,by kernel_rfl,by rfl⟩
theorem ti51:TI.Ok Tryz.prog 51 { kd:=.slice 101,size:=1,bytes:=24,zero:=(.slice none 0 0),sh:=.one .sl }:=⟨by kernel_rfl,by kernel_rfl,by rfl⟩
theorem ti53:TI.Ok Tryz.prog 53 { kd:=.struct [(3,0),(3,1),(3,2),(4,3),(51,4),(51,5)],size:=6,bytes:=80,zero:=(.agg #[(.int .i64 0),(.int .i64 0),(.int .i64 0),(.bool false),(.slice none 0 0),(.slice none 0 0)]),sh:=.agg [.int .i64,.int .i64,.int .i64,.bool,.sl,.sl] }:=⟨by kernel_rfl,by kernel_rfl,by rfl⟩
theorem ti60:TI.Ok Tryz.prog 60 { kd:=.other,size:=1,bytes:=0,zero:=(.tuple #[(.slice none 0 0),(.bool false)]),sh:=.tup [.sl,.bool] }:=⟨by kernel_rfl,by kernel_rfl,by rfl⟩
theorem ti64:TI.Ok Tryz.prog 64 { kd:=.ptr,size:=1,bytes:=8,zero:=(.pointer none),sh:=.one .ptr }:=⟨by kernel_rfl,by kernel_rfl,by rfl⟩
theorem ti66:TI.Ok Tryz.prog 66 { kd:=.func,size:=1,bytes:=8,zero:=.nilFunc,sh:=.one .clo }:=⟨by kernel_rfl,by kernel_rfl,by rfl⟩
theorem ti70:TI.Ok Tryz.prog 70 { kd:=.slice 4,size:=1,bytes:=24,zero:=(.slice none 0 0),sh:=.one .sl }:=⟨by kernel_rfl,by kernel_rfl,by rfl⟩
theorem ti72:TI.Ok Tryz.prog 72 { kd:=.other,size:=1,bytes:=0,zero:=(.tuple #[(.pointer none),(.bool false)]),sh:=.tup [.ptr,.bool] }:=⟨by kernel_rfl,by kernel_rfl,by rfl⟩
theorem ti74:TI.Ok Tryz.prog 74 { kd:=.func,size:=1,bytes:=8,zero:=.nilFunc,sh:=.one .clo }:=⟨by kernel_rfl,by kernel_rfl,by rfl⟩
theorem ti79:TI.Ok Tryz.prog 79 { kd:=.func,size:=1,bytes:=8,zero:=.nilFunc,sh:=.one .clo }:=⟨by kernel_rfl,by kernel_rfl,by rfl⟩
theorem ti81:TI.Ok Tryz.prog 81 { kd:=.map 3 30,size:=1,bytes:=8,zero:=(.map none),sh:=.one .map }:=⟨by kernel_rfl,by kernel_rfl,by rfl⟩
theorem ti83:TI.Ok Tryz.prog 83 { kd:=.struct [(81,0)],size:=1,bytes:=8,zero:=(.agg #[(.map none)]),sh:=.agg [.map] }:=⟨by kernel_rfl,by kernel_rfl,by rfl⟩
theorem ti87:TI.Ok Tryz.prog 87 { kd:=.func,size:=1,bytes:=8,zero:=.nilFunc,sh:=.one .clo }:=⟨by kernel_rfl,by kernel_rfl,by rfl⟩
theorem ti91:TI.Ok Tryz.prog 91 { kd:=.func,size:=1,bytes:=8,zero:=.nilFunc,sh:=.one .clo }:=⟨by kernel_rfl,by kernel_rfl,by rfl⟩
theorem ti93:TI.Ok Tryz.prog 93 { kd:=.struct [(3,0),(3,1)],size:=2,bytes:=16,zero:=(.agg #[(.int .i64 0),(.int .i64 0)]),sh:=.agg [.int .i64,.int .i64] }:=⟨by kernel_rfl,by kernel_rfl,by rfl⟩
theorem ti95:TI.Ok Tryz.prog 95 { kd:=.struct [(3,0),(3,1),(3,2),(3,3),(93,4),(93,6),(2,8)],size:=9,bytes:=72,zero:=(.agg #[(.int .i64 0),(.int .i64 0),(.int .i64 0),(.int .i64 0),(.int .i64 0),(.int .i64 0),(.int .i64 0),(.int .i64 0),(.int .i64 0)]),sh:=.agg [.int .i64,.int .i64,.int .i64,.int .i64,.int .i64,.int .i64,.int .i64,.int .i64,.int .i64] }:=⟨by kernel_rfl,by kernel_rfl,by rfl⟩
theorem ti96:TI.Ok Tryz.prog 96 { kd:=.slice 95,size:=1,bytes:=24,zero:=(.slice none 0 0),sh:=.one .sl }:=⟨by kernel_rfl,by kernel_rfl,by rfl⟩
theorem ti97:TI.Ok Tryz.prog 97 { kd:=.slice 217,size:=1,bytes:=24,zero:=(.slice none 0 0),sh:=.one .sl }:=⟨by kernel_rfl,by kernel_rfl,by rfl⟩
theorem ti99:TI.Ok Tryz.prog 99 { kd:=.struct [(96,0),(97,1)],size:=2,bytes:=48,zero:=(.agg #[(.slice none 0 0),(.slice none 0 0)]),sh:=.agg [.sl,.sl] }:=⟨by kernel_rfl,by kernel_rfl,by rfl⟩
theorem ti101:TI.Ok Tryz.prog 101 { kd:=.struct [(3,0),(3,1)],size:=2,bytes:=16,zero:=(.agg #[(.int .i64 0),(.int .i64 0)]),sh:=.agg [.int .i64,.int .i64] }:=⟨by kernel_rfl,by kernel_rfl,by rfl⟩
theorem ti102:TI.Ok Tryz.prog 102 { kd:=.slice 30,size:=1,bytes:=24,zero:=(.slice none 0 0),sh:=.one .sl }:=⟨by kernel_rfl,by kernel_rfl,by rfl⟩
theorem ti107:TI.Ok Tryz.prog 107 { kd:=.func,size:=1,bytes:=8,zero:=.nilFunc,sh:=.one .clo }:=⟨by kernel_rfl,by kernel_rfl,by rfl⟩
theorem ti111:TI.Ok Tryz.prog 111 { kd:=.slice 70,size:=1,bytes:=24,zero:=(.slice none 0 0),sh:=.one .sl }:=⟨by kernel_rfl,by kernel_rfl,by rfl⟩
theorem ti113:TI.Ok Tryz.prog 113 { kd:=.array 5 4,size:=5,bytes:=5,zero:=(.agg #[(.bool false),(.bool false),(.bool false),(.bool false),(.bool false)]),sh:=.agg [.bool,.bool,.bool,.bool,.bool] }:=⟨by kernel_rfl,by kernel_rfl,by rfl⟩
theorem ti114:TI.Ok Tryz.prog 114 { kd:=.array 100 113,size:=500,bytes:=500,zero:=(.agg (Array.replicate 500 (.bool false))),sh:=.one .arr }:=⟨by kernel_rfl,by kernel_rfl,by simp[Value.cells]⟩
theorem ti115:TI.Ok Tryz.prog 115 { kd:=.array 100 114,size:=50000,bytes:=50000,zero:=(.agg (Array.replicate 50000 (.bool false))),sh:=.one .arr }:=TI.big (by kernel_rfl) (by kernel_rfl) rfl
theorem ti119:TI.Ok Tryz.prog 119 { kd:=.ptr,size:=1,bytes:=8,zero:=(.pointer none),sh:=.one .ptr }:=⟨by kernel_rfl,by kernel_rfl,by rfl⟩
theorem ti124:TI.Ok Tryz.prog 124 { kd:=.func,size:=1,bytes:=8,zero:=.nilFunc,sh:=.one .clo }:=⟨by kernel_rfl,by kernel_rfl,by rfl⟩
theorem ti131:TI.Ok Tryz.prog 131 { kd:=.func,size:=1,bytes:=8,zero:=.nilFunc,sh:=.one .clo }:=⟨by kernel_rfl,by kernel_rfl,by rfl⟩
theorem ti133:TI.Ok Tryz.prog 133 { kd:=.slice 193,size:=1,bytes:=24,zero:=(.slice none 0 0),sh:=.one .sl }:=⟨by kernel_rfl,by kernel_rfl,by rfl⟩
theorem ti136:TI.Ok Tryz.prog 136 { kd:=.func,size:=1,bytes:=8,zero:=.nilFunc,sh:=.one .clo }:=⟨by kernel_rfl,by kernel_rfl,by rfl⟩
theorem ti137:TI.Ok Tryz.prog 137 { kd:=.slice 147,size:=1,bytes:=24,zero:=(.slice none 0 0),sh:=.one .sl }:=⟨by kernel_rfl,by kernel_rfl,by rfl⟩
theorem ti139:TI.Ok Tryz.prog 139 { kd:=.struct [(26,0),(39,17),(102,18),(137,19)],size:=20,bytes:=224,zero:=(.agg #[(.slice none 0 0),(.int .i64 0),(.int .i64 0),(.int .i64 0),(.int .i64 0),(.int .i64 0),(.int .i64 0),(.int .i64 0),(.int .i64 0),(.int .i64 0),(.int .i64 0),(.int .i64 0),(.int .i64 0),(.int .i64 0),(.int .i64 0),(.int .i64 0),(.int .i64 0),(.slice none 0 0),(.slice none 0 0),(.slice none 0 0)]),sh:=.one .arr }:=⟨by kernel_rfl,by kernel_rfl,by rfl⟩
theorem ti140:TI.Ok Tryz.prog 140 { kd:=.other,size:=1,bytes:=0,zero:=(.tuple #[(.slice none 0 0),(.int .i64 0)]),sh:=.tup [.sl,.int .i64] }:=⟨by kernel_rfl,by kernel_rfl,by rfl⟩
theorem ti145:TI.Ok Tryz.prog 145 { kd:=.int .u64,size:=1,bytes:=8,zero:=(.int .u64 0),sh:=.one (.int .u64) }:=⟨by kernel_rfl,by kernel_rfl,by rfl⟩
theorem ti147:TI.Ok Tryz.prog 147 { kd:=.array 2 145,size:=2,bytes:=16,zero:=(.agg #[(.int .u64 0),(.int .u64 0)]),sh:=.agg [.int .u64,.int .u64] }:=⟨by kernel_rfl,by kernel_rfl,by rfl⟩
theorem ti149:TI.Ok Tryz.prog 149 { kd:=.map 3 4,size:=1,bytes:=8,zero:=(.map none),sh:=.one .map }:=⟨by kernel_rfl,by kernel_rfl,by rfl⟩
theorem ti151:TI.Ok Tryz.prog 151 { kd:=.func,size:=1,bytes:=8,zero:=.nilFunc,sh:=.one .clo }:=⟨by kernel_rfl,by kernel_rfl,by rfl⟩
theorem ti152:TI.Ok Tryz.prog 152 { kd:=.func,size:=1,bytes:=8,zero:=.nilFunc,sh:=.one .clo }:=⟨by kernel_rfl,by kernel_rfl,by rfl⟩
theorem ti155:TI.Ok Tryz.prog 155 { kd:=.func,size:=1,bytes:=8,zero:=.nilFunc,sh:=.one .clo }:=⟨by kernel_rfl,by kernel_rfl,by rfl⟩
theorem ti157:TI.Ok Tryz.prog 157 { kd:=.ptr,size:=1,bytes:=8,zero:=(.pointer none),sh:=.one .ptr }:=⟨by kernel_rfl,by kernel_rfl,by rfl⟩
theorem ti158:TI.Ok Tryz.prog 158 { kd:=.func,size:=1,bytes:=8,zero:=.nilFunc,sh:=.one .clo }:=⟨by kernel_rfl,by kernel_rfl,by rfl⟩
theorem ti161:TI.Ok Tryz.prog 161 { kd:=.other,size:=1,bytes:=0,zero:=(.tuple #[(.int .i64 0),(.int .i64 0),(.bool false)]),sh:=.tup [.int .i64,.int .i64,.bool] }:=⟨by kernel_rfl,by kernel_rfl,by rfl⟩
theorem ti163:TI.Ok Tryz.prog 163 { kd:=.other,size:=1,bytes:=0,zero:=(.tuple #[(.slice none 0 0),(.slice none 0 0)]),sh:=.tup [.sl,.sl] }:=⟨by kernel_rfl,by kernel_rfl,by rfl⟩
theorem ti172:TI.Ok Tryz.prog 172 { kd:=.func,size:=1,bytes:=8,zero:=.nilFunc,sh:=.one .clo }:=⟨by kernel_rfl,by kernel_rfl,by rfl⟩
theorem ti173:TI.Ok Tryz.prog 173 { kd:=.func,size:=1,bytes:=8,zero:=.nilFunc,sh:=.one .clo }:=⟨by kernel_rfl,by kernel_rfl,by rfl⟩
theorem ti175:TI.Ok Tryz.prog 175 { kd:=.map 3 39,size:=1,bytes:=8,zero:=(.map none),sh:=.one .map }:=⟨by kernel_rfl,by kernel_rfl,by rfl⟩
theorem ti178:TI.Ok Tryz.prog 178 { kd:=.func,size:=1,bytes:=8,zero:=.nilFunc,sh:=.one .clo }:=⟨by kernel_rfl,by kernel_rfl,by rfl⟩
theorem ti179:TI.Ok Tryz.prog 179 { kd:=.func,size:=1,bytes:=8,zero:=.nilFunc,sh:=.one .clo }:=⟨by kernel_rfl,by kernel_rfl,by rfl⟩
theorem ti181:TI.Ok Tryz.prog 181 { kd:=.other,size:=1,bytes:=0,zero:=(.tuple #[(.int .i64 0),(.int .i64 0)]),sh:=.tup [.int .i64,.int .i64] }:=⟨by kernel_rfl,by kernel_rfl,by rfl⟩
theorem ti185:TI.Ok Tryz.prog 185 { kd:=.int .u64,size:=1,bytes:=8,zero:=(.int .u64 0),sh:=.one (.int .u64) }:=⟨by kernel_rfl,by kernel_rfl,by rfl⟩
theorem ti188:TI.Ok Tryz.prog 188 { kd:=.array 1000 4,size:=1000,bytes:=1000,zero:=(.agg (Array.replicate 1000 (.bool false))),sh:=.one .arr }:=⟨by kernel_rfl,by kernel_rfl,by simp[Value.cells]⟩
theorem ti192:TI.Ok Tryz.prog 192 { kd:=.map 193 4,size:=1,bytes:=8,zero:=(.map none),sh:=.one .map }:=⟨by kernel_rfl,by kernel_rfl,by rfl⟩
theorem ti193:TI.Ok Tryz.prog 193 { kd:=.array 2 3,size:=2,bytes:=16,zero:=(.agg #[(.int .i64 0),(.int .i64 0)]),sh:=.agg [.int .i64,.int .i64] }:=⟨by kernel_rfl,by kernel_rfl,by rfl⟩
theorem ti195:TI.Ok Tryz.prog 195 { kd:=.func,size:=1,bytes:=8,zero:=.nilFunc,sh:=.one .clo }:=⟨by kernel_rfl,by kernel_rfl,by rfl⟩
theorem ti197:TI.Ok Tryz.prog 197 { kd:=.func,size:=1,bytes:=8,zero:=.nilFunc,sh:=.one .clo }:=⟨by kernel_rfl,by kernel_rfl,by rfl⟩
theorem ti208:TI.Ok Tryz.prog 208 { kd:=.other,size:=1,bytes:=0,zero:=(.tuple #[(.slice none 0 0),(.slice none 0 0),(.bool false)]),sh:=.tup [.sl,.sl,.bool] }:=⟨by kernel_rfl,by kernel_rfl,by rfl⟩
theorem ti211:TI.Ok Tryz.prog 211 { kd:=.func,size:=1,bytes:=8,zero:=.nilFunc,sh:=.one .clo }:=⟨by kernel_rfl,by kernel_rfl,by rfl⟩
theorem ti212:TI.Ok Tryz.prog 212 { kd:=.func,size:=1,bytes:=8,zero:=.nilFunc,sh:=.one .clo }:=⟨by kernel_rfl,by kernel_rfl,by rfl⟩
theorem ti217:TI.Ok Tryz.prog 217 { kd:=.struct [(93,0),(93,2),(4,4)],size:=5,bytes:=40,zero:=(.agg #[(.int .i64 0),(.int .i64 0),(.int .i64 0),(.int .i64 0),(.bool false)]),sh:=.agg [.int .i64,.int .i64,.int .i64,.int .i64,.bool] }:=⟨by kernel_rfl,by kernel_rfl,by rfl⟩
theorem ti222:TI.Ok Tryz.prog 222 { kd:=.func,size:=1,bytes:=8,zero:=.nilFunc,sh:=.one .clo }:=⟨by kernel_rfl,by kernel_rfl,by rfl⟩
theorem ti223:TI.Ok Tryz.prog 223 { kd:=.func,size:=1,bytes:=8,zero:=.nilFunc,sh:=.one .clo }:=⟨by kernel_rfl,by kernel_rfl,by rfl⟩
theorem ti224:TI.Ok Tryz.prog 224 { kd:=.func,size:=1,bytes:=8,zero:=.nilFunc,sh:=.one .clo }:=⟨by kernel_rfl,by kernel_rfl,by rfl⟩
theorem ti226:TI.Ok Tryz.prog 226 { kd:=.int .i64,size:=1,bytes:=8,zero:=(.int .i64 0),sh:=.one (.int .i64) }:=⟨by kernel_rfl,by kernel_rfl,by rfl⟩
theorem ti227:TI.Ok Tryz.prog 227 { kd:=.other,size:=1,bytes:=0,zero:=(.tuple #[(.int .i64 0),(.int .i64 0)]),sh:=.tup [.int .i64,.int .i64] }:=⟨by kernel_rfl,by kernel_rfl,by rfl⟩
theorem ti231:TI.Ok Tryz.prog 231 { kd:=.other,size:=1,bytes:=0,zero:=(.tuple #[(.int .i64 0),(.bool false)]),sh:=.tup [.int .i64,.bool] }:=⟨by kernel_rfl,by kernel_rfl,by rfl⟩
theorem ti234:TI.Ok Tryz.prog 234 { kd:=.int .u32,size:=1,bytes:=4,zero:=(.int .u32 0),sh:=.one (.int .u32) }:=⟨by kernel_rfl,by kernel_rfl,by rfl⟩
theorem ti236:TI.Ok Tryz.prog 236 { kd:=.other,size:=1,bytes:=0,zero:=(.tuple #[(.int .u64 0),(.int .u64 0)]),sh:=.tup [.int .u64,.int .u64] }:=⟨by kernel_rfl,by kernel_rfl,by rfl⟩
theorem ti247:TI.Ok Tryz.prog 247 { kd:=.func,size:=1,bytes:=8,zero:=.nilFunc,sh:=.one .clo }:=⟨by kernel_rfl,by kernel_rfl,by rfl⟩
theorem ti249:TI.Ok Tryz.prog 249 { kd:=.slice 51,size:=1,bytes:=24,zero:=(.slice none 0 0),sh:=.one .sl }:=⟨by kernel_rfl,by kernel_rfl,by rfl⟩
theorem ti252:TI.Ok Tryz.prog 252 { kd:=.func,size:=1,bytes:=8,zero:=.nilFunc,sh:=.one .clo }:=⟨by kernel_rfl,by kernel_rfl,by rfl⟩
theorem ti253:TI.Ok Tryz.prog 253 { kd:=.func,size:=1,bytes:=8,zero:=.nilFunc,sh:=.one .clo }:=⟨by kernel_rfl,by kernel_rfl,by rfl⟩
theorem ti254:TI.Ok Tryz.prog 254 { kd:=.func,size:=1,bytes:=8,zero:=.nilFunc,sh:=.one .clo }:=⟨by kernel_rfl,by kernel_rfl,by rfl⟩
theorem ti259:TI.Ok Tryz.prog 259 { kd:=.int .u64,size:=1,bytes:=8,zero:=(.int .u64 0),sh:=.one (.int .u64) }:=⟨by kernel_rfl,by kernel_rfl,by rfl⟩
theorem ti263:TI.Ok Tryz.prog 263 { kd:=.ptr,size:=1,bytes:=8,zero:=(.pointer none),sh:=.one .ptr }:=⟨by kernel_rfl,by kernel_rfl,by rfl⟩
theorem ti265:TI.Ok Tryz.prog 265 { kd:=.other,size:=1,bytes:=0,zero:=(.tuple #[(.int .u32 0),(.int .u32 0)]),sh:=.tup [.int .u32,.int .u32] }:=⟨by kernel_rfl,by kernel_rfl,by rfl⟩
theorem ti267:TI.Ok Tryz.prog 267 { kd:=.other,size:=1,bytes:=0,zero:=(.tuple #[(.int .u64 0),(.int .u64 0)]),sh:=.tup [.int .u64,.int .u64] }:=⟨by kernel_rfl,by kernel_rfl,by rfl⟩
theorem ti282:TI.Ok Tryz.prog 282 { kd:=.func,size:=1,bytes:=8,zero:=.nilFunc,sh:=.one .clo }:=⟨by kernel_rfl,by kernel_rfl,by rfl⟩
theorem ti284:TI.Ok Tryz.prog 284 { kd:=.func,size:=1,bytes:=8,zero:=.nilFunc,sh:=.one .clo }:=⟨by kernel_rfl,by kernel_rfl,by rfl⟩
theorem ti288:TI.Ok Tryz.prog 288 { kd:=.ptr,size:=1,bytes:=8,zero:=(.pointer none),sh:=.one .ptr }:=⟨by kernel_rfl,by kernel_rfl,by rfl⟩
theorem ti300:TI.Ok Tryz.prog 300 { kd:=.other,size:=1,bytes:=0,zero:=(.tuple #[(.agg #[(.int .i64 0),(.int .i64 0),(.int .i64 0),(.int .i64 0),(.int .i64 0),(.int .i64 0),(.int .i64 0),(.int .i64 0),(.int .i64 0)]),(.bool false)]),sh:=.tup [.ints .i64 9,.bool] }:=⟨by kernel_rfl,by kernel_rfl,by rfl⟩
theorem ti302:TI.Ok Tryz.prog 302 { kd:=.func,size:=1,bytes:=8,zero:=.nilFunc,sh:=.one .clo }:=⟨by kernel_rfl,by kernel_rfl,by rfl⟩
theorem ti304:TI.Ok Tryz.prog 304 { kd:=.slice 93,size:=1,bytes:=24,zero:=(.slice none 0 0),sh:=.one .sl }:=⟨by kernel_rfl,by kernel_rfl,by rfl⟩
theorem lkT_mem{t:Nat}{i:TI}:∀ {l:List (Nat×TI)},lkT t l=some i->(t,i)∈l
 | [],h=>by cases h
 | q::l,h=>by
  unfold lkT at h
  split at h
  ·rename_i e
   have:=Nat.eq_of_beq_eq_true e
   subst this
   cases h
   exact List.mem_cons_self ..
  ·exact List.mem_cons_of_mem _ (lkT_mem h)
theorem tbOk:tb.Ok Tryz.prog:=by
 intro t i h
 have h:=lkT_mem h
 simp only[tbL,List.mem_cons,List.not_mem_nil,or_false,Prod.mk.injEq] at h
 rcases h with ⟨rfl,rfl⟩|⟨rfl,rfl⟩|⟨rfl,rfl⟩|⟨rfl,rfl⟩|⟨rfl,rfl⟩|⟨rfl,rfl⟩|⟨rfl,rfl⟩|⟨rfl,rfl⟩|⟨rfl,rfl⟩|⟨rfl,rfl⟩|⟨rfl,rfl⟩|⟨rfl,rfl⟩|⟨rfl,rfl⟩|⟨rfl,rfl⟩|⟨rfl,rfl⟩|⟨rfl,rfl⟩|⟨rfl,rfl⟩|⟨rfl,rfl⟩|⟨rfl,rfl⟩|⟨rfl,rfl⟩|⟨rfl,rfl⟩|⟨rfl,rfl⟩|⟨rfl,rfl⟩|⟨rfl,rfl⟩|⟨rfl,rfl⟩|⟨rfl,rfl⟩|⟨rfl,rfl⟩|⟨rfl,rfl⟩|⟨rfl,rfl⟩|⟨rfl,rfl⟩|⟨rfl,rfl⟩|⟨rfl,rfl⟩|⟨rfl,rfl⟩|⟨rfl,rfl⟩|⟨rfl,rfl⟩|⟨rfl,rfl⟩|⟨rfl,rfl⟩|⟨rfl,rfl⟩|⟨rfl,rfl⟩|⟨rfl,rfl⟩|⟨rfl,rfl⟩|⟨rfl,rfl⟩|⟨rfl,rfl⟩|⟨rfl,rfl⟩|⟨rfl,rfl⟩|⟨rfl,rfl⟩|⟨rfl,rfl⟩|⟨rfl,rfl⟩|⟨rfl,rfl⟩|⟨rfl,rfl⟩|⟨rfl,rfl⟩|⟨rfl,rfl⟩|⟨rfl,rfl⟩|⟨rfl,rfl⟩|⟨rfl,rfl⟩|⟨rfl,rfl⟩|⟨rfl,rfl⟩|⟨rfl,rfl⟩|⟨rfl,rfl⟩|⟨rfl,rfl⟩|⟨rfl,rfl⟩|⟨rfl,rfl⟩|⟨rfl,rfl⟩|⟨rfl,rfl⟩|⟨rfl,rfl⟩|⟨rfl,rfl⟩|⟨rfl,rfl⟩|⟨rfl,rfl⟩|⟨rfl,rfl⟩|⟨rfl,rfl⟩|⟨rfl,rfl⟩|⟨rfl,rfl⟩|⟨rfl,rfl⟩|⟨rfl,rfl⟩|⟨rfl,rfl⟩|⟨rfl,rfl⟩|⟨rfl,rfl⟩|⟨rfl,rfl⟩|⟨rfl,rfl⟩|⟨rfl,rfl⟩|⟨rfl,rfl⟩|⟨rfl,rfl⟩|⟨rfl,rfl⟩|⟨rfl,rfl⟩|⟨rfl,rfl⟩|⟨rfl,rfl⟩|⟨rfl,rfl⟩|⟨rfl,rfl⟩|⟨rfl,rfl⟩|⟨rfl,rfl⟩|⟨rfl,rfl⟩|⟨rfl,rfl⟩|⟨rfl,rfl⟩|⟨rfl,rfl⟩|⟨rfl,rfl⟩|⟨rfl,rfl⟩|⟨rfl,rfl⟩|⟨rfl,rfl⟩|⟨rfl,rfl⟩|⟨rfl,rfl⟩|⟨rfl,rfl⟩|⟨rfl,rfl⟩|⟨rfl,rfl⟩|⟨rfl,rfl⟩|⟨rfl,rfl⟩
 ·exact ti0
 ·exact ti2
 ·exact ti3
 ·exact ti4
 ·exact ti5
 ·exact ti9
 ·exact ti20
 ·exact ti22
 ·exact ti23
 ·exact ti24
 ·exact ti26
 ·exact ti27
 ·exact ti30
 ·exact ti34
 ·exact ti35
 ·exact ti37
 ·exact ti39
 ·exact ti41
 ·exact ti44
 ·exact ti45
 ·exact ti46
 ·exact ti47
 ·exact ti49
 ·exact ti51
 ·exact ti53
 ·exact ti60
 ·exact ti64
 ·exact ti66
 ·exact ti70
 ·exact ti72
 ·exact ti74
 ·exact ti79
 ·exact ti81
 ·exact ti83
 ·exact ti87
 ·exact ti91
 ·exact ti93
 ·exact ti95
 ·exact ti96
 ·exact ti97
 ·exact ti99
 ·exact ti101
 ·exact ti102
 ·exact ti107
 ·exact ti111
 ·exact ti113
 ·exact ti114
 ·exact ti115
 ·exact ti119
 ·exact ti124
 ·exact ti131
 ·exact ti133
 ·exact ti136
 ·exact ti137
 ·exact ti139
 ·exact ti140
 ·exact ti145
 ·exact ti147
 ·exact ti149
 ·exact ti151
 ·exact ti152
 ·exact ti155
 ·exact ti157
 ·exact ti158
 ·exact ti161
 ·exact ti163
 ·exact ti172
 ·exact ti173
 ·exact ti175
 ·exact ti178
 ·exact ti179
 ·exact ti181
 ·exact ti185
 ·exact ti188
 ·exact ti192
 ·exact ti193
 ·exact ti195
 ·exact ti197
 ·exact ti208
 ·exact ti211
 ·exact ti212
 ·exact ti217
 ·exact ti222
 ·exact ti223
 ·exact ti224
 ·exact ti226
 ·exact ti227
 ·exact ti231
 ·exact ti234
 ·exact ti236
 ·exact ti247
 ·exact ti249
 ·exact ti252
 ·exact ti253
 ·exact ti254
 ·exact ti259
 ·exact ti263
 ·exact ti265
 ·exact ti267
 ·exact ti282
 ·exact ti284
 ·exact ti288
 ·exact ti300
 ·exact ti302
 ·exact ti304
theorem mixed:Tryz.prog.follows .mixedOrders=true:=by kernel_rfl
abbrev Cw(f:FuncId)(a:Array Value)(w:World)(R:RV):Prop:=CW Tryz.prog f a w R
abbrev Cx(f:FuncId)(a:Array Value)(w:World)(R:RV):Prop:=CX Tryz.prog f a w R
def ckB(fn:Func)(an:An)(n:Nat):Bool:=match fn.body with
 | some c=>okC tb fn.ntmps c an&&n.ble fn.ntmps && !(fn.name == "runtime.NumGoroutine")
 | none=>false
def ckE(fn:Func)(an:An)(a:Array Value)(R:RV)(w:World):Prop:=match fn.body with
 | some c=>ex Tryz.prog tb fn.ntmps none c an (retQ tb fn.results.toList R) (argFr 0 a.toList) [] w
 | none=>False
theorem ckF{α:Prop}{f:FuncId}{fn:Func}{a:Array Value}{w:World}{R:RV}(hf:Tryz.prog.funcs[f]? =some fn)(an:An)(h:α)(hb:ckB fn an a.size=true)(e:α=ckE fn an a R w):Cw f a w R:=by
 have h:=e.mp h
 cases hc:fn.body with
 | none=>simp only[ckB,hc] at hb;cases hb
 | some c=>
  simp only[ckB,hc,Bool.and_eq_true,Bool.not_eq_true'] at hb
  simp only[ckE,hc] at h
  exact call_of tbOk mixed (entr_of hf (by rw[hc];rfl) hb.2) hf hc an hb.1.1 (Nat.le_of_ble_eq_true hb.1.2) h
abbrev Qu'(k:FuncId)(a:Array Value)(w:World)(K:Sl->World->Prop):Prop:=Qu Tryz.prog k a w K
abbrev Qv'(k:FuncId)(a:Array Value)(w:World)(K:Bool->World->Prop):Prop:=Qv Tryz.prog k a w K
abbrev Qw'(k:FuncId)(a:Array Value)(w:World)(K:Int->World->Prop):Prop:=Qw Tryz.prog k a w K
theorem en52:Entr Tryz.prog 52:=entr_of Tryz.func52 (by kernel_rfl) (by kernel_rfl)
theorem en54:Entr Tryz.prog 54:=entr_of Tryz.func54 (by kernel_rfl) (by kernel_rfl)
theorem en57:Entr Tryz.prog 57:=entr_of Tryz.func57 (by kernel_rfl) (by kernel_rfl)
theorem en88:Entr Tryz.prog 88:=entr_of Tryz.func88 (by kernel_rfl) (by kernel_rfl)
theorem en127:Entr Tryz.prog 127:=entr_of Tryz.func127 (by kernel_rfl) (by kernel_rfl)
theorem en155:Entr Tryz.prog 155:=entr_of Tryz.func155 (by kernel_rfl) (by kernel_rfl)
theorem en180:Entr Tryz.prog 180:=entr_of Tryz.func180 (by kernel_rfl) (by kernel_rfl)
theorem en183:Entr Tryz.prog 183:=entr_of Tryz.func183 (by kernel_rfl) (by kernel_rfl)
theorem en198:Entr Tryz.prog 198:=entr_of Tryz.func198 (by kernel_rfl) (by kernel_rfl)
theorem en203:Entr Tryz.prog 203:=entr_of Tryz.func203 (by kernel_rfl) (by kernel_rfl)
theorem en204:Entr Tryz.prog 204:=entr_of Tryz.func204 (by kernel_rfl) (by kernel_rfl)
theorem en205:Entr Tryz.prog 205:=entr_of Tryz.func205 (by kernel_rfl) (by kernel_rfl)
theorem en206:Entr Tryz.prog 206:=entr_of Tryz.func206 (by kernel_rfl) (by kernel_rfl)
theorem en207:Entr Tryz.prog 207:=entr_of Tryz.func207 (by kernel_rfl) (by kernel_rfl)
theorem en208:Entr Tryz.prog 208:=entr_of Tryz.func208 (by kernel_rfl) (by kernel_rfl)
theorem en209:Entr Tryz.prog 209:=entr_of Tryz.func209 (by kernel_rfl) (by kernel_rfl)
theorem en210:Entr Tryz.prog 210:=entr_of Tryz.func210 (by kernel_rfl) (by kernel_rfl)
theorem en211:Entr Tryz.prog 211:=entr_of Tryz.func211 (by kernel_rfl) (by kernel_rfl)
theorem en229:Entr Tryz.prog 229:=entr_of Tryz.func229 (by kernel_rfl) (by kernel_rfl)
theorem en233:Entr Tryz.prog 233:=entr_of Tryz.func233 (by kernel_rfl) (by kernel_rfl)
theorem en242:Entr Tryz.prog 242:=entr_of Tryz.func242 (by kernel_rfl) (by kernel_rfl)
theorem en245:Entr Tryz.prog 245:=entr_of Tryz.func245 (by kernel_rfl) (by kernel_rfl)
theorem en246:Entr Tryz.prog 246:=entr_of Tryz.func246 (by kernel_rfl) (by kernel_rfl)
theorem en269:Entr Tryz.prog 269:=entr_of Tryz.func269 (by kernel_rfl) (by kernel_rfl)
theorem en270:Entr Tryz.prog 270:=entr_of Tryz.func270 (by kernel_rfl) (by kernel_rfl)
theorem en278:Entr Tryz.prog 278:=entr_of Tryz.func278 (by kernel_rfl) (by kernel_rfl)
theorem en287:Entr Tryz.prog 287:=entr_of Tryz.func287 (by kernel_rfl) (by kernel_rfl)
theorem en288:Entr Tryz.prog 288:=entr_of Tryz.func288 (by kernel_rfl) (by kernel_rfl)
theorem en289:Entr Tryz.prog 289:=entr_of Tryz.func289 (by kernel_rfl) (by kernel_rfl)
theorem en290:Entr Tryz.prog 290:=entr_of Tryz.func290 (by kernel_rfl) (by kernel_rfl)
theorem en291:Entr Tryz.prog 291:=entr_of Tryz.func291 (by kernel_rfl) (by kernel_rfl)
theorem en292:Entr Tryz.prog 292:=entr_of Tryz.func292 (by kernel_rfl) (by kernel_rfl)
theorem en293:Entr Tryz.prog 293:=entr_of Tryz.func293 (by kernel_rfl) (by kernel_rfl)
theorem en294:Entr Tryz.prog 294:=entr_of Tryz.func294 (by kernel_rfl) (by kernel_rfl)
theorem en305:Entr Tryz.prog 305:=entr_of Tryz.func305 (by kernel_rfl) (by kernel_rfl)
theorem en306:Entr Tryz.prog 306:=entr_of Tryz.func306 (by kernel_rfl) (by kernel_rfl)
theorem en307:Entr Tryz.prog 307:=entr_of Tryz.func307 (by kernel_rfl) (by kernel_rfl)
theorem en309:Entr Tryz.prog 309:=entr_of Tryz.func309 (by kernel_rfl) (by kernel_rfl)
def GxLSby0:ByteArray:=(ByteArray.mk (Array.mk (([(0:UInt8),(1:UInt8),(2:UInt8),(2:UInt8),(3:UInt8),(3:UInt8),(3:UInt8),(3:UInt8),(4:UInt8),(4:UInt8),(4:UInt8),(4:UInt8),(4:UInt8),(4:UInt8),(4:UInt8),(4:UInt8),(5:UInt8),(5:UInt8),(5:UInt8),(5:UInt8),(5:UInt8),(5:UInt8),(5:UInt8),(5:UInt8),(5:UInt8),(5:UInt8),(5:UInt8),(5:UInt8),(5:UInt8),(5:UInt8),(5:UInt8),(5:UInt8),(6:UInt8),(6:UInt8),(6:UInt8),(6:UInt8),(6:UInt8),(6:UInt8),(6:UInt8),(6:UInt8),(6:UInt8),(6:UInt8),(6:UInt8),(6:UInt8),(6:UInt8),(6:UInt8),(6:UInt8),(6:UInt8),(6:UInt8),(6:UInt8),(6:UInt8),(6:UInt8),(6:UInt8),(6:UInt8),(6:UInt8),(6:UInt8),(6:UInt8),(6:UInt8),(6:UInt8),(6:UInt8),(6:UInt8),(6:UInt8),(6:UInt8),(6:UInt8)].append [(7:UInt8),(7:UInt8),(7:UInt8),(7:UInt8),(7:UInt8),(7:UInt8),(7:UInt8),(7:UInt8),(7:UInt8),(7:UInt8),(7:UInt8),(7:UInt8),(7:UInt8),(7:UInt8),(7:UInt8),(7:UInt8),(7:UInt8),(7:UInt8),(7:UInt8),(7:UInt8),(7:UInt8),(7:UInt8),(7:UInt8),(7:UInt8),(7:UInt8),(7:UInt8),(7:UInt8),(7:UInt8),(7:UInt8),(7:UInt8),(7:UInt8),(7:UInt8),(7:UInt8),(7:UInt8),(7:UInt8),(7:UInt8),(7:UInt8),(7:UInt8),(7:UInt8),(7:UInt8),(7:UInt8),(7:UInt8),(7:UInt8),(7:UInt8),(7:UInt8),(7:UInt8),(7:UInt8),(7:UInt8),(7:UInt8),(7:UInt8),(7:UInt8),(7:UInt8),(7:UInt8),(7:UInt8),(7:UInt8),(7:UInt8),(7:UInt8),(7:UInt8),(7:UInt8),(7:UInt8),(7:UInt8),(7:UInt8),(7:UInt8),(7:UInt8)]).append ([(8:UInt8),(8:UInt8),(8:UInt8),(8:UInt8),(8:UInt8),(8:UInt8),(8:UInt8),(8:UInt8),(8:UInt8),(8:UInt8),(8:UInt8),(8:UInt8),(8:UInt8),(8:UInt8),(8:UInt8),(8:UInt8),(8:UInt8),(8:UInt8),(8:UInt8),(8:UInt8),(8:UInt8),(8:UInt8),(8:UInt8),(8:UInt8),(8:UInt8),(8:UInt8),(8:UInt8),(8:UInt8),(8:UInt8),(8:UInt8),(8:UInt8),(8:UInt8),(8:UInt8),(8:UInt8),(8:UInt8),(8:UInt8),(8:UInt8),(8:UInt8),(8:UInt8),(8:UInt8),(8:UInt8),(8:UInt8),(8:UInt8),(8:UInt8),(8:UInt8),(8:UInt8),(8:UInt8),(8:UInt8),(8:UInt8),(8:UInt8),(8:UInt8),(8:UInt8),(8:UInt8),(8:UInt8),(8:UInt8),(8:UInt8),(8:UInt8),(8:UInt8),(8:UInt8),(8:UInt8),(8:UInt8),(8:UInt8),(8:UInt8),(8:UInt8)].append [(8:UInt8),(8:UInt8),(8:UInt8),(8:UInt8),(8:UInt8),(8:UInt8),(8:UInt8),(8:UInt8),(8:UInt8),(8:UInt8),(8:UInt8),(8:UInt8),(8:UInt8),(8:UInt8),(8:UInt8),(8:UInt8),(8:UInt8),(8:UInt8),(8:UInt8),(8:UInt8),(8:UInt8),(8:UInt8),(8:UInt8),(8:UInt8),(8:UInt8),(8:UInt8),(8:UInt8),(8:UInt8),(8:UInt8),(8:UInt8),(8:UInt8),(8:UInt8),(8:UInt8),(8:UInt8),(8:UInt8),(8:UInt8),(8:UInt8),(8:UInt8),(8:UInt8),(8:UInt8),(8:UInt8),(8:UInt8),(8:UInt8),(8:UInt8),(8:UInt8),(8:UInt8),(8:UInt8),(8:UInt8),(8:UInt8),(8:UInt8),(8:UInt8),(8:UInt8),(8:UInt8),(8:UInt8),(8:UInt8),(8:UInt8),(8:UInt8),(8:UInt8),(8:UInt8),(8:UInt8),(8:UInt8),(8:UInt8),(8:UInt8),(8:UInt8)]) )))
set_option linter.unusedVariables false
set_option maxRecDepth 100000
def F179(t0:Sl)(w:World)(R:RV):Prop:=Cx 156 #[Value.int IntKind.u64 (IntKind.u64.wrap (t0.2:Int))] w fun v1 w2=>∃n3:Int,v1=Qz n3/\Cx 223 #[Qy t0,Qz 0,Qz (t0.2:Int),Qz n3] w2 fun v4 w5=>∃y6:Unit,v4=Value.tuple #[]/\R (Value.tuple #[]) w5
theorem F179_ok(t0:Sl)(w:World)(R:RV)(h:F179 t0 w R):Cw 179 #[Qy t0] w R:=
 ckF Tryz.func179 .nil h (by kernel_rfl) (by kernel_rfl)
def F223k2(t0:Sl)(x4:Int×Int×Int×Bool×Bool)(x56:Int×Bool)(n18:Int)(w55:World)(b3:Nat)(y1:Nat->Int×Int×Int×Bool×Bool->World->Prop):Prop:=Cx 223 #[Qy t0,Qz x4.1,Qz x56.1,Qz n18] w55 fun v57 w58=>∃y59:Unit,v57=Value.tuple #[]/\Qn y1 b3 (IntKind.i64.wrap (x56.1+1),x4.snd.1,n18,decide (IntKind.i64.wrap ((IntKind.i64.wrap (x4.snd.fst-x4.fst)).tdiv 8)<=IntKind.i64.wrap (x56.fst-x4.fst)),x56.2) w58
def F223k1(t0:Sl)(x56:Int×Bool)(x4:Int×Int×Int×Bool×Bool)(n18:Int)(w55:World)(b3:Nat)(y1:Nat->Int×Int×Int×Bool×Bool->World->Prop):Prop:=Cx 223 #[Qy t0,Qz (IntKind.i64.wrap (x56.1+1)),Qz x4.snd.1,Qz n18] w55 fun v61 w62=>∃y63:Unit,v61=Value.tuple #[]/\Qn y1 b3 (x4.1,x56.1,n18,decide (IntKind.i64.wrap ((IntKind.i64.wrap (x4.snd.fst-x4.fst)).tdiv 8)<=IntKind.i64.wrap (x4.snd.fst-x56.fst)),x56.2) w62
def F223j4(t0:Sl)(y1:Nat->Int×Int×Int×Bool×Bool->World->Prop)(b3:Nat)(x4:Int×Int×Int×Bool×Bool)(n18:Int)(x29:Int×Int)(w38:World):Prop:=IfB (decide (0<x4.fst)) (Qx t0.1 (IntKind.i64.wrap (x4.1-1)) (t0.2:Int) fun b41 b42=>Qi w38.drew b41 (b42+(IntKind.i64.wrap (x4.1-1)).toNat) fun n43=>Qx t0.1 x29.1 (t0.2:Int) fun b44 b45=>Qi w38.drew b44 (b45+x29.1.toNat) fun n46=>Qv' 263 #[Qz n43,Qz n46] w38.drew fun t49 w48=>IfB (!t49) (Qw' 264 #[Qy t0,Qz x4.1,Qz x4.snd.1,Qz x29.1] w48 fun n52 w51=>Qn y1 b3 (n52,x4.snd.1,n18,x4.snd.snd.snd.1,x4.snd.snd.snd.2) w51) (Cx 265 #[Qy t0,Qz x4.1,Qz x4.snd.1,Qz x29.1] w48 fun v54 w55=>∃(x56:Int×Bool),v54=Value.tuple #[Qz x56.1,Value.bool x56.2]/\¬(8:Int)=0/\IfB (decide (IntKind.i64.wrap (x56.fst-x4.fst)<IntKind.i64.wrap (x4.snd.fst-x56.fst))) (F223k2 t0 x4 x56 n18 w55 b3 y1) (F223k1 t0 x56 x4 n18 w55 b3 y1))) (Cx 265 #[Qy t0,Qz x4.1,Qz x4.snd.1,Qz x29.1] w38.drew fun v65 w66=>∃(x67:Int×Bool),v65=Value.tuple #[Qz x67.1,Value.bool x67.2]/\¬(8:Int)=0/\IfB (decide (IntKind.i64.wrap (x67.fst-x4.fst)<IntKind.i64.wrap (x4.snd.fst-x67.fst))) (F223k2 t0 x4 x67 n18 w66 b3 y1) (F223k1 t0 x67 x4 n18 w66 b3 y1))
def F223j3(t0:Sl)(R:RV)(y1:Nat->Int×Int×Int×Bool×Bool->World->Prop)(b3:Nat)(x4:Int×Int×Int×Bool×Bool)(n18:Int)(x29:Int×Int)(w30:World):Prop:=∃(y33:Unit->World->Prop),IfB x4.snd.snd.snd.1 (IfB x4.snd.snd.snd.2 (IfB (x29.2 == 1) (Qv' 262 #[Qy t0,Qz x4.1,Qz x4.snd.1] w30 fun t36 w35=>IfB t36 (R (Value.tuple #[]) w35) (([]:List Nat)=[]/\y33 PUnit.unit w35)) (([]:List Nat)=[]/\y33 PUnit.unit w30)) (([]:List Nat)=[]/\y33 PUnit.unit w30)) (([]:List Nat)=[]/\y33 PUnit.unit w30)/\∀(y37:Unit)(w38:World)(y39:Nat->Value),y33 y37 w38->(F223j4 t0 y1 b3 x4 n18 x29 w38)
def F223j2(t0:Sl)(R:RV)(y1:Nat->Int×Int×Int×Bool×Bool->World->Prop)(b3:Nat)(x4:Int×Int×Int×Bool×Bool)(n18:Int)(w19:World):Prop:=Cx 260 #[Qy t0,Qz x4.1,Qz x4.snd.1] w19 fun v22 w23=>∃(x24:Int×Int),v22=Value.tuple #[Qz x24.1,Qz x24.2]/\∃(y25:Int×Int->World->Prop),IfB (x24.2 == 2) (Cx 261 #[Qy t0,Qz x4.1,Qz x4.snd.1] w23 fun v26 w27=>∃y28:Unit,v26=Value.tuple #[]/\([]:List Nat)=[]/\y25 (IntKind.i64.wrap (IntKind.i64.wrap (x4.snd.1-1)-IntKind.i64.wrap (x24.1-x4.1)),1) w27) (([]:List Nat)=[]/\y25 (x24.1,x24.2) w23)/\∀(x29:Int×Int)(w30:World)(y31:Nat->Value),y25 x29 w30->(F223j3 t0 R y1 b3 x4 n18 x29 w30)
def F223j1(t0:Sl)(R:RV)(y1:Nat->Int×Int×Int×Bool×Bool->World->Prop)(b3:Nat)(x4:Int×Int×Int×Bool×Bool)(w5:World):Prop:=IfB (decide (IntKind.i64.wrap (x4.snd.fst-x4.fst)<=12)) (Cx 257 #[Qy t0,Qz x4.1,Qz x4.snd.1] w5 fun v8 w9=>∃y10:Unit,v8=Value.tuple #[]/\R (Value.tuple #[]) w9) (IfB (x4.snd.snd.1 == 0) (Cx 258 #[Qy t0,Qz x4.1,Qz x4.snd.1] w5 fun v11 w12=>∃y13:Unit,v11=Value.tuple #[]/\R (Value.tuple #[]) w12) (∃(y14:Int->World->Prop),IfB (!x4.snd.snd.snd.1) (Cx 259 #[Qy t0,Qz x4.1,Qz x4.snd.1] w5 fun v15 w16=>∃y17:Unit,v15=Value.tuple #[]/\([]:List Nat)=[]/\y14 (IntKind.i64.wrap (x4.snd.snd.1-1)) w16) (([]:List Nat)=[]/\y14 x4.snd.snd.1 w5)/\∀(n18:Int)(w19:World)(y20:Nat->Value),y14 n18 w19->(F223j2 t0 R y1 b3 x4 n18 w19)))
theorem F223_ok(t0:Sl)(t1:Int)(t2:Int)(t3:Int)(w:World)(R:RV)(h:Ql (α:=Int×Int×Int×Bool×Bool) (t1,t2,t3,true,true) w fun y1 b3 x4 w5=>(F223j1 t0 R y1 b3 x4 w5)):Cw 223 #[Qy t0,Qz t1,Qz t2,Qz t3] w R:=
 ckF Tryz.func223 (nd (nd (.loop [(1,oi),(2,oi),(3,oi),(8,ob),(9,ob)] (rg [1,3,8,133]) (nd (nd (nd (.join [(3,oi)] (rg [3,3,34,41]) .nil (nd (.join [(11,oi),(12,oi)] (rg [11,12,49,60]) .nil (.join [] (rg [61,72]) .nil (.node (.node (.draw (sts [0,1,2,3,4,5,6,7,8,9,10,11] (.ac 12 [] (sts [13,14] .fin) .non))) .nil) .nil))))))))))) h (by kernel_rfl) (by kernel_rfl)
theorem F156_ok(t0:Int)(w:World)(R:RV)(h:Cx 213 #[Value.int IntKind.u64 t0] w fun v1 w2=>∃n3:Int,v1=Qz n3/\R (Qz n3) w2):Cw 156 #[Value.int IntKind.u64 t0] w R:=
 ckF Tryz.func156 .nil h (by kernel_rfl) (by kernel_rfl)
def F257j2(t0:Sl)(t1:Int)(y1:Nat->Int->World->Prop)(b3:Nat)(n4:Int)(y8:Nat->Int->World->Prop)(b10:Nat)(n11:Int)(w12:World):Prop:=IfB (decide (t1<n11)) (Qx t0.1 n11 (t0.2:Int) fun b15 b16=>Qi w12.drew b15 (b16+n11.toNat) fun n17=>Qx t0.1 (IntKind.i64.wrap (n11-1)) (t0.2:Int) fun b18 b19=>Qi w12.drew b18 (b19+(IntKind.i64.wrap (n11-1)).toNat) fun n20=>Qv' 263 #[Qz n17,Qz n20] w12.drew fun t23 w22=>IfB t23 (Qx t0.1 (IntKind.i64.wrap (n11-1)) (t0.2:Int) fun b24 b25=>Qi w22.drew b24 (b25+(IntKind.i64.wrap (n11-1)).toNat) fun n26=>Qx t0.1 n11 (t0.2:Int) fun b27 b28=>Qi w22.drew b27 (b28+n11.toNat) fun n29=>Qx t0.1 n11 (t0.2:Int) fun b30 b31=>#[Qz n26].size=1/\StoreP w22.drew b30 (b31+n11.toNat) [Qz n26] fun w32=>Qx t0.1 (IntKind.i64.wrap (n11-1)) (t0.2:Int) fun b33 b34=>#[Qz n29].size=1/\StoreP w32 b33 (b34+(IntKind.i64.wrap (n11-1)).toNat) [Qz n29] fun w35=>Qn y8 b10 (IntKind.i64.wrap (n11-1)) w35) (Qn y1 b3 (IntKind.i64.wrap (n4+1)) w22)) (Qn y1 b3 (IntKind.i64.wrap (n4+1)) w12.drew)
theorem F257_ok(t0:Sl)(t1:Int)(t2:Int)(w:World)(R:RV)(h:Ql (α:=Int) (IntKind.i64.wrap (t1+1)) w fun y1 b3 n4 w5=>IfB (decide (n4<t2)) (Ql (α:=Int) n4 w5 fun y8 b10 n11 w12=>(F257j2 t0 t1 y1 b3 n4 y8 b10 n11 w12)) (R (Value.tuple #[]) w5)):Cw 257 #[Qy t0,Qz t1,Qz t2] w R:=
 ckF Tryz.func257 (nd (.loop [(6,oi)] (rg [6,7,10,48]) (nd (.node (nd (.loop [(7,oi)] (rg [7,7,16,48]) (.node (.node (.draw (sts [0,1,2,3,4,5,6,7,8,9,10,11,12] (.ac 13 [] (.st 14 .fin) .non))) .nil) (.node (.draw (sts [0,1,2,3,4,5,6,7,8,9,10,11,12,13,14] (.ac 15 [4,3,2] (.st 16 (.ac 17 [] .fin .non)) .non))) .nil)))) .nil)))) h (by kernel_rfl) (by kernel_rfl)
def F258j2(t0:Sl)(t1:Int)(R:RV)(y12:Nat->Int->World->Prop)(b14:Nat)(n15:Int)(w16:World):Prop:=IfB (decide (0<=n15)) (Qx t0.1 (IntKind.i64.wrap (t1+n15)) (t0.2:Int) fun b19 b20=>Qi w16.drew b19 (b20+(IntKind.i64.wrap (t1+n15)).toNat) fun n21=>Qx t0.1 t1 (t0.2:Int) fun b22 b23=>Qi w16.drew b22 (b23+t1.toNat) fun n24=>Qx t0.1 t1 (t0.2:Int) fun b25 b26=>#[Qz n21].size=1/\StoreP w16.drew b25 (b26+t1.toNat) [Qz n21] fun w27=>Qx t0.1 (IntKind.i64.wrap (t1+n15)) (t0.2:Int) fun b28 b29=>#[Qz n24].size=1/\StoreP w27 b28 (b29+(IntKind.i64.wrap (t1+n15)).toNat) [Qz n24] fun w30=>Cx 282 #[Qy t0,Qz 0,Qz n15,Qz t1] w30 fun v31 w32=>∃y33:Unit,v31=Value.tuple #[]/\Qn y12 b14 (IntKind.i64.wrap (n15-1)) w32) (R (Value.tuple #[]) w16)
def F258j1(t0:Sl)(t1:Int)(t2:Int)(R:RV)(y1:Nat->Int->World->Prop)(b3:Nat)(n4:Int)(w5:World):Prop:=IfB (decide (0<=n4)) (Cx 282 #[Qy t0,Qz n4,Qz (IntKind.i64.wrap (t2-t1)),Qz t1] w5 fun v8 w9=>∃y10:Unit,v8=Value.tuple #[]/\Qn y1 b3 (IntKind.i64.wrap (n4-1)) w9) (Ql (α:=Int) (IntKind.i64.wrap (IntKind.i64.wrap (t2-t1)-1)) w5 fun y12 b14 n15 w16=>(F258j2 t0 t1 R y12 b14 n15 w16))
theorem F258_ok(t0:Sl)(t1:Int)(t2:Int)(w:World)(R:RV)(h:¬(2:Int)=0/\Ql (α:=Int) (IntKind.i64.wrap ((IntKind.i64.wrap (IntKind.i64.wrap (t2-t1)-1)).tdiv 2)) w fun y1 b3 n4 w5=>(F258j1 t0 t1 t2 R y1 b3 n4 w5)):Cw 258 #[Qy t0,Qz t1,Qz t2] w R:=
 ckF Tryz.func258 (nd (nd (nd (.node (nd (.loop [(9,oi)] (rg [9,9,18,26]) .nil)) (nd (.loop [(10,oi)] (rg [10,10,29,55]) (nd (.node (.node (.draw (sts [0,1,2,3,4,5,6,7,8,9,10,11,12,13,14,15,16] (.ac 17 [5,4,3,2] (.st 18 (.ac 19 [] .fin .non)) .non))) .nil) .nil)))))))) h (by kernel_rfl) (by kernel_rfl)
def F259j2(t0:Sl)(t1:Int)(y7:Nat->Int->World->Prop)(b9:Nat)(n10:Int)(n18:Int)(w19:World):Prop:=Qx t0.1 (IntKind.i64.wrap (t1+n18)) (t0.2:Int) fun b22 b23=>Qi w19.drew b22 (b23+(IntKind.i64.wrap (t1+n18)).toNat) fun n24=>Qx t0.1 n10 (t0.2:Int) fun b25 b26=>Qi w19.drew b25 (b26+n10.toNat) fun n27=>Qx t0.1 n10 (t0.2:Int) fun b28 b29=>#[Qz n24].size=1/\StoreP w19.drew b28 (b29+n10.toNat) [Qz n24] fun w30=>Qx t0.1 (IntKind.i64.wrap (t1+n18)) (t0.2:Int) fun b31 b32=>#[Qz n27].size=1/\StoreP w30 b31 (b32+(IntKind.i64.wrap (t1+n18)).toNat) [Qz n27] fun w33=>Qn y7 b9 (IntKind.i64.wrap (n10+1)) w33
def F259j1(t0:Sl)(t1:Int)(t2:Int)(R:RV)(b1:Nat)(n6:Int)(y7:Nat->Int->World->Prop)(b9:Nat)(n10:Int)(w11:World):Prop:=¬(4:Int)=0/\IfB (decide (n10<=IntKind.i64.wrap (IntKind.i64.wrap (t1+IntKind.i64.wrap (IntKind.i64.wrap ((IntKind.i64.wrap (t2-t1)).tdiv 4)*2))+1))) (Cx 244 #[Value.pointer (some ⟨b1,0,none⟩)] w11 fun v14 w15=>∃n16:Int,v14=Value.int IntKind.u64 n16/\∃(y17:Int->World->Prop),IfB (decide (IntKind.i64.wrap (t2-t1)<=IntKind.i64.wrap (bitsI BinOp.and IntKind.u64 n16 (IntKind.u64.wrap (n6-1))))) (([]:List Nat)=[]/\y17 (IntKind.i64.wrap (IntKind.i64.wrap (bitsI BinOp.and IntKind.u64 n16 (IntKind.u64.wrap (n6-1)))-IntKind.i64.wrap (t2-t1))) w15) (([]:List Nat)=[]/\y17 (IntKind.i64.wrap (bitsI BinOp.and IntKind.u64 n16 (IntKind.u64.wrap (n6-1)))) w15)/\∀(n18:Int)(w19:World)(y20:Nat->Value),y17 n18 w19->(F259j2 t0 t1 y7 b9 n10 n18 w19)) (R (Value.tuple #[]) w11)
def F259(t0:Sl)(t1:Int)(t2:Int)(w:World)(R:RV):Prop:=IfB (decide (8<=IntKind.i64.wrap (t2-t1))) (AllocP w (Obj.cells #[Value.int IntKind.u64 0] 259) fun b1 w2=>#[Value.int IntKind.u64 (IntKind.u64.wrap (IntKind.i64.wrap (t2-t1)))].size=1/\StoreP w2 b1 0 [Value.int IntKind.u64 (IntKind.u64.wrap (IntKind.i64.wrap (t2-t1)))] fun w3=>Cx 243 #[Qz (IntKind.i64.wrap (t2-t1))] w3 fun v4 w5=>∃n6:Int,v4=Value.int IntKind.u64 n6/\¬(4:Int)=0/\Ql (α:=Int) (IntKind.i64.wrap (IntKind.i64.wrap (t1+IntKind.i64.wrap (IntKind.i64.wrap ((IntKind.i64.wrap (t2-t1)).tdiv 4)*2))-1)) w5 fun y7 b9 n10 w11=>(F259j1 t0 t1 t2 R b1 n6 y7 b9 n10 w11)) (R (Value.tuple #[]) w)
theorem F259_ok(t0:Sl)(t1:Int)(t2:Int)(w:World)(R:RV)(h:F259 t0 t1 t2 w R):Cw 259 #[Qy t0,Qz t1,Qz t2] w R:=
 ckF Tryz.func259 (nd (nd (.node (nd (nd (nd (.loop [(9,oi)] (rg [9,10,26,64]) (nd (.node (nd (.join [(10,oi)] (rg [10,10,41,46]) .nil (.draw (sts [0,1,2,3,4,5,6,7,8,9,10,11,12,13,14,15,16] (.ac 17 [5,4,3,2] (.st 18 (.ac 19 [] .fin .non)) .non))))) .nil)))))) .nil))) h (by kernel_rfl) (by kernel_rfl)
def F260j2(R:RV)(b1:Nat)(n21:Int)(w22:World):Prop:=Qi w22 b1 0 fun n25=>IfB (n25 == 0) (R (Value.tuple #[Qz n21,Qz 1]) w22) (IfB (n25 == 12) (R (Value.tuple #[Qz n21,Qz 2]) w22) (R (Value.tuple #[Qz n21,Qz 0]) w22))
theorem F260_ok(t0:Sl)(t1:Int)(t2:Int)(w:World)(R:RV)(h:AllocP w (Obj.cells #[Qz 0] 3) fun b1 w2=>¬(4:Int)=0/\¬(4:Int)=0/\¬(4:Int)=0/\∃(y3:Int->World->Prop),IfB (decide (8<=IntKind.i64.wrap (t2-t1))) (∃(y4:Int×Int×Int->World->Prop),IfB (decide (50<=IntKind.i64.wrap (t2-t1))) (Qw' 283 #[Qy t0,Qz (IntKind.i64.wrap (t1+IntKind.i64.wrap (IntKind.i64.wrap ((IntKind.i64.wrap (t2-t1)).tdiv 4)*1))),Value.pointer (some ⟨b1,0,none⟩)] w2 fun n7 w6=>Qw' 283 #[Qy t0,Qz (IntKind.i64.wrap (t1+IntKind.i64.wrap (IntKind.i64.wrap ((IntKind.i64.wrap (t2-t1)).tdiv 4)*2))),Value.pointer (some ⟨b1,0,none⟩)] w6 fun n10 w9=>Qw' 283 #[Qy t0,Qz (IntKind.i64.wrap (t1+IntKind.i64.wrap (IntKind.i64.wrap ((IntKind.i64.wrap (t2-t1)).tdiv 4)*3))),Value.pointer (some ⟨b1,0,none⟩)] w9 fun n13 w12=>([]:List Nat)=[]/\y4 (n7,n10,n13) w12) (([]:List Nat)=[]/\y4 (IntKind.i64.wrap (t1+IntKind.i64.wrap (IntKind.i64.wrap ((IntKind.i64.wrap (t2-t1)).tdiv 4)*1)),IntKind.i64.wrap (t1+IntKind.i64.wrap (IntKind.i64.wrap ((IntKind.i64.wrap (t2-t1)).tdiv 4)*2)),IntKind.i64.wrap (t1+IntKind.i64.wrap (IntKind.i64.wrap ((IntKind.i64.wrap (t2-t1)).tdiv 4)*3))) w2)/\∀(x14:Int×Int×Int)(w15:World)(y16:Nat->Value),y4 x14 w15->Qw' 284 #[Qy t0,Qz x14.1,Qz x14.snd.1,Qz x14.snd.2,Value.pointer (some ⟨b1,0,none⟩)] w15 fun n20 w19=>([]:List Nat)=[]/\y3 n20 w19) (([]:List Nat)=[]/\y3 (IntKind.i64.wrap (t1+IntKind.i64.wrap (IntKind.i64.wrap ((IntKind.i64.wrap (t2-t1)).tdiv 4)*2))) w2)/\∀(n21:Int)(w22:World)(y23:Nat->Value),y3 n21 w22->(F260j2 R b1 n21 w22)):Cw 260 #[Qy t0,Qz t1,Qz t2] w R:=
 ckF Tryz.func260 (nd (nd (nd (nd (nd (nd (.join [(11,oi)] (rg [10,12,31,48]) (nd (.node (.join [(10,oi),(11,oi),(12,oi)] (rg [10,12,33,43]) .nil .nil) .nil)) .nil))))))) h (by kernel_rfl) (by kernel_rfl)
def F261j1(t0:Sl)(R:RV)(y1:Nat->Int×Int->World->Prop)(b3:Nat)(x4:Int×Int)(w5:World):Prop:=IfB (decide (x4.fst<x4.snd)) (Qx t0.1 x4.2 (t0.2:Int) fun b8 b9=>Qi w5.drew b8 (b9+x4.2.toNat) fun n10=>Qx t0.1 x4.1 (t0.2:Int) fun b11 b12=>Qi w5.drew b11 (b12+x4.1.toNat) fun n13=>Qx t0.1 x4.1 (t0.2:Int) fun b14 b15=>#[Qz n10].size=1/\StoreP w5.drew b14 (b15+x4.1.toNat) [Qz n10] fun w16=>Qx t0.1 x4.2 (t0.2:Int) fun b17 b18=>#[Qz n13].size=1/\StoreP w16 b17 (b18+x4.2.toNat) [Qz n13] fun w19=>Qn y1 b3 (IntKind.i64.wrap (x4.1+1),IntKind.i64.wrap (x4.2-1)) w19) (R (Value.tuple #[]) w5)
theorem F261_ok(t0:Sl)(t1:Int)(t2:Int)(w:World)(R:RV)(h:Ql (α:=Int×Int) (t1,IntKind.i64.wrap (t2-1)) w fun y1 b3 x4 w5=>(F261j1 t0 R y1 b3 x4 w5)):Cw 261 #[Qy t0,Qz t1,Qz t2] w R:=
 ckF Tryz.func261 (nd (nd (.loop [(6,oi),(7,oi)] (rg [6,7,11,31]) (nd (.node (.draw (sts [0,1,2,3,4,5,6,7,8,9,10,11,12] (.ac 13 [3,2] (.st 14 (.ac 15 [] .fin .non)) .non))) .nil))))) h (by kernel_rfl) (by kernel_rfl)
def F262j2(t0:Sl)(t2:Int)(y8:Int->World->Prop)(y9:Nat->Int->World->Prop)(b11:Nat)(n12:Int)(w13:World):Prop:=IfB (decide (n12<t2)) (Qx t0.1 n12 (t0.2:Int) fun b16 b17=>Qi w13.drew b16 (b17+n12.toNat) fun n18=>Qx t0.1 (IntKind.i64.wrap (n12-1)) (t0.2:Int) fun b19 b20=>Qi w13.drew b19 (b20+(IntKind.i64.wrap (n12-1)).toNat) fun n21=>Qv' 263 #[Qz n18,Qz n21] w13.drew fun t24 w23=>IfB (!t24) (Qn y9 b11 (IntKind.i64.wrap (n12+1)) w23) (([]:List Nat)=[]/\y8 n12 w23)) (([]:List Nat)=[]/\y8 n12 w13.drew)
def F262j4(t0:Sl)(y42:Unit->World->Prop)(y43:Nat->Int->World->Prop)(b45:Nat)(n46:Int)(w47:World):Prop:=IfB (decide (1<=n46)) (Qx t0.1 n46 (t0.2:Int) fun b50 b51=>Qi w47.drew b50 (b51+n46.toNat) fun n52=>Qx t0.1 (IntKind.i64.wrap (n46-1)) (t0.2:Int) fun b53 b54=>Qi w47.drew b53 (b54+(IntKind.i64.wrap (n46-1)).toNat) fun n55=>Qv' 263 #[Qz n52,Qz n55] w47.drew fun t58 w57=>IfB (!t58) (([]:List Nat)=[]/\y42 PUnit.unit w57) (Qx t0.1 (IntKind.i64.wrap (n46-1)) (t0.2:Int) fun b59 b60=>Qi w57.drew b59 (b60+(IntKind.i64.wrap (n46-1)).toNat) fun n61=>Qx t0.1 n46 (t0.2:Int) fun b62 b63=>Qi w57.drew b62 (b63+n46.toNat) fun n64=>Qx t0.1 n46 (t0.2:Int) fun b65 b66=>#[Qz n61].size=1/\StoreP w57.drew b65 (b66+n46.toNat) [Qz n61] fun w67=>Qx t0.1 (IntKind.i64.wrap (n46-1)) (t0.2:Int) fun b68 b69=>#[Qz n64].size=1/\StoreP w67 b68 (b69+(IntKind.i64.wrap (n46-1)).toNat) [Qz n64] fun w70=>Qn y43 b45 (IntKind.i64.wrap (n46-1)) w70)) (([]:List Nat)=[]/\y42 PUnit.unit w47)
def F262j7(t0:Sl)(t2:Int)(y1:Nat->Int×Int->World->Prop)(b3:Nat)(x4:Int×Int)(n26:Int)(y81:Nat->Int->World->Prop)(b83:Nat)(n84:Int)(w85:World):Prop:=IfB (decide (n84<t2)) (Qx t0.1 n84 (t0.2:Int) fun b88 b89=>Qi w85.drew b88 (b89+n84.toNat) fun n90=>Qx t0.1 (IntKind.i64.wrap (n84-1)) (t0.2:Int) fun b91 b92=>Qi w85.drew b91 (b92+(IntKind.i64.wrap (n84-1)).toNat) fun n93=>Qv' 263 #[Qz n90,Qz n93] w85.drew fun t96 w95=>IfB (!t96) (Qn y1 b3 (n26,IntKind.i64.wrap (x4.2+1)) w95) (Qx t0.1 (IntKind.i64.wrap (n84-1)) (t0.2:Int) fun b98 b99=>Qi w95.drew b98 (b99+(IntKind.i64.wrap (n84-1)).toNat) fun n100=>Qx t0.1 n84 (t0.2:Int) fun b101 b102=>Qi w95.drew b101 (b102+n84.toNat) fun n103=>Qx t0.1 n84 (t0.2:Int) fun b104 b105=>#[Qz n100].size=1/\StoreP w95.drew b104 (b105+n84.toNat) [Qz n100] fun w106=>Qx t0.1 (IntKind.i64.wrap (n84-1)) (t0.2:Int) fun b107 b108=>#[Qz n103].size=1/\StoreP w106 b107 (b108+(IntKind.i64.wrap (n84-1)).toNat) [Qz n103] fun w109=>Qn y81 b83 (IntKind.i64.wrap (n84+1)) w109)) (Qn y1 b3 (n26,IntKind.i64.wrap (x4.2+1)) w85)
def F262j5(t0:Sl)(t2:Int)(y1:Nat->Int×Int->World->Prop)(b3:Nat)(x4:Int×Int)(n26:Int)(w73:World):Prop:=∃(y76:Bool->World->Prop),(([]:List Nat)=[]/\y76 (decide (2<=IntKind.i64.wrap (t2-n26))) w73)/\∀(t77:Bool)(w78:World)(y79:Nat->Value),y76 t77 w78->IfB t77 (Ql (α:=Int) (IntKind.i64.wrap (n26+1)) w78 fun y81 b83 n84 w85=>(F262j7 t0 t2 y1 b3 x4 n26 y81 b83 n84 w85)) (Qn y1 b3 (n26,IntKind.i64.wrap (x4.2+1)) w78)
def F262j3(t0:Sl)(t1:Int)(t2:Int)(R:RV)(y1:Nat->Int×Int->World->Prop)(b3:Nat)(x4:Int×Int)(n26:Int)(w27:World):Prop:=IfB (n26 == t2) (R (Value.bool true) w27) (IfB (decide (IntKind.i64.wrap (t2-t1)<50)) (R (Value.bool false) w27) (Qx t0.1 (IntKind.i64.wrap (n26-1)) (t0.2:Int) fun b30 b31=>Qi w27.drew b30 (b31+(IntKind.i64.wrap (n26-1)).toNat) fun n32=>Qx t0.1 n26 (t0.2:Int) fun b33 b34=>Qi w27.drew b33 (b34+n26.toNat) fun n35=>Qx t0.1 n26 (t0.2:Int) fun b36 b37=>#[Qz n32].size=1/\StoreP w27.drew b36 (b37+n26.toNat) [Qz n32] fun w38=>Qx t0.1 (IntKind.i64.wrap (n26-1)) (t0.2:Int) fun b39 b40=>#[Qz n35].size=1/\StoreP w38 b39 (b40+(IntKind.i64.wrap (n26-1)).toNat) [Qz n35] fun w41=>∃(y42:Unit->World->Prop),IfB (decide (2<=IntKind.i64.wrap (n26-t1))) (Ql (α:=Int) (IntKind.i64.wrap (n26-1)) w41 fun y43 b45 n46 w47=>(F262j4 t0 y42 y43 b45 n46 w47)) (([]:List Nat)=[]/\y42 PUnit.unit w41)/\∀(y72:Unit)(w73:World)(y74:Nat->Value),y42 y72 w73->(F262j5 t0 t2 y1 b3 x4 n26 w73)))
theorem F262_ok(t0:Sl)(t1:Int)(t2:Int)(w:World)(R:RV)(h:Ql (α:=Int×Int) (IntKind.i64.wrap (t1+1),0) w fun y1 b3 x4 w5=>IfB (decide (x4.snd<5)) (∃(y8:Int->World->Prop),(Ql (α:=Int) x4.1 w5 fun y9 b11 n12 w13=>(F262j2 t0 t2 y8 y9 b11 n12 w13))/\∀(n26:Int)(w27:World)(y28:Nat->Value),y8 n26 w27->(F262j3 t0 t1 t2 R y1 b3 x4 n26 w27)) (R (Value.bool false) w5)):Cw 262 #[Qy t0,Qz t1,Qz t2] w R:=
 ckF Tryz.func262 (nd (nd (.node (nd (.loop [(7,oi),(8,oi)] (rg [6,10,13,132]) (nd (.node (.join [(7,oi)] (rg [7,7,17,34]) (.loop [(7,oi)] (rg [7,7,17,34]) (.node (.node (.draw (sts [0,1,2,3,4,5,6,7,8,9,10,11,12] (.ac 13 [] (sts [14,15] .fin) .non))) .nil) .nil)) (nd (nd (.node (.draw (sts [0,1,2,3,4,5,6,7,8,9,10,11,12,13,14] (.ac 15 [4,3,2] (.st 16 (.ac 17 [] .fin .non)) .non))) (.join [] (rg [9,9,58,94]) (nd (.node (nd (.loop [(9,oi)] (rg [9,9,64,94]) (nd (.node (.node (.node (.draw (sts [0,1,2,3,4,5,6,7,8] (.ac 9 [] (.st 10 .fin) .non))) .nil) (.draw (sts [0,1,2,3,4,5,6,7,8,9,10,11,12,13,14] (.ac 15 [4,3,2] (.st 16 (.ac 17 [] .fin .non)) .non)))) .nil)))) .nil)) (.join [(98,ob)] [95,96,97,98] .nil (.node (nd (.loop [(10,oi)] (rg [10,10,101,132]) (nd (.node (.node (.node (.draw (sts [0,1,2,3,4,5,6,7,8] (.ac 9 [] (.st 10 .fin) .non))) .nil) (.draw (sts [0,1,2,3,4,5,6,7,8,9,10,11,12,13,14] (.ac 15 [4,3,2] (.st 16 (.ac 17 [] .fin .non)) .non)))) .nil)))) .nil))))))) .nil)))) .nil))) h (by kernel_rfl) (by kernel_rfl)
theorem F263_ok(t0:Int)(t1:Int)(w:World)(R:RV)(h:Cx 214 #[Qz t0] w fun v1 w2=>∃t3:Bool,v1=Value.bool t3/\IfB t3 (Qv' 214 #[Qz t1] w2 fun t6 w5=>IfB (!t6) (R (Value.bool true) w5) (R (Value.bool (decide (t0<t1))) w5)) (R (Value.bool (decide (t0<t1))) w2)):Cw 263 #[Qz t0,Qz t1] w R:=
 ckF Tryz.func263 .nil h (by kernel_rfl) (by kernel_rfl)
def F264j2(t0:Sl)(t1:Int)(x16:Int×Int)(y20:Int->World->Prop)(y21:Nat->Int->World->Prop)(b23:Nat)(n24:Int)(w25:World):Prop:=IfB (decide (n24<=x16.snd)) (Qx t0.1 t1 (t0.2:Int) fun b28 b29=>Qi w25.drew b28 (b29+t1.toNat) fun n30=>Qx t0.1 n24 (t0.2:Int) fun b31 b32=>Qi w25.drew b31 (b32+n24.toNat) fun n33=>Qv' 263 #[Qz n30,Qz n33] w25.drew fun t36 w35=>IfB (!t36) (Qn y21 b23 (IntKind.i64.wrap (n24+1)) w35) (([]:List Nat)=[]/\y20 n24 w35)) (([]:List Nat)=[]/\y20 n24 w25.drew)
def F264j4(t0:Sl)(t1:Int)(n38:Int)(y42:Int->World->Prop)(y43:Nat->Int->World->Prop)(b45:Nat)(n46:Int)(w47:World):Prop:=IfB (decide (n38<=n46)) (Qx t0.1 t1 (t0.2:Int) fun b50 b51=>Qi w47.drew b50 (b51+t1.toNat) fun n52=>Qx t0.1 n46 (t0.2:Int) fun b53 b54=>Qi w47.drew b53 (b54+n46.toNat) fun n55=>Qv' 263 #[Qz n52,Qz n55] w47.drew fun t58 w57=>IfB t58 (Qn y43 b45 (IntKind.i64.wrap (n46-1)) w57) (([]:List Nat)=[]/\y42 n46 w57)) (([]:List Nat)=[]/\y42 n46 w47.drew)
def F264j5(t0:Sl)(R:RV)(y13:Nat->Int×Int->World->Prop)(b15:Nat)(n38:Int)(n60:Int)(w61:World):Prop:=IfB (decide (n60<n38)) (R (Qz n38) w61) (Qx t0.1 n60 (t0.2:Int) fun b64 b65=>Qi w61.drew b64 (b65+n60.toNat) fun n66=>Qx t0.1 n38 (t0.2:Int) fun b67 b68=>Qi w61.drew b67 (b68+n38.toNat) fun n69=>Qx t0.1 n38 (t0.2:Int) fun b70 b71=>#[Qz n66].size=1/\StoreP w61.drew b70 (b71+n38.toNat) [Qz n66] fun w72=>Qx t0.1 n60 (t0.2:Int) fun b73 b74=>#[Qz n69].size=1/\StoreP w72 b73 (b74+n60.toNat) [Qz n69] fun w75=>Qn y13 b15 (IntKind.i64.wrap (n38+1),IntKind.i64.wrap (n60-1)) w75)
def F264j1(t0:Sl)(t1:Int)(R:RV)(y13:Nat->Int×Int->World->Prop)(b15:Nat)(x16:Int×Int)(w17:World):Prop:=∃(y20:Int->World->Prop),(Ql (α:=Int) x16.1 w17 fun y21 b23 n24 w25=>(F264j2 t0 t1 x16 y20 y21 b23 n24 w25))/\∀(n38:Int)(w39:World)(y40:Nat->Value),y20 n38 w39->∃(y42:Int->World->Prop),(Ql (α:=Int) x16.2 w39 fun y43 b45 n46 w47=>(F264j4 t0 t1 n38 y42 y43 b45 n46 w47))/\∀(n60:Int)(w61:World)(y62:Nat->Value),y42 n60 w61->(F264j5 t0 R y13 b15 n38 n60 w61)
theorem F264_ok(t0:Sl)(t1:Int)(t2:Int)(t3:Int)(w:World)(R:RV)(h:Qx t0.1 t3 (t0.2:Int) fun b1 b2=>∃n3:Int,w.drew.cell? ⟨b1,b2+t3.toNat,none⟩=some (Qz n3)/\Qx t0.1 t1 (t0.2:Int) fun b4 b5=>∃n6:Int,w.drew.cell? ⟨b4,b5+t1.toNat,none⟩=some (Qz n6)/\Qx t0.1 t1 (t0.2:Int) fun b7 b8=>#[Qz n3].size=1/\StoreP w.drew b7 (b8+t1.toNat) [Qz n3] fun w9=>Qx t0.1 t3 (t0.2:Int) fun b10 b11=>#[Qz n6].size=1/\StoreP w9 b10 (b11+t3.toNat) [Qz n6] fun w12=>Ql (α:=Int×Int) (IntKind.i64.wrap (t1+1),IntKind.i64.wrap (t2-1)) w12 fun y13 b15 x16 w17=>(F264j1 t0 t1 R y13 b15 x16 w17)):Cw 264 #[Qy t0,Qz t1,Qz t2,Qz t3] w R:=
 ckF Tryz.func264 (nd (.node (.draw (sts [0,1,2,3,4,5,6,7,8,9,10,11,12] (.ac 13 [3,2] (.st 14 (.ac 15 [] .fin .non)) .non))) (nd (.node (.loop [(9,oi),(10,oi)] (rg [9,10,29,82]) (.join [(9,oi)] (rg [9,9,29,45]) (.loop [(9,oi)] (rg [9,9,29,45]) (.node (.node (.draw (sts [0,1,2,3,4,5,6,7,8,9,10,11] (.ac 12 [] (sts [13,14] .fin) .non))) .nil) .nil)) (.join [(10,oi)] (rg [10,10,46,61]) (.loop [(10,oi)] (rg [10,10,46,61]) (.node (.node (.draw (sts [0,1,2,3,4,5,6,7,8,9,10,11] (.ac 12 [] (.st 13 .fin) .non))) .nil) .nil)) (nd (.node (.draw (sts [0,1,2,3,4,5,6,7,8,9,10,11,12] (.ac 13 [3,2] (.st 14 (.ac 15 [] .fin .non)) .non))) .nil))))) .nil)))) h (by kernel_rfl) (by kernel_rfl)
def F265k2(t0:Sl)(n92:Int)(w93:World)(t1:Int)(b91:Nat)(y89:Nat->Int->World->Prop)(y88:Int->World->Prop):Prop:=Qx t0.1 n92 (t0.2:Int) fun b96 b97=>Qi w93.drew b96 (b97+n92.toNat) fun n98=>Qx t0.1 t1 (t0.2:Int) fun b99 b100=>Qi w93.drew b99 (b100+t1.toNat) fun n101=>Qv' 263 #[Qz n98,Qz n101] w93.drew fun t104 w103=>IfB t104 (Qn y89 b91 (IntKind.i64.wrap (n92+1)) w103) (([]:List Nat)=[]/\y88 n92 w103)
def F265j1(t0:Sl)(t1:Int)(t2:Int)(y13:Int->World->Prop)(y14:Nat->Int->World->Prop)(b16:Nat)(n17:Int)(w18:World):Prop:=IfB (decide (n17<=IntKind.i64.wrap (t2-1))) (F265k2 t0 n17 w18 t1 b16 y14 y13) (([]:List Nat)=[]/\y13 n17 w18.drew)
def F265k1(t0:Sl)(n114:Int)(w115:World)(t1:Int)(b113:Nat)(y111:Nat->Int->World->Prop)(y110:Int->World->Prop):Prop:=Qx t0.1 n114 (t0.2:Int) fun b118 b119=>Qi w115.drew b118 (b119+n114.toNat) fun n120=>Qx t0.1 t1 (t0.2:Int) fun b121 b122=>Qi w115.drew b121 (b122+t1.toNat) fun n123=>Qv' 263 #[Qz n120,Qz n123] w115.drew fun t126 w125=>IfB (!t126) (Qn y111 b113 (IntKind.i64.wrap (n114-1)) w125) (([]:List Nat)=[]/\y110 n114 w125)
def F265j3(t0:Sl)(t1:Int)(n31:Int)(y35:Int->World->Prop)(y36:Nat->Int->World->Prop)(b38:Nat)(n39:Int)(w40:World):Prop:=IfB (decide (n31<=n39)) (F265k1 t0 n39 w40 t1 b38 y36 y35) (([]:List Nat)=[]/\y35 n39 w40.drew)
def F265j6(t0:Sl)(t1:Int)(x84:Int×Int)(y88:Int->World->Prop)(y89:Nat->Int->World->Prop)(b91:Nat)(n92:Int)(w93:World):Prop:=IfB (decide (n92<=x84.snd)) (F265k2 t0 n92 w93 t1 b91 y89 y88) (([]:List Nat)=[]/\y88 n92 w93.drew)
def F265j8(t0:Sl)(t1:Int)(n106:Int)(y110:Int->World->Prop)(y111:Nat->Int->World->Prop)(b113:Nat)(n114:Int)(w115:World):Prop:=IfB (decide (n106<=n114)) (F265k1 t0 n114 w115 t1 b113 y111 y110) (([]:List Nat)=[]/\y110 n114 w115.drew)
def F265j9(t0:Sl)(t1:Int)(R:RV)(y81:Nat->Int×Int->World->Prop)(b83:Nat)(n106:Int)(n128:Int)(w129:World):Prop:=IfB (decide (n128<n106)) (Qx t0.1 t1 (t0.2:Int) fun b132 b133=>Qi w129.drew b132 (b133+t1.toNat) fun n134=>Qx t0.1 n128 (t0.2:Int) fun b135 b136=>Qi w129.drew b135 (b136+n128.toNat) fun n137=>Qx t0.1 n128 (t0.2:Int) fun b138 b139=>#[Qz n134].size=1/\StoreP w129.drew b138 (b139+n128.toNat) [Qz n134] fun w140=>Qx t0.1 t1 (t0.2:Int) fun b141 b142=>#[Qz n137].size=1/\StoreP w140 b141 (b142+t1.toNat) [Qz n137] fun w143=>R (Value.tuple #[Qz n128,Value.bool false]) w143) (Qx t0.1 n128 (t0.2:Int) fun b144 b145=>Qi w129.drew b144 (b145+n128.toNat) fun n146=>Qx t0.1 n106 (t0.2:Int) fun b147 b148=>Qi w129.drew b147 (b148+n106.toNat) fun n149=>Qx t0.1 n106 (t0.2:Int) fun b150 b151=>#[Qz n146].size=1/\StoreP w129.drew b150 (b151+n106.toNat) [Qz n146] fun w152=>Qx t0.1 n128 (t0.2:Int) fun b153 b154=>#[Qz n149].size=1/\StoreP w152 b153 (b154+n128.toNat) [Qz n149] fun w155=>Qn y81 b83 (IntKind.i64.wrap (n106+1),IntKind.i64.wrap (n128-1)) w155)
def F265j5(t0:Sl)(t1:Int)(R:RV)(y81:Nat->Int×Int->World->Prop)(b83:Nat)(x84:Int×Int)(w85:World):Prop:=∃(y88:Int->World->Prop),(Ql (α:=Int) x84.1 w85 fun y89 b91 n92 w93=>(F265j6 t0 t1 x84 y88 y89 b91 n92 w93))/\∀(n106:Int)(w107:World)(y108:Nat->Value),y88 n106 w107->∃(y110:Int->World->Prop),(Ql (α:=Int) x84.2 w107 fun y111 b113 n114 w115=>(F265j8 t0 t1 n106 y110 y111 b113 n114 w115))/\∀(n128:Int)(w129:World)(y130:Nat->Value),y110 n128 w129->(F265j9 t0 t1 R y81 b83 n106 n128 w129)
def F265j4(t0:Sl)(t1:Int)(R:RV)(n31:Int)(n53:Int)(w54:World):Prop:=IfB (decide (n53<n31)) (Qx t0.1 t1 (t0.2:Int) fun b57 b58=>Qi w54.drew b57 (b58+t1.toNat) fun n59=>Qx t0.1 n53 (t0.2:Int) fun b60 b61=>Qi w54.drew b60 (b61+n53.toNat) fun n62=>Qx t0.1 n53 (t0.2:Int) fun b63 b64=>#[Qz n59].size=1/\StoreP w54.drew b63 (b64+n53.toNat) [Qz n59] fun w65=>Qx t0.1 t1 (t0.2:Int) fun b66 b67=>#[Qz n62].size=1/\StoreP w65 b66 (b67+t1.toNat) [Qz n62] fun w68=>R (Value.tuple #[Qz n53,Value.bool true]) w68) (Qx t0.1 n53 (t0.2:Int) fun b69 b70=>Qi w54.drew b69 (b70+n53.toNat) fun n71=>Qx t0.1 n31 (t0.2:Int) fun b72 b73=>Qi w54.drew b72 (b73+n31.toNat) fun n74=>Qx t0.1 n31 (t0.2:Int) fun b75 b76=>#[Qz n71].size=1/\StoreP w54.drew b75 (b76+n31.toNat) [Qz n71] fun w77=>Qx t0.1 n53 (t0.2:Int) fun b78 b79=>#[Qz n74].size=1/\StoreP w77 b78 (b79+n53.toNat) [Qz n74] fun w80=>Ql (α:=Int×Int) (IntKind.i64.wrap (n31+1),IntKind.i64.wrap (n53-1)) w80 fun y81 b83 x84 w85=>(F265j5 t0 t1 R y81 b83 x84 w85))
theorem F265_ok(t0:Sl)(t1:Int)(t2:Int)(t3:Int)(w:World)(R:RV)(h:Qx t0.1 t3 (t0.2:Int) fun b1 b2=>∃n3:Int,w.drew.cell? ⟨b1,b2+t3.toNat,none⟩=some (Qz n3)/\Qx t0.1 t1 (t0.2:Int) fun b4 b5=>∃n6:Int,w.drew.cell? ⟨b4,b5+t1.toNat,none⟩=some (Qz n6)/\Qx t0.1 t1 (t0.2:Int) fun b7 b8=>#[Qz n3].size=1/\StoreP w.drew b7 (b8+t1.toNat) [Qz n3] fun w9=>Qx t0.1 t3 (t0.2:Int) fun b10 b11=>#[Qz n6].size=1/\StoreP w9 b10 (b11+t3.toNat) [Qz n6] fun w12=>∃(y13:Int->World->Prop),(Ql (α:=Int) (IntKind.i64.wrap (t1+1)) w12 fun y14 b16 n17 w18=>(F265j1 t0 t1 t2 y13 y14 b16 n17 w18))/\∀(n31:Int)(w32:World)(y33:Nat->Value),y13 n31 w32->∃(y35:Int->World->Prop),(Ql (α:=Int) (IntKind.i64.wrap (t2-1)) w32 fun y36 b38 n39 w40=>(F265j3 t0 t1 n31 y35 y36 b38 n39 w40))/\∀(n53:Int)(w54:World)(y55:Nat->Value),y35 n53 w54->(F265j4 t0 t1 R n31 n53 w54)):Cw 265 #[Qy t0,Qz t1,Qz t2,Qz t3] w R:=
 ckF Tryz.func265 (nd (.node (.draw (sts [0,1,2,3,4,5,6,7,8,9,10,11,12] (.ac 13 [3,2] (.st 14 (.ac 15 [] .fin .non)) .non))) (nd (.join [(10,oi)] (rg [10,10,30,45]) (.loop [(10,oi)] (rg [10,10,30,45]) (.node (.node (.draw (sts [0,1,2,3,4,5,6,7,8,9,10,11] (.ac 12 [] (.st 13 .fin) .non))) .nil) .nil)) (.join [(11,oi)] (rg [11,11,46,62]) (.loop [(11,oi)] (rg [11,11,46,62]) (.node (.node (.draw (sts [0,1,2,3,4,5,6,7,8,9,10,11] (.ac 12 [] (sts [13,14] .fin) .non))) .nil) .nil)) (.node (nd (.node (.node (.draw (sts [0,1,2,3,4,5,6,7,8,9,10,11,12] (.ac 13 [3,2] (.st 14 (.ac 15 [] .fin .non)) .non))) .nil) .nil)) (.node (.draw (sts [0,1,2,3,4,5,6,7,8,9,10,11,12] (.ac 13 [3,2] (.st 14 (.ac 15 [] .fin .non)) .non))) (nd (nd (.node (.loop [(10,oi),(11,oi)] (rg [10,11,99,152]) (.join [(10,oi)] (rg [10,10,99,114]) (.loop [(10,oi)] (rg [10,10,99,114]) (.node (.node (.draw (sts [0,1,2,3,4,5,6,7,8,9,10,11] (.ac 12 [] (.st 13 .fin) .non))) .nil) .nil)) (.join [(11,oi)] (rg [11,11,115,131]) (.loop [(11,oi)] (rg [11,11,115,131]) (.node (.node (.draw (sts [0,1,2,3,4,5,6,7,8,9,10,11] (.ac 12 [] (sts [13,14] .fin) .non))) .nil) .nil)) (nd (.node (.draw (sts [0,1,2,3,4,5,6,7,8,9,10,11,12] (.ac 13 [3,2] (.st 14 (.ac 15 [] .fin .non)) .non))) .nil))))) (.node (.draw (sts [0,1,2,3,4,5,6,7,8,9,10,11,12] (.ac 13 [3,2] (.st 14 (.ac 15 [] .fin .non)) .non))) .nil))))))))))) h (by kernel_rfl) (by kernel_rfl)
def F213k8(t0:Int)(R:RV)(w:World):Prop:=(0:Int)<=8/\∃y1:UInt8,0<=IntKind.u8.wrap (((t0.fdiv (2^min (Int.toNat 32) IntKind.u64.bits)).fdiv (2^min (Int.toNat 16) IntKind.u64.bits)).fdiv (2^min (Int.toNat 8) IntKind.u64.bits))/\GxLSby0[(IntKind.u8.wrap (((t0.fdiv (2^min (Int.toNat 32) IntKind.u64.bits)).fdiv (2^min (Int.toNat 16) IntKind.u64.bits)).fdiv (2^min (Int.toNat 8) IntKind.u64.bits))).toNat]? =some y1/\R (Qz (IntKind.i64.wrap (IntKind.i64.wrap (IntKind.i64.wrap (32+16)+8)+IntKind.i64.wrap (y1.toNat:Int)))) w
def F213k5(t0:Int)(R:RV)(w:World):Prop:=∃y4:UInt8,0<=IntKind.u8.wrap ((t0.fdiv (2^min (Int.toNat 32) IntKind.u64.bits)).fdiv (2^min (Int.toNat 16) IntKind.u64.bits))/\GxLSby0[(IntKind.u8.wrap ((t0.fdiv (2^min (Int.toNat 32) IntKind.u64.bits)).fdiv (2^min (Int.toNat 16) IntKind.u64.bits))).toNat]? =some y4/\R (Qz (IntKind.i64.wrap (IntKind.i64.wrap (32+16)+IntKind.i64.wrap (y4.toNat:Int)))) w
def F213k6(t0:Int)(R:RV)(w:World):Prop:=(0:Int)<=8/\∃y7:UInt8,0<=IntKind.u8.wrap ((t0.fdiv (2^min (Int.toNat 32) IntKind.u64.bits)).fdiv (2^min (Int.toNat 8) IntKind.u64.bits))/\GxLSby0[(IntKind.u8.wrap ((t0.fdiv (2^min (Int.toNat 32) IntKind.u64.bits)).fdiv (2^min (Int.toNat 8) IntKind.u64.bits))).toNat]? =some y7/\R (Qz (IntKind.i64.wrap (IntKind.i64.wrap (32+8)+IntKind.i64.wrap (y7.toNat:Int)))) w
def F213k2(t0:Int)(R:RV)(w:World):Prop:=∃y10:UInt8,0<=IntKind.u8.wrap (t0.fdiv (2^min (Int.toNat 32) IntKind.u64.bits))/\GxLSby0[(IntKind.u8.wrap (t0.fdiv (2^min (Int.toNat 32) IntKind.u64.bits))).toNat]? =some y10/\R (Qz (IntKind.i64.wrap (32+IntKind.i64.wrap (y10.toNat:Int)))) w
def F213k7(t0:Int)(R:RV)(w:World):Prop:=(0:Int)<=8/\∃y13:UInt8,0<=IntKind.u8.wrap ((t0.fdiv (2^min (Int.toNat 16) IntKind.u64.bits)).fdiv (2^min (Int.toNat 8) IntKind.u64.bits))/\GxLSby0[(IntKind.u8.wrap ((t0.fdiv (2^min (Int.toNat 16) IntKind.u64.bits)).fdiv (2^min (Int.toNat 8) IntKind.u64.bits))).toNat]? =some y13/\R (Qz (IntKind.i64.wrap (IntKind.i64.wrap (IntKind.i64.wrap (0+16)+8)+IntKind.i64.wrap (y13.toNat:Int)))) w
def F213k3(t0:Int)(R:RV)(w:World):Prop:=∃y16:UInt8,0<=IntKind.u8.wrap (t0.fdiv (2^min (Int.toNat 16) IntKind.u64.bits))/\GxLSby0[(IntKind.u8.wrap (t0.fdiv (2^min (Int.toNat 16) IntKind.u64.bits))).toNat]? =some y16/\R (Qz (IntKind.i64.wrap (IntKind.i64.wrap (0+16)+IntKind.i64.wrap (y16.toNat:Int)))) w
def F213k4(t0:Int)(R:RV)(w:World):Prop:=(0:Int)<=8/\∃y19:UInt8,0<=IntKind.u8.wrap (t0.fdiv (2^min (Int.toNat 8) IntKind.u64.bits))/\GxLSby0[(IntKind.u8.wrap (t0.fdiv (2^min (Int.toNat 8) IntKind.u64.bits))).toNat]? =some y19/\R (Qz (IntKind.i64.wrap (IntKind.i64.wrap (0+8)+IntKind.i64.wrap (y19.toNat:Int)))) w
def F213k1(t0:Int)(R:RV)(w:World):Prop:=∃y22:UInt8,0<=IntKind.u8.wrap t0/\GxLSby0[(IntKind.u8.wrap t0).toNat]? =some y22/\R (Qz (IntKind.i64.wrap (0+IntKind.i64.wrap (y22.toNat:Int)))) w
theorem F213_ok(t0:Int)(w:World)(R:RV)(h:IfB (decide (4294967296<=t0)) ((0:Int)<=32/\IfB (decide (65536<=t0.fdiv (2^min (Int.toNat 32) IntKind.u64.bits))) ((0:Int)<=16/\IfB (decide (256<=(t0.fdiv (2^min (Int.toNat 32) IntKind.u64.bits)).fdiv (2^min (Int.toNat 16) IntKind.u64.bits))) (F213k8 t0 R w) (F213k5 t0 R w)) (IfB (decide (256<=t0.fdiv (2^min (Int.toNat 32) IntKind.u64.bits))) (F213k6 t0 R w) (F213k2 t0 R w))) (IfB (decide (65536<=t0)) ((0:Int)<=16/\IfB (decide (256<=t0.fdiv (2^min (Int.toNat 16) IntKind.u64.bits))) (F213k7 t0 R w) (F213k3 t0 R w)) (IfB (decide (256<=t0)) (F213k4 t0 R w) (F213k1 t0 R w)))):Cw 213 #[Value.int IntKind.u64 t0] w R:=
 ckF Tryz.func213 .nil h (by kernel_rfl) (by kernel_rfl)
def F282j2(t0:Sl)(t3:Int)(R:RV)(y1:Nat->Int->World->Prop)(b3:Nat)(n4:Int)(n18:Int)(w19:World):Prop:=Qx t0.1 (IntKind.i64.wrap (t3+n4)) (t0.2:Int) fun b22 b23=>Qi w19.drew b22 (b23+(IntKind.i64.wrap (t3+n4)).toNat) fun n24=>Qx t0.1 (IntKind.i64.wrap (t3+n18)) (t0.2:Int) fun b25 b26=>Qi w19.drew b25 (b26+(IntKind.i64.wrap (t3+n18)).toNat) fun n27=>Qv' 263 #[Qz n24,Qz n27] w19.drew fun t30 w29=>IfB (!t30) (R (Value.tuple #[]) w29) (Qx t0.1 (IntKind.i64.wrap (t3+n18)) (t0.2:Int) fun b31 b32=>Qi w29.drew b31 (b32+(IntKind.i64.wrap (t3+n18)).toNat) fun n33=>Qx t0.1 (IntKind.i64.wrap (t3+n4)) (t0.2:Int) fun b34 b35=>Qi w29.drew b34 (b35+(IntKind.i64.wrap (t3+n4)).toNat) fun n36=>Qx t0.1 (IntKind.i64.wrap (t3+n4)) (t0.2:Int) fun b37 b38=>#[Qz n33].size=1/\StoreP w29.drew b37 (b38+(IntKind.i64.wrap (t3+n4)).toNat) [Qz n33] fun w39=>Qx t0.1 (IntKind.i64.wrap (t3+n18)) (t0.2:Int) fun b40 b41=>#[Qz n36].size=1/\StoreP w39 b40 (b41+(IntKind.i64.wrap (t3+n18)).toNat) [Qz n36] fun w42=>Qn y1 b3 n18 w42)
def F282j1(t0:Sl)(t2:Int)(t3:Int)(R:RV)(y1:Nat->Int->World->Prop)(b3:Nat)(n4:Int)(w5:World):Prop:=IfB (decide (t2<=IntKind.i64.wrap (IntKind.i64.wrap (2*n4)+1))) (R (Value.tuple #[]) w5) (∃(y8:Int->World->Prop),IfB (decide (IntKind.i64.wrap (IntKind.i64.wrap (IntKind.i64.wrap (2*n4)+1)+1)<t2)) (Qx t0.1 (IntKind.i64.wrap (t3+IntKind.i64.wrap (IntKind.i64.wrap (2*n4)+1))) (t0.2:Int) fun b9 b10=>Qi w5.drew b9 (b10+(IntKind.i64.wrap (t3+IntKind.i64.wrap (IntKind.i64.wrap (2*n4)+1))).toNat) fun n11=>Qx t0.1 (IntKind.i64.wrap (IntKind.i64.wrap (t3+IntKind.i64.wrap (IntKind.i64.wrap (2*n4)+1))+1)) (t0.2:Int) fun b12 b13=>Qi w5.drew b12 (b13+(IntKind.i64.wrap (IntKind.i64.wrap (t3+IntKind.i64.wrap (IntKind.i64.wrap (2*n4)+1))+1)).toNat) fun n14=>Qv' 263 #[Qz n11,Qz n14] w5.drew fun t17 w16=>IfB t17 (([]:List Nat)=[]/\y8 (IntKind.i64.wrap (IntKind.i64.wrap (IntKind.i64.wrap (2*n4)+1)+1)) w16) (([]:List Nat)=[]/\y8 (IntKind.i64.wrap (IntKind.i64.wrap (2*n4)+1)) w16)) (([]:List Nat)=[]/\y8 (IntKind.i64.wrap (IntKind.i64.wrap (2*n4)+1)) w5.drew)/\∀(n18:Int)(w19:World)(y20:Nat->Value),y8 n18 w19->(F282j2 t0 t3 R y1 b3 n4 n18 w19))
theorem F282_ok(t0:Sl)(t1:Int)(t2:Int)(t3:Int)(w:World)(R:RV)(h:Ql (α:=Int) t1 w fun y1 b3 n4 w5=>(F282j1 t0 t2 t3 R y1 b3 n4 w5)):Cw 282 #[Qy t0,Qz t1,Qz t2,Qz t3] w R:=
 ckF Tryz.func282 (nd (.loop [(8,oi)] (rg [8,9,11,75]) (nd (nd (.join [(9,oi)] (rg [9,9,17,38]) (.node (.draw (sts [0,1,2,3,4,5,6,7,8,9,10,11,12,13,14,15,16,17] (.ac 18 [] (.st 19 .fin) .non))) .nil) (.node (.node (.draw (sts [0,1,2,3,4,5,6,7,8,9,10,11] (.ac 12 [] (.st 13 .fin) .non))) .nil) (.node (.draw (sts [0,1,2,3,4,5,6,7,8,9,10,11,12,13,14,15,16,17,18,19,20] (.ac 21 [7,6,5,4] (.st 22 (.ac 23 [] .fin .non)) .non))) .nil))))))) h (by kernel_rfl) (by kernel_rfl)
def F243(t0:Int)(w:World)(R:RV):Prop:=Cx 156 #[Value.int IntKind.u64 (IntKind.u64.wrap t0)] w fun v1 w2=>∃n3:Int,v1=Qz n3/\0<=n3/\R (Value.int IntKind.u64 (IntKind.u64.wrap (1*2^min n3.toNat IntKind.u64.bits))) w2
theorem F243_ok(t0:Int)(w:World)(R:RV)(h:F243 t0 w R):Cw 243 #[Qz t0] w R:=
 ckF Tryz.func243 .nil h (by kernel_rfl) (by kernel_rfl)
theorem F244_ok(t0:Option Addr)(w:World)(R:RV)(h:∃b1:Nat,∃b2:Nat,t0=some ⟨b1,b2,none⟩/\∃n3:Int,w.drew.cell? ⟨b1,b2,none⟩=some (Value.int IntKind.u64 n3)/\∃b4:Nat,∃b5:Nat,t0=some ⟨b4,b5,none⟩/\∃n6:Int,w.drew.cell? ⟨b4,b5,none⟩=some (Value.int IntKind.u64 n6)/\(0:Int)<=13/\∃b7:Nat,∃b8:Nat,t0=some ⟨b7,b8,none⟩/\#[Value.int IntKind.u64 (bitsI BinOp.xor IntKind.u64 n3 (IntKind.u64.wrap (n6*2^min (Int.toNat 13) IntKind.u64.bits)))].size=1/\StoreP w.drew b7 b8 [Value.int IntKind.u64 (bitsI BinOp.xor IntKind.u64 n3 (IntKind.u64.wrap (n6*2^min (Int.toNat 13) IntKind.u64.bits)))] fun w9=>∃b10:Nat,∃b11:Nat,t0=some ⟨b10,b11,none⟩/\∃n12:Int,w9.drew.cell? ⟨b10,b11,none⟩=some (Value.int IntKind.u64 n12)/\∃b13:Nat,∃b14:Nat,t0=some ⟨b13,b14,none⟩/\∃n15:Int,w9.drew.cell? ⟨b13,b14,none⟩=some (Value.int IntKind.u64 n15)/\(0:Int)<=7/\∃b16:Nat,∃b17:Nat,t0=some ⟨b16,b17,none⟩/\#[Value.int IntKind.u64 (bitsI BinOp.xor IntKind.u64 n12 (n15.fdiv (2^min (Int.toNat 7) IntKind.u64.bits)))].size=1/\StoreP w9.drew b16 b17 [Value.int IntKind.u64 (bitsI BinOp.xor IntKind.u64 n12 (n15.fdiv (2^min (Int.toNat 7) IntKind.u64.bits)))] fun w18=>∃b19:Nat,∃b20:Nat,t0=some ⟨b19,b20,none⟩/\∃n21:Int,w18.drew.cell? ⟨b19,b20,none⟩=some (Value.int IntKind.u64 n21)/\∃b22:Nat,∃b23:Nat,t0=some ⟨b22,b23,none⟩/\∃n24:Int,w18.drew.cell? ⟨b22,b23,none⟩=some (Value.int IntKind.u64 n24)/\(0:Int)<=17/\∃b25:Nat,∃b26:Nat,t0=some ⟨b25,b26,none⟩/\#[Value.int IntKind.u64 (bitsI BinOp.xor IntKind.u64 n21 (IntKind.u64.wrap (n24*2^min (Int.toNat 17) IntKind.u64.bits)))].size=1/\StoreP w18.drew b25 b26 [Value.int IntKind.u64 (bitsI BinOp.xor IntKind.u64 n21 (IntKind.u64.wrap (n24*2^min (Int.toNat 17) IntKind.u64.bits)))] fun w27=>∃b28:Nat,∃b29:Nat,t0=some ⟨b28,b29,none⟩/\∃n30:Int,w27.cell? ⟨b28,b29,none⟩=some (Value.int IntKind.u64 n30)/\R (Value.int IntKind.u64 n30) w27):Cw 244 #[Value.pointer t0] w R:=
 ckF Tryz.func244 (nd (.node (.draw (sts [0,1,2,3,4,5,6,7,8] (.ac 9 [] .fin .non))) (.node (.draw (sts [0,1,2,3,4,5,6,7,8] (.ac 9 [] .fin .non))) (.node (.draw (sts [0,1,2,3,4,5,6,7,8] (.ac 9 [] .fin .non))) .nil)))) h (by kernel_rfl) (by kernel_rfl)
def F283(t0:Sl)(t1:Int)(t2:Option Addr)(w:World)(R:RV):Prop:=Cx 284 #[Qy t0,Qz (IntKind.i64.wrap (t1-1)),Qz t1,Qz (IntKind.i64.wrap (t1+1)),Value.pointer t2] w fun v1 w2=>∃n3:Int,v1=Qz n3/\R (Qz n3) w2
theorem F283_ok(t0:Sl)(t1:Int)(t2:Option Addr)(w:World)(R:RV)(h:F283 t0 t1 t2 w R):Cw 283 #[Qy t0,Qz t1,Value.pointer t2] w R:=
 ckF Tryz.func283 .nil h (by kernel_rfl) (by kernel_rfl)
theorem F284_ok(t0:Sl)(t1:Int)(t2:Int)(t3:Int)(t4:Option Addr)(w:World)(R:RV)(h:Cx 304 #[Qy t0,Qz t1,Qz t2,Value.pointer t4] w fun v1 w2=>∃(x3:Int×Int),v1=Value.tuple #[Qz x3.1,Qz x3.2]/\Cx 304 #[Qy t0,Qz x3.2,Qz t3,Value.pointer t4] w2 fun v4 w5=>∃(x6:Int×Int),v4=Value.tuple #[Qz x6.1,Qz x6.2]/\Cx 304 #[Qy t0,Qz x3.1,Qz x6.1,Value.pointer t4] w5 fun v7 w8=>∃(x9:Int×Int),v7=Value.tuple #[Qz x9.1,Qz x9.2]/\R (Qz x9.2) w8):Cw 284 #[Qy t0,Qz t1,Qz t2,Qz t3,Value.pointer t4] w R:=
 ckF Tryz.func284 .nil h (by kernel_rfl) (by kernel_rfl)
theorem F214_ok(t0:Int)(w:World)(R:RV)(h:R (Value.bool (t0 != t0)) w):Cw 214 #[Qz t0] w R:=
 ckF Tryz.func214 .nil h (by kernel_rfl) (by kernel_rfl)
theorem F304_ok(t0:Sl)(t1:Int)(t2:Int)(t3:Option Addr)(w:World)(R:RV)(h:Qx t0.1 t2 (t0.2:Int) fun b1 b2=>∃n3:Int,w.drew.cell? ⟨b1,b2+t2.toNat,none⟩=some (Qz n3)/\Qx t0.1 t1 (t0.2:Int) fun b4 b5=>∃n6:Int,w.drew.cell? ⟨b4,b5+t1.toNat,none⟩=some (Qz n6)/\Cx 263 #[Qz n3,Qz n6] w.drew fun v7 w8=>∃t9:Bool,v7=Value.bool t9/\IfB t9 (∃b10:Nat,∃b11:Nat,t3=some ⟨b10,b11,none⟩/\Qi w8 b10 b11 fun n12=>∃b13:Nat,∃b14:Nat,t3=some ⟨b13,b14,none⟩/\#[Qz (IntKind.i64.wrap (n12+1))].size=1/\StoreP w8 b13 b14 [Qz (IntKind.i64.wrap (n12+1))] fun w15=>R (Value.tuple #[Qz t2,Qz t1]) w15) (R (Value.tuple #[Qz t1,Qz t2]) w8)):Cw 304 #[Qy t0,Qz t1,Qz t2,Value.pointer t3] w R:=
 ckF Tryz.func304 (nd (.node (.node (.draw (sts [0,1,2,3,4,5,6,7] (.ac 8 [] .fin .non))) .nil) .nil)) h (by kernel_rfl) (by kernel_rfl)
end Go.Proofs.YtlpgdngcgbeegaaGreat.Gx
