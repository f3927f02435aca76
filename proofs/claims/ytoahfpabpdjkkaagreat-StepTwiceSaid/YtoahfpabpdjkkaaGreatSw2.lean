/- Merged by pack.py: GxC, GxT, GxNK, GxNS. -/
import Derived.Test.YtoahfpabpdjkkaaGreatSw1
import Derived.Below
import Derived.Laws.StructEq
import Derived.ChangeKeysEq
import Derived.Lib.Overlaps
import Derived.ChangeSame
import Derived.ProofKit
import Derived.ChangeArms
import Derived.OpenShut
import Derived.Carry
import Derived.Test.YtoahfpabpdjkkaaGreatProg
import Derived.KernelRfl
namespace Go.Proofs.YtoahfpabpdjkkaaGreat.Gx
open Go
structure Ch(F:Nat->Prop)(w w':World):Prop where
 rest:Rest w w'
 size:w.heap.size<=w'.heap.size
 old:∀i,i<w.heap.size->¬F i->w'.heap[i]? =w.heap[i]?
theorem Ch.refl(F:Nat->Prop)(w:World):Ch F w w:=⟨Rest.refl _,Nat.le_refl _,fun _ _ _=>rfl⟩
theorem Ch.trans{F:Nat->Prop}{a b c:World}(h:Ch F a b)(k:Ch F b c):Ch F a c:=
 ⟨h.rest.trans k.rest,Nat.le_trans h.size k.size,fun i hi hF=>(k.old i (Nat.lt_of_lt_of_le hi h.size) hF).trans (h.old i hi hF)⟩
theorem Ch.mono{F G:Nat->Prop}{a b:World}(h:Ch F a b)(hF:∀i,i<a.heap.size->F i->G i):Ch G a b:=
 ⟨h.rest,h.size,fun i hi hG=>h.old i hi fun hf=>hG (hF i hi hf)⟩
theorem Ch.then{F G:Nat->Prop}{a b c:World}(h:Ch F a b)(k:Ch G b c)(hG:∀i,i<a.heap.size->G i->F i):Ch F a c:=
 ⟨h.rest.trans k.rest,Nat.le_trans h.size k.size,fun i hi hF=>(k.old i (Nat.lt_of_lt_of_le hi h.size) fun hg=>hF (hG i hi hg)).trans (h.old i hi hF)⟩
theorem IsAlloc.ch{w w':World}{o:Obj}{b:Nat}(h:IsAlloc w o b w')(F:Nat->Prop):Ch F w w':=
 ⟨h.rest,by rw[h.size];omega,fun i hi _=>h.old i hi⟩
theorem IsUpd.ch{w w':World}{o:Obj}{b:Nat}(h:IsUpd w b o w'):Ch (fun i=>i=b) w w':=
 ⟨h.rest,by rw[h.size];exact Nat.le_refl _,fun i _ hb=>h.old i hb⟩
theorem Ch.ofStb{w w':World}{n:Nat}(h:Stb n w w'):Ch (fun i=>n<=i) w w':=
 ⟨h.rest,h.size,fun i _ hn=>h.low i (Nat.lt_of_not_le hn)⟩
abbrev Ext(w w':World):Prop:=Ch (fun _=>False) w w'
theorem Ext.at{w w':World}(h:Ext w w'){i:Nat}{o:Obj}(ho:w.heap[i]? =some o):w'.heap[i]? =some o:=by
 have hi:i<w.heap.size:=(Array.getElem?_eq_some_iff.1 ho).1
 rw[h.old i hi id];exact ho
theorem Ext.below{w w':World}(h:Ext w w'):RowKit.Below w.heap.size w w':=
 ⟨h.rest.os,h.rest.tape,h.rest.output,h.size,fun k hk=>h.old k hk id⟩
theorem Ch.at{F:Nat->Prop}{w w':World}(h:Ch F w w'){i:Nat}{o:Obj}(ho:w.heap[i]? =some o)(hF:¬F i):w'.heap[i]? =some o:=by
 have hi:i<w.heap.size:=(Array.getElem?_eq_some_iff.1 ho).1
 rw[h.old i hi hF];exact ho
theorem heap_lt{w:World}{i:Nat}{o:Obj}(ho:w.heap[i]? =some o):i<w.heap.size:=(Array.getElem?_eq_some_iff.1 ho).1
theorem IsAlloc.at{w w':World}{o o':Obj}{b i:Nat}(h:IsAlloc w o b w')(ho:w.heap[i]? =some o'):w'.heap[i]? =some o':=by
 rw[h.old i (heap_lt ho)];exact ho
theorem IsUpd.at{w w':World}{o o':Obj}{b i:Nat}(h:IsUpd w b o w')(ho:w.heap[i]? =some o')(hi:i≠b):w'.heap[i]? =some o':=by
 rw[h.old i hi];exact ho
theorem cell_of{w:World}{b:Nat}{cs:Array Value}{T:TypeId}{q:Nat×Nat}(h:w.heap[b]? =some (.cells cs T q))(o:Nat):w.cell? ⟨b,o,none⟩=cs[o]? :=by
 simp[World.cell?,h]
theorem cellsAt_of{w:World}{b o:Nat}{cs:Array Value}{T:TypeId}{q:Nat×Nat}(h:w.heap[b]? =some (.cells cs T q)){l:List Value}(hl:∀i v,l[i]? =some v->cs[o+i]? =some v):CellsAt w b o l:=by
 intro i v hv
 rw[cell_of h];exact hl i v hv
theorem marks_one{w:World}{D:Nat}{K:World->Prop}(hD:w.heap[D]? =some (.deferred (some [])))(h:∀w',IsUpd w D (.deferred none) w'->K w'):marksP w [.col D] K:=⟨hD,h⟩
theorem store_one{w:World}{b o:Nat}{v:Value}{old:Array Value}{T:TypeId}{K:World->Prop}(hb:w.heap[b]? =some (.cells old T (0,0)))(ho:o<old.size)(h1:v.oneCell'=true)
  (hK:∀w',IsUpd w b (.cells (old.setIfInBounds o v) T (0,0)) w'->K w'):StoreP w b o [v] K:=
 ⟨old,T,hb,by simp;omega,by intro x hx;simp at hx;subst hx;exact h1,hK⟩
theorem zc_len(z:Array Value)(n:Nat):(zc z n).length=n*z.size:=by
 unfold zc
 rw[Array.length_toList]
 simp[Builtin.zeroCells]
set_option linter.unusedSimpArgs false
def partV(tj:TI)(cs:Array Value)(off:Nat):Option Value:=
 match tj.kd.isAgg with
 | true=>some (.agg (takeL tj.size (dropL off cs.toList)).toArray)
 | false=>nth cs.toList off
def eqK:IntKind->IntKind->Bool
 | .i64,.i64=>true | .u64,.u64=>true | .u8,.u8=>true | .i32,.i32=>true | .u32,.u32=>true | .i8,.i8=>true | .i16,.i16=>true | .u16,.u16=>true
 | _,_=>false
theorem eqK_eq{j k:IntKind}(h:eqK j k=true):j=k:=by cases j<;>cases k<;>first|rfl|cases h
def eqF(tb:Tab)(E:TypeId->Value->Value->Option Bool)(xs ys:Array Value):List Field->Option Bool
 | []=>some true
 | f::fs=>match decide (f.name= "_") with
  | true=>none
  | false=>match tb f.type with
   | none=>none
   | some tj=>match partV tj xs f.offset,partV tj ys f.offset with
    | some x,some y=>match E f.type x y,eqF tb E xs ys fs with
     | some a,some b=>some (a&&b)
     | _,_=>none
    | _,_=>none
def eqL(P:Program)(tb:Tab):Nat->TypeId->Value->Value->Option Bool
 | 0,_,_,_=>none
 | d+1,t,x,y=>match tb t with
  | none=>none
  | some ti=>match ti.kd,x,y with
   | .int _,.int k a,.int j b=>match eqK k j with
    | true=>some (a == b)
    | false=>none
   | .bool,.bool a,.bool b=>some (a == b)
   | .string,.string a,.string b=>some (a.toList == b.toList)
   | .struct _,.agg xs,.agg ys=>match P.stoodInHeld t with
    | true=>none
    | false=>eqF tb (eqL P tb d) xs ys (P.fieldsOf t).toList
   | _,_,_=>none
section
variable {P:Program} {tb:Tab}
theorem partV_run(hT:tb.Ok P){T:TypeId}{tj:TI}(h:tb T=some tj){cs:Array Value}{off:Nat}{v:Value}(hp:partV tj cs off=some v)(w:World):(part T cs off).run P w=.ok v w:=by
 have:partX tj cs off (fun u=>u=v):=by
  unfold partX
  unfold partV at hp
  cases hk:tj.kd.isAgg with
  | true=>rw[hk] at hp;exact Option.some.inj hp
  | false=>
   rw[hk] at hp
   dsimp only at hp ⊢
   rw[hp]
 obtain⟨u,hu,hr⟩:=run_part_of (hT _ _ h) this
 rw[<-hu];exact hr w
theorem eqF_run(hT:tb.Ok P){d:Nat}{E:TypeId->Value->Value->Option Bool}(hE:∀t x y b,E t x y=some b->∀w,(Op.equalIn d t x y).run P w=.ok b w){xs ys:Array Value}:∀(fs:List Field)(b:Bool),eqF tb E xs ys fs=some b->∀w,(Op.eqFields d xs ys fs).run P w=.ok b w
 | [],b,h,w=>by simp only[eqF,Option.some.injEq] at h;subst h;simp[Op.eqFields]
 | f::fs,b,h,w=>by
  simp only[eqF] at h
  split at h
  ·cases h
  ·rename_i hn
   have hn':f.name≠ "_" :=by simpa using hn
   split at h
   ·cases h
   ·rename_i tj htj
    split at h
    ·rename_i x y hx hy
     split at h
     ·rename_i a b' ha hb
      simp only[Option.some.injEq] at h
      subst h
      have ih:=eqF_run hT hE fs b' hb
      simp only[Op.eqFields,if_pos hn',Sem.run_bind,partV_run hT htj hx,partV_run hT htj hy,Result.andThen_ok,hE _ _ _ _ ha]
      cases a
      ·simp
      ·simpa using ih w
     ·cases h
    ·cases h
theorem eqL_run(hT:tb.Ok P):∀(d:Nat)(t:TypeId)(x y:Value)(b:Bool),eqL P tb d t x y=some b->∀d',d<=d'->∀w,(Op.equalIn d' t x y).run P w=.ok b w
 | 0,_,_,_,_,h,_,_,_=>by cases h
 | d+1,t,x,y,b,h,d',hd,w=>by
  obtain⟨d',rfl⟩:∃e,d'=e+1:=⟨d'-1,by omega⟩
  simp only[eqL] at h
  split at h
  ·cases h
  ·rename_i ti hti
   obtain⟨u,hu,hk⟩:=(hT _ _ hti).desc
   split at h
   ·rename_i k' k a j b' hkd
    rw[hkd] at hk
    have:=kd_int hk;subst this
    split at h
    ·rename_i he
     have:=eqK_eq he;subst this
     simp only[Option.some.injEq] at h;subst h
     exact run_equalIn_int w d' t _ _ a b' hu
    ·cases h
   ·rename_i a b' hkd
    rw[hkd] at hk
    have:=kd_bool hk;subst this
    simp only[Option.some.injEq] at h;subst h
    exact run_equalIn_bool' w d' t a b' hu
   ·rename_i a b' hkd
    rw[hkd] at hk
    have:=kd_string hk;subst this
    simp only[Option.some.injEq] at h;subst h
    exact run_equalIn_string w d' t a b' hu
   ·rename_i fs xs ys hkd
    rw[hkd] at hk
    obtain⟨fs',rfl,_⟩:=kd_struct hk
    split at h
    ·cases h
    ·rename_i hs
     have hf:P.fieldsOf t=fs':=by simp[Program.fieldsOf,hu]
     rw[run_equalIn_struct w d' t xs ys (by rw[hf];exact hu) hs]
     exact eqF_run hT (fun t x y b hb w=>eqL_run hT d t x y b hb d' (by omega) w) _ _ h w
   ·cases h
theorem eqAt_struct(hT:tb.Ok P){d:Nat}(hd:d<=10000){t:TypeId}{xs ys:Array Value}{b:Bool}(h:eqL P tb d t (.agg xs) (.agg ys)=some b)(hg:P.eqGuardType P.depth t=false):EqAt P t (.agg xs) (.agg ys) b:=by
 intro xo yo w
 have h1:=eqL_run hT d t _ _ b h 10000 hd w
 constructor
 ·simp only[Sem.run_bind,run_eqGuard_agg w _ t xo yo xs ys hg,Result.andThen_ok,run_eql_struct,h1]
 ·simp only[Sem.run_bind,run_eqGuard_agg w _ t xo yo xs ys hg,Result.andThen_ok,run_neq_struct,h1]
theorem eqItems_ints(hT:tb.Ok P){e:TypeId}{te:TI}(hte:tb e=some te){k:IntKind}(hk:te.kd=.int k)(hz:te.size=1)(d:Nat){k':IntKind}{xs ys:List Int}(hl:xs.length=ys.length)(w:World):
  ∀(n i:Nat),i+n=xs.length->(Op.eqItems (d+1) e 1 (xs.map (Value.int k')).toArray (ys.map (Value.int k')).toArray (List.range' i n)).run P w=.ok (xs.drop i == ys.drop i) w
 | 0,i,h=>by
  rw[List.drop_of_length_le (by omega),List.drop_of_length_le (by omega)];simp[Op.eqItems]
 | n+1,i,h=>by
  obtain⟨u,hu,hkd⟩:=(hT _ _ hte).desc
  rw[hk] at hkd
  have:=kd_int hkd;subst this
  have hi:i<xs.length:=by omega
  have hi':i<ys.length:=by omega
  have hp:∀(l:List Int)(h:i<l.length),partV te (l.map (Value.int k')).toArray (i*1)=some (.int k' l[i]):=fun l hl=>by
   unfold partV
   rw[hk]
   simp only[Kd.isAgg,Nat.mul_one]
   rw[nth_eq]
   simp[hl]
  have ih:=eqItems_ints hT hte hk hz d (k':=k') hl w n (i+1) (by omega)
  rw[List.range'_succ]
  simp only[Op.eqItems,Sem.run_bind,partV_run hT hte (hp xs hi),partV_run hT hte (hp ys hi'),Result.andThen_ok,run_equalIn_int w d e k' k xs[i] ys[i] hu]
  rw[List.drop_eq_getElem_cons hi,List.drop_eq_getElem_cons hi',List.cons_beq_cons]
  cases hb:xs[i] == ys[i]
  ·simp
  ·simpa using ih
theorem eqAt_ints(hT:tb.Ok P){t e:TypeId}{ti te:TI}{n:Nat}(hti:tb t=some ti)(hkt:ti.kd=.array n e)(hte:tb e=some te){k:IntKind}(hk:te.kd=.int k)(hz:te.size=1){k':IntKind}{xs ys:List Int}(hx:xs.length=n)(hy:ys.length=n)
  (hg:P.eqGuardType P.depth t=false):EqAt P t (.agg (xs.map (Value.int k')).toArray) (.agg (ys.map (Value.int k')).toArray) (xs == ys):=by
 intro xo yo w
 obtain⟨u,hu,hkd⟩:=(hT _ _ hti).desc
 rw[hkt] at hkd
 have:=kd_array hkd;subst this
 obtain⟨j,hj,hs,_⟩:=(hT _ _ hte).row
 have hc:P.cellsOf e=1:=by
  have h1:=run_sizeOf w hj
  have h2:=run_sizeOf_of (hT _ _ hte) w
  rw[h1,hz] at h2
  injection h2
 have h1:(Op.equalIn 10000 t (.agg (xs.map (Value.int k')).toArray) (.agg (ys.map (Value.int k')).toArray)).run P w=.ok (xs == ys) w:=by
  rw[show 10000=9998+1+1 from rfl,run_equalIn_array w (9998+1) _ _ hu hj,hc,List.range_eq_range']
  have:=eqItems_ints hT hte hk hz 9998 (k':=k') (hx.trans hy.symm) w n 0 (by omega)
  simpa using this
 constructor
 ·simp only[Sem.run_bind,run_eqGuard_agg w _ t xo yo _ _ hg,Result.andThen_ok,run_eql_struct,h1]
 ·simp only[Sem.run_bind,run_eqGuard_agg w _ t xo yo _ _ hg,Result.andThen_ok,run_neq_struct,h1]
end
def blk(s:Sl):List Nat:=match s.p with
 | some a=>[a.block]
 | none=>[]
abbrev slV(s:Sl):Value:=.slice s.p s.n s.c
def OwS(w:World)(s:Sl)(sz:Nat)(cs:List Value):Prop:=
 (s=⟨none,0,0⟩/\cs=[])\/∃b arr T,s.p=some ⟨b,0,none⟩/\w.heap[b]? =some (.cells arr T (0,0))/\arr.size=s.c*sz/\s.n<=s.c/\arr.toList.take (s.n*sz)=cs
abbrev One(cs:List Value):Prop:=∀x∈cs,x.oneCell'=true
theorem OwS.nil(w:World)(sz:Nat):OwS w ⟨none,0,0⟩ sz []:=.inl ⟨rfl,rfl⟩
theorem OwS.keep{w w':World}{s:Sl}{sz:Nat}{cs:List Value}(h:OwS w s sz cs)(hw:∀b∈blk s,w'.heap[b]? =w.heap[b]?):OwS w' s sz cs:=by
 rcases h with h|⟨b,arr,T,h1,h2,h3⟩
 ·exact .inl h
 ·exact .inr ⟨b,arr,T,h1,by rw[hw b (by simp[blk,h1])];exact h2,h3⟩
theorem OwS.lt{w:World}{s:Sl}{sz:Nat}{cs:List Value}(h:OwS w s sz cs):∀b∈blk s,b<w.heap.size:=by
 rcases h with ⟨rfl,_⟩|⟨b,arr,T,h1,h2,h3⟩
 ·intro b hb;simp[blk] at hb
 ·intro b' hb;simp[blk,h1] at hb;subst hb;exact heap_lt h2
theorem OwS.ch{w w':World}{s:Sl}{sz:Nat}{cs:List Value}{F:Nat->Prop}(h:OwS w s sz cs)(hc:Ch F w w')(hF:∀b∈blk s,¬F b):OwS w' s sz cs:=
 h.keep fun b hb=>hc.old b (h.lt b hb) (hF b hb)
theorem OwS.ext{w w':World}{s:Sl}{sz:Nat}{cs:List Value}(h:OwS w s sz cs)(hc:Ext w w'):OwS w' s sz cs:=h.ch hc fun _ _=>id
theorem OwS.len{w:World}{s:Sl}{sz:Nat}{cs:List Value}(h:OwS w s sz cs):cs.length=s.n*sz:=by
 rcases h with ⟨rfl,rfl⟩|⟨b,arr,T,_,_,h4,h5,rfl⟩
 ·simp
 ·have:s.n*sz<=s.c*sz:=Nat.mul_le_mul_right _ h5
  rw[List.length_take,Array.length_toList,h4];omega
theorem OwS.len1{w:World}{s:Sl}{cs:List Value}(h:OwS w s 1 cs):s.n=cs.length:=by rw[h.len,Nat.mul_one]
theorem OwS.cap{w:World}{s:Sl}{sz:Nat}{cs:List Value}(h:OwS w s sz cs):s.n<=s.c:=by
 rcases h with ⟨rfl,rfl⟩|⟨b,arr,T,_,_,_,h5,_⟩
 ·exact Nat.le_refl _
 ·exact h5
theorem OwS.ptr{w:World}{s:Sl}{sz:Nat}{cs:List Value}(h:OwS w s sz cs)(hn:0<s.n):∃b,s.p=some ⟨b,0,none⟩:=by
 rcases h with ⟨rfl,_⟩|⟨b,arr,T,h1,_⟩
 ·exact absurd hn (Nat.lt_irrefl _)
 ·exact⟨b,h1⟩
theorem slAddr_some(b o c l sz:Nat):slAddr (some ⟨b,o,none⟩) c l sz=some ⟨b,o+(if c=l then 0 else l*sz),none⟩:=by
 unfold slAddr
 split
 ·rfl
 ·simp[Addr.add]
theorem slAddr_none(c l sz:Nat):slAddr none c l sz=none:=by unfold slAddr;split<;>rfl
theorem slAddr_zero(p:Option Addr)(c sz:Nat):slAddr p c 0 sz=p:=by
 cases p with
 | none=>exact slAddr_none _ _ _
 | some a=>
  unfold slAddr
  split
  ·rfl
  ·simp[Addr.add]
theorem OwS.read{w:World}{s:Sl}{sz:Nat}{cs:List Value}(h:OwS w s sz cs)(i m:Nat)(him:i+m<=s.n):ReadC w (slAddr s.p s.c i sz) (m*sz) ((cs.drop (i*sz)).take (m*sz)):=by
 have hl:=h.len
 rcases h with ⟨rfl,rfl⟩|⟨b,arr,T,h1,h3,h4,h5,rfl⟩
 ·rw[slAddr_none]
  simp[ReadC]
 ·rw[h1,slAddr_some]
  have e:(i+m)*sz<=s.n*sz:=Nat.mul_le_mul_right _ him
  rw[Nat.add_mul] at e
  refine⟨by rw[List.length_take,List.length_drop,hl];omega,cellsAt_of h3 fun j v hv=>?_⟩
  rw[List.getElem?_take] at hv
  split at hv
  ·rename_i hj
   split
   ·rename_i hc
    have:s.n=i:=by omega
    subst this
    have:m=0:=by omega
    subst this
    simp at hj
   ·rw[List.getElem?_drop,List.getElem?_take] at hv
    split at hv
    ·rw[show 0+i*sz+j=i*sz+j by omega];simpa using hv
    ·cases hv
  ·cases hv
theorem OwS.readAll{w:World}{s:Sl}{sz:Nat}{cs:List Value}(h:OwS w s sz cs):ReadC w s.p (s.n*sz) cs:=by
 have hl:=h.len
 rcases h with ⟨rfl,rfl⟩|⟨b,arr,T,h1,h3,h4,h5,rfl⟩
 ·rfl
 ·rw[h1]
  refine⟨hl,cellsAt_of h3 fun i v hv=>?_⟩
  rw[Nat.zero_add]
  rw[List.getElem?_take] at hv
  split at hv
  ·simpa using hv
  ·cases hv
theorem OwS.elem{w:World}{s:Sl}{sz:Nat}{cs:List Value}(h:OwS w s sz cs){i:Nat}(hi:i<s.n){l:List Value}(hl:(cs.drop (i*sz)).take sz=l):
  ∃b,s.p=some ⟨b,0,none⟩/\CellsAt w b (i*sz) l:=by
 obtain⟨b,hp⟩:=h.ptr (by omega)
 refine⟨b,hp,?_⟩
 have:=h.read i 1 (by omega)
 rw[hp,slAddr_some,Nat.one_mul] at this
 have hc:=h.cap
 rw[if_neg (by omega),hl] at this
 have:=this.2
 rw[Nat.zero_add] at this
 exact this
theorem OwS.elem1{w:World}{s:Sl}{cs:List Value}(h:OwS w s 1 cs){i:Nat}{v:Value}(hv:cs[i]? =some v):∃b,s.p=some ⟨b,0,none⟩/\w.cell? ⟨b,i,none⟩=some v:=by
 have hi:i<s.n:=by rw[h.len1];exact(List.getElem?_eq_some_iff.1 hv).1
 obtain⟨b,hp,hc⟩:=h.elem hi (l:=[v]) (by
  rw[Nat.mul_one]
  obtain⟨hi',rfl⟩:=List.getElem?_eq_some_iff.1 hv
  rw[List.drop_eq_getElem_cons hi'];rfl)
 exact⟨b,hp,by simpa using hc 0 v rfl⟩
theorem CellsAt.fst{w:World}{b o:Nat}{u v:Value}(h:CellsAt w b o [u,v]):w.cell? ⟨b,o,none⟩=some u:=h 0 u rfl
theorem CellsAt.snd{w:World}{b o:Nat}{u v:Value}(h:CellsAt w b o [u,v]):w.cell? ⟨b,o+1,none⟩=some v:=h 1 v rfl
theorem OwS.cut{w:World}{s:Sl}{sz:Nat}{cs:List Value}(h:OwS w s sz cs){k:Nat}(hk:k<=s.n):OwS w ⟨s.p,k,s.c⟩ sz (cs.take (k*sz)):=by
 rcases h with ⟨rfl,rfl⟩|⟨b,arr,T,h1,h3,h4,h5,rfl⟩
 ·have:k=0:=Nat.le_zero.1 hk
  subst this
  exact .inl ⟨rfl,by simp⟩
 ·refine .inr ⟨b,arr,T,h1,h3,h4,Nat.le_trans hk h5,?_⟩
  dsimp only
  rw[List.take_take,Nat.min_eq_left (Nat.mul_le_mul_right _ hk)]
theorem OwS.wide{w:World}{s:Sl}{sz:Nat}{cs:List Value}(h:OwS w s sz cs){k:Nat}(hn:s.n<=k)(hk:k<=s.c):∃js:List Value,js.length=(k-s.n)*sz/\OwS w ⟨s.p,k,s.c⟩ sz (cs++js):=by
 rcases h with ⟨rfl,rfl⟩|⟨b,arr,T,h1,h3,h4,h5,rfl⟩
 ·have:k=0:=Nat.le_zero.1 hk
  subst this
  exact⟨[],by simp,.inl ⟨rfl,rfl⟩⟩
 ·have e1:s.n*sz<=k*sz:=Nat.mul_le_mul_right _ hn
  have e2:k*sz<=s.c*sz:=Nat.mul_le_mul_right _ hk
  refine⟨(arr.toList.take (k*sz)).drop (s.n*sz),?_,.inr ⟨b,arr,T,h1,h3,h4,hk,?_⟩⟩
  ·rw[List.length_drop,List.length_take,Array.length_toList,h4,Nat.sub_mul];omega
  ·dsimp only
   have:=List.take_append_drop (s.n*sz) (arr.toList.take (k*sz))
   rw[List.take_take,Nat.min_eq_left e1] at this
   exact this.symm
theorem setsA_list{old:Array Value}{o:Nat}{vs:List Value}(h:o+vs.length<=old.size):(setsA old o vs).toList=old.toList.take o++vs++old.toList.drop (o+vs.length):=by
 rw[setsA_eq old o vs h];rfl
theorem OwS.store{w:World}{s:Sl}{sz:Nat}{cs vs:List Value}{b o:Nat}{K:World->Prop}(h:OwS w s sz cs)(hp:s.p=some ⟨b,0,none⟩)(ho:o+vs.length<=s.n*sz)(h1:One vs)
  (hK:∀w',OwS w' s sz (cs.take o++vs++cs.drop (o+vs.length))->Ch (fun i=>i=b) w w'->K w'):StoreP w b o vs K:=by
 have hl:=h.len
 rcases h with ⟨rfl,rfl⟩|⟨b',arr,T,hp',h3,h4,h5,rfl⟩
 ·cases hp
 ·rw[hp'] at hp
  cases hp
  have e1:s.n*sz<=s.c*sz:=Nat.mul_le_mul_right _ h5
  cases vs with
  | nil=>
   refine hK w (.inr ⟨b,arr,T,hp',h3,h4,h5,?_⟩) (Ch.refl _ _)
   simp
  | cons v vs=>
   refine⟨arr,T,h3,by simp only[List.length_cons] at ho;omega,h1,fun w' hu=>hK w' (.inr ⟨b,_,T,hp',hu.new,?_,h5,?_⟩) hu.ch⟩
   ·rw[<-Array.length_toList,setsA_list (by rw[h4];omega)]
    simp only[List.length_append,List.length_take,List.length_drop,Array.length_toList,h4];omega
   ·rw[setsA_list (by rw[h4];omega)]
    have hA:arr.toList.length=s.c*sz:=by rw[Array.length_toList,h4]
    apply List.ext_getElem?
    intro j
    simp only[List.getElem?_take,List.getElem?_append,List.length_append,List.length_take,List.getElem?_drop,hA,List.length_cons] at*
    by_cases c1:j<s.n*sz
    ·simp only[c1,if_true]
     have:min (min o (s.n*sz)) (s.c*sz)=min o (s.c*sz):=by omega
     simp only[Nat.min_eq_left (show o<=s.c*sz by omega),Nat.min_eq_left (show o<=s.n*sz by omega),Nat.min_eq_left (show s.n*sz<=s.c*sz by omega)]
     repeat' split
     all_goals first|rfl|(exfalso;omega)
    ·simp only[c1,if_false]
     repeat' split
     all_goals first|rfl|(exfalso;omega)
theorem OwS.storeTail{w:World}{s:Sl}{sz:Nat}{cs vs:List Value}{b o:Nat}{K:World->Prop}(h:OwS w s sz cs)(hp:s.p=some ⟨b,0,none⟩)(hn:s.n*sz<=o)(ho:o+vs.length<=s.c*sz)(h1:One vs)
  (hK:∀w',OwS w' s sz cs->Ch (fun i=>i=b) w w'->K w'):StoreP w b o vs K:=by
 rcases h with ⟨rfl,rfl⟩|⟨b',arr,T,hp',h3,h4,h5,rfl⟩
 ·cases hp
 ·rw[hp'] at hp
  cases hp
  cases vs with
  | nil=>exact hK w (.inr ⟨b,arr,T,hp',h3,h4,h5,rfl⟩) (Ch.refl _ _)
  | cons v vs=>
   refine⟨arr,T,h3,by simp only[List.length_cons] at ho;omega,h1,fun w' hu=>hK w' (.inr ⟨b,_,T,hp',hu.new,?_,h5,?_⟩) hu.ch⟩
   ·rw[<-Array.length_toList,setsA_list (by rw[h4];omega)]
    simp only[List.length_append,List.length_take,List.length_drop,Array.length_toList,h4];omega
   ·rw[setsA_list (by rw[h4];omega),List.append_assoc,List.take_append_of_le_length (by rw[List.length_take,Array.length_toList,h4];omega),List.take_take,Nat.min_eq_left hn]
theorem OwS.append{w:World}{s:Sl}{T:TypeId}{sz cnt:Nat}{cs new:List Value}{te:TI}{K:Sl->World->Prop}(h:OwS w s sz cs)(hsz:te.size=sz)(hz:te.zero.cells.size=sz)
  (hn:new.length=cnt*sz)(h1:One new)(hr:Roomy (s.n+cnt) te.bytes)
  (hK:∀s' w',OwS w' s' sz (cs++new)->s'.n=s.n+cnt->Ch (fun i=>i∈blk s) w w'->(∀i∈blk s',i∈blk s\/w.heap.size<=i)->(s.n+cnt<=s.c->s'=⟨s.p,s.n+cnt,s.c⟩)->K s' w'):AppendP te T w s.p s.n s.c cnt new K:=by
 have hlen:=h.len
 have hread:=h.readAll
 refine⟨fun hc=>?_,fun hc=>⟨hr,cs,by rw[hsz];exact hread,fun k hk b w' ha=>?_⟩⟩
 ·rcases h with ⟨rfl,rfl⟩|⟨b,arr,T',hp,ho,hs,hle,rfl⟩
  ·have:cnt=0:=by simpa using hc
   subst this
   have:new=[]:=by simpa using hn
   subst this
   exact hK _ _ (.inl ⟨rfl,by simp⟩) rfl (Ch.refl _ _) (fun i hi=>.inl hi) fun _=>rfl
  ·rw[hp]
   dsimp only
   rw[hsz,Nat.zero_add]
   have hmul:(s.n+cnt)*sz<=s.c*sz:=Nat.mul_le_mul_right _ hc
   rw[Nat.add_mul] at hmul
   have hb:blk s=[b]:=by simp[blk,hp]
   cases new with
   | nil=>
    have e:cnt*sz=0:=by simpa using hn.symm
    refine hK ⟨some ⟨b,0,none⟩,s.n+cnt,s.c⟩ w (.inr ⟨b,arr,T',rfl,ho,hs,hc,?_⟩) rfl (Ch.refl _ _) (fun i hi=>.inl (by rw[hb];simpa [blk] using hi)) fun _=>by rw[hp]
    rw[Nat.add_mul,e];simp
   | cons v vs=>
    refine⟨arr,T',ho,by simp only[List.length_cons] at hn;omega,h1,fun w' hu=>?_⟩
    have e:=setsA_list (old:=arr) (o:=s.n*sz) (vs:=v::vs) (by rw[hn];omega)
    refine hK _ _ (.inr ⟨b,_,T',rfl,hu.new,?_,hc,?_⟩) rfl (hu.ch.mono fun i _ hi=>by rw[hb];simpa using hi) (fun i hi=>.inl (by rw[hb];simpa [blk] using hi)) fun _=>by rw[hp]
    ·rw[<-Array.length_toList,e];simp only[List.length_append,List.length_take,List.length_drop,Array.length_toList,hs,hn];omega
    ·rw[e]
     dsimp only
     rw[Nat.add_mul,<-hn]
     rw[List.take_append_of_le_length (by simp only[List.length_append,List.length_take,Array.length_toList,hs];omega),List.take_of_length_le]
     simp only[List.length_append,List.length_take,Array.length_toList,hs];omega
 ·have e:IsAlloc w (.cells (cs++new++zc te.zero.cells (k-(s.n+cnt))).toArray T (0,0)) b w':=⟨ha.here,ha.size,ha.new,ha.old,⟨ha.rest.os,ha.rest.tape,ha.rest.output⟩⟩
  refine hK _ _ (.inr ⟨b,_,T,rfl,e.new,?_,hk,?_⟩) rfl (e.ch _) (fun i hi=>.inr (Nat.le_of_eq (e.here.symm.trans (by simpa [blk] using hi:i=b).symm))) fun hc'=>absurd hc (Nat.not_lt.2 hc')
  ·simp only[List.size_toArray,List.length_append,zc_len,hlen,hn,hz]
   rw[<-Nat.add_mul,<-Nat.add_mul]
   congr 1
   omega
  ·dsimp only
   rw[List.take_append_of_le_length (by simp only[List.length_append,hlen,hn,Nat.add_mul];omega),List.take_of_length_le]
   simp only[List.length_append,hlen,hn,Nat.add_mul];omega
theorem OwS.appendNew{w:World}{s:Sl}{T:TypeId}{sz cnt:Nat}{cs new:List Value}{te:TI}{K:Sl->World->Prop}(h:OwS w s sz cs)(hc:s.c<s.n+cnt)(hsz:te.size=sz)(hz:te.zero.cells.size=sz)
  (hn:new.length=cnt*sz)(hr:Roomy (s.n+cnt) te.bytes)
  (hK:∀s' w',OwS w' s' sz (cs++new)->s'.n=s.n+cnt->Ext w w'->(∀i∈blk s',w.heap.size<=i)->s'.p≠none->K s' w'):AppendP te T w s.p s.n s.c cnt new K:=by
 have hlen:=h.len
 have hread:=h.readAll
 refine⟨fun hc'=>absurd hc (Nat.not_lt.2 hc'),fun _=>⟨hr,cs,by rw[hsz];exact hread,fun k hk b w' ha=>?_⟩⟩
 have e:IsAlloc w (.cells (cs++new++zc te.zero.cells (k-(s.n+cnt))).toArray T (0,0)) b w':=⟨ha.here,ha.size,ha.new,ha.old,⟨ha.rest.os,ha.rest.tape,ha.rest.output⟩⟩
 refine hK _ _ (.inr ⟨b,_,T,rfl,e.new,?_,hk,?_⟩) rfl (e.ch _) (fun i hi=>Nat.le_of_eq (e.here.symm.trans (by simpa [blk] using hi:i=b).symm)) (by simp)
 ·simp only[List.size_toArray,List.length_append,zc_len,hlen,hn,hz]
  rw[<-Nat.add_mul,<-Nat.add_mul]
  congr 1
  omega
 ·dsimp only
  rw[List.take_append_of_le_length (by simp only[List.length_append,hlen,hn,Nat.add_mul];omega),List.take_of_length_le]
  simp only[List.length_append,hlen,hn,Nat.add_mul];omega
theorem OwS.new{w w':World}{cs:List Value}{T:TypeId}{b:Nat}(h:IsAlloc w (.cells cs.toArray T (0,0)) b w'){n sz:Nat}(hn:cs.length=n*sz):OwS w' ⟨some ⟨b,0,none⟩,n,n⟩ sz cs:=
 .inr ⟨b,_,T,rfl,h.new,by simpa using hn,Nat.le_refl _,by dsimp only;rw[<-hn];simp⟩
set_option linter.unusedVariables false
theorem cell_ch{F:Nat->Prop}{w w':World}{a:Addr}{v:Value}(h:w.cell? a=some v)(hc:Ch F w w')(hF:¬F a.block):w'.cell? a=some v:=by
 have hb:a.block<w.heap.size:=by
  unfold World.cell? at h
  split at h
  ·rename_i ho;exact heap_lt ho
  ·cases h
 unfold World.cell? at h ⊢
 rw[hc.old _ hb hF];exact h
theorem CellsAt.ch{F:Nat->Prop}{w w':World}{b o:Nat}{cs:List Value}(h:CellsAt w b o cs)(hc:Ch F w w')(hF:¬F b):CellsAt w' b o cs:=
 fun i v hv=>cell_ch (h i v hv) hc hF
theorem ReadC.ch{F:Nat->Prop}{w w':World}{p:Option Addr}{m:Nat}{cs:List Value}(h:ReadC w p m cs)(hc:Ch F w w')(hF:∀a,p=some a->¬F a.block):ReadC w' p m cs:=by
 unfold ReadC at h ⊢
 split at h
 ·exact⟨h.1,h.2.ch hc (hF _ rfl)⟩
 ·exact h
 ·exact h
def Rd(w:World)(s:Sl)(sz:Nat)(cs:List Value):Prop:=cs.length=s.n*sz/\ReadC w s.p (s.n*sz) cs
theorem OwS.rd{w:World}{s:Sl}{sz:Nat}{cs:List Value}(h:OwS w s sz cs):Rd w s sz cs:=⟨h.len,h.readAll⟩
theorem Rd.ch{F:Nat->Prop}{w w':World}{s:Sl}{sz:Nat}{cs:List Value}(h:Rd w s sz cs)(hc:Ch F w w')(hF:∀b∈blk s,¬F b):Rd w' s sz cs:=
 ⟨h.1,h.2.ch hc fun a ha=>hF _ (by simp[blk,ha])⟩
theorem Rd.ext{w w':World}{s:Sl}{sz:Nat}{cs:List Value}(h:Rd w s sz cs)(hc:Ext w w'):Rd w' s sz cs:=h.ch hc fun _ _=>id
theorem Rd.elem{w:World}{s:Sl}{sz:Nat}{cs:List Value}(h:Rd w s sz cs){i:Nat}(hi:i<s.n)(hz:0<sz){l:List Value}(hl:(cs.drop (i*sz)).take sz=l):
  ∃b o,s.p=some ⟨b,o,none⟩/\CellsAt w b (o+i*sz) l:=by
 obtain⟨hn,hr⟩:=h
 have e:(i+1)*sz<=s.n*sz:=Nat.mul_le_mul_right _ hi
 rw[Nat.add_mul,Nat.one_mul] at e
 unfold ReadC at hr
 split at hr
 ·rename_i b o hp
  refine⟨b,o,hp,fun j v hv=>?_⟩
  rw[<-hl,List.getElem?_take] at hv
  split at hv
  ·rw[List.getElem?_drop] at hv
   have:=hr.2 _ _ hv
   rw[show o+i*sz+j=o+(i*sz+j) by omega];exact this
  ·cases hv
 ·have:=hr.1;omega
 ·subst hr
  simp at hn
  omega
theorem Rd.elem1{w:World}{s:Sl}{cs:List Value}(h:Rd w s 1 cs){i:Nat}{v:Value}(hv:cs[i]? =some v):∃b o,s.p=some ⟨b,o,none⟩/\w.cell? ⟨b,o+i,none⟩=some v:=by
 have hi:i<s.n:=by have:=h.1;rw[Nat.mul_one] at this;rw[<-this];exact(List.getElem?_eq_some_iff.1 hv).1
 obtain⟨b,o,hp,hc⟩:=h.elem hi (by omega) (l:=[v]) (by
  rw[Nat.mul_one]
  obtain⟨hi',rfl⟩:=List.getElem?_eq_some_iff.1 hv
  rw[List.drop_eq_getElem_cons hi'];rfl)
 exact⟨b,o,hp,by simpa using hc 0 v rfl⟩
def CloneF(te:TI)(e sz:Nat)(t0:Sl)(w:World)(R:RV):Prop:=
 IfB t0.1.isNone (R (Value.slice none (0:Nat) (0:Nat)) w)
 ((0:Nat)*sz<=(16777216:Nat)/\
 AllocP w (Obj.cells #[] e) fun(b1:Nat) (w2:World)=>
 ∃(l3:List Value),
 ReadC w2 t0.1 (t0.2*sz) l3/\
 AppendP te e w2 (some ({ block:=b1,off:=(0:Nat) }:Addr)) (0:Nat) (0:Nat) t0.2 l3 fun(s4:Sl) (w5:World)=>R (Value.slice s4.1 s4.2 s4.3) w5)
theorem CloneF_of{te:TI}{e sz:Nat}{t0:Sl}{w:World}{R:RV}{cs:List Value}(h:Rd w t0 sz cs)(hsz:te.size=sz)(hz:te.zero.cells.size=sz)(h1:One cs)(hr:Roomy t0.n te.bytes)
  (hK:∀s' w',OwS w' s' sz cs->s'.n=t0.n->Ext w w'->(∀i∈blk s',w.heap.size<=i)->R (slV s') w')(hnil:t0.p=none->t0.n=0):CloneF te e sz t0 w R:=by
 refine IfB.intro (fun hp=>?_) (fun hp=>⟨by simp,fun b1 w2 h2=>⟨cs,h.2.ch (h2.ch (fun _=>False)) (fun _ _=>id),?_⟩⟩)
 ·have hp':t0.p=none:=by cases hq:t0.p with|none=>rfl|some _=>rw[show t0.1=t0.p from rfl,hq] at hp;cases hp
  have hn:=hnil hp'
  have:cs=[]:=by have:=h.1;rw[hn] at this;simpa using this
  subst this
  exact hK ⟨none,0,0⟩ w (.nil _ _) hn.symm (Ch.refl _ _) (by simp[blk])
 ·have ho:OwS w2 ⟨some ⟨b1,0,none⟩,0,0⟩ sz []:=.inr ⟨b1,_,e,rfl,h2.new,by simp,Nat.le_refl _,by simp⟩
  refine ho.append (cnt:=t0.n) hsz hz h.1 h1 (by simpa using hr) fun s' w' ho' hn' hc hb _=>?_
  have hb1:∀i∈blk (⟨some ⟨b1,0,none⟩,0,0⟩:Sl),w.heap.size<=i:=by intro i hi;simp[blk] at hi;rw[hi,h2.here];exact Nat.le_refl _
  refine hK s' w' (by simpa using ho') (by simpa using hn') ((h2.ch _).then hc fun i hi hm=>absurd (hb1 i hm) (by omega)) fun i hi=>?_
  rcases hb i hi with h|h
  ·exact hb1 i h
  ·have:=h2.size;omega
def DelF(te:TI)(e sz:Nat)(t0:Sl)(t1 t2:Int)(w:World)(R:RV):Prop:=
 ((0:Int)<=t1/\t1<=t2/\t2<=(t0.2:Int)/\(t0.2:Int)<=(t0.3:Int))/\
 IfB (t1 == t2) (R (Value.slice t0.1 t0.2 t0.3) w)
 (((0:Int)<=t1/\t1<=(t0.3:Int))/\
 ((0:Int)<=t2/\t2<=(t0.2:Int))/\
 ∃(l1:List Value),
 ReadC w.drew (slAddr t0.1 t0.3 t2.toNat sz) ((t0.2-t2.toNat)*sz) l1/\
 AppendP te e w.drew (slAddr t0.1 t0.3 (0:Nat) sz) t1.toNat t0.3 (t0.2-t2.toNat) l1 fun(s2:Sl) (w3:World)=>
 ((0:Int)<=(s2.2:Int)/\(s2.2:Int)<=(t0.2:Int)/\(t0.2:Int)<=(s2.3:Int))/\
 match slAddr s2.1 s2.3 ((s2.2:Int)).toNat sz with
 | none=>R (Value.slice s2.1 s2.2 s2.3) w3
 | some ({ block:=b5,off:=b6,spot:=none }:Addr)=>
 StoreP w3 b5 b6 (zc te.zero.cells (((t0.2:Int)).toNat-((s2.2:Int)).toNat)) fun(w7:World)=>
 R (Value.slice s2.1 s2.2 s2.3) w7
 | some y8=>False)
theorem One.drop{cs:List Value}(h:One cs)(k:Nat):One (cs.drop k):=fun x hx=>h x (List.mem_of_mem_drop hx)
theorem zc_one{z:Array Value}(h:One z.toList)(n:Nat):One (zc z n):=by
 intro x hx
 unfold zc Builtin.zeroCells at hx
 rw[Array.mem_toList_iff,Array.mem_map] at hx
 obtain⟨i,hi,rfl⟩:=hx
 have hi':=Array.mem_range.1 hi
 have h0:0<z.size:=by
  rcases Nat.eq_zero_or_pos z.size with h0|h0
  ·rw[h0] at hi';simp at hi'
  ·exact h0
 have hlt:=Nat.mod_lt i h0
 apply h
 rw[show z[i%z.size]! =z[i%z.size] from getElem!_pos z (i%z.size) hlt]
 exact Array.mem_toList_iff.2 (Array.getElem_mem _)
theorem DelF_of{te:TI}{e sz:Nat}{t0:Sl}{i j:Nat}{w:World}{R:RV}{cs:List Value}(h:OwS w t0 sz cs)(hsz:te.size=sz)(hz:te.zero.cells.size=sz)(h1:One cs)(hz1:One te.zero.cells.toList)
  (hij:i<j)(hj:j<=t0.n)(hr:Roomy t0.n te.bytes)
  (hK:∀s' w',OwS w' s' sz (cs.take (i*sz)++cs.drop (j*sz))->s'.n=t0.n-(j-i)->Ch (fun i=>i∈blk t0) w w'->s'.p=t0.p->R (slV s') w'):DelF te e sz t0 i j w R:=by
 have hcap:=h.cap
 have hlen:=h.len
 obtain⟨b,hp⟩:=h.ptr (by omega)
 have hbk:blk t0=[b]:=by simp[blk,hp]
 have hd:Ch (fun i=>i∈blk t0) w w.drew:=⟨drew_rest w,Nat.le_refl _,fun _ _ _=>rfl⟩
 have hjn:j*sz<=t0.n*sz:=Nat.mul_le_mul_right _ hj
 have hin:i*sz<=t0.n*sz:=Nat.mul_le_mul_right _ (by omega)
 refine⟨⟨by omega,by omega,by omega,by omega⟩,IfB.no (by simp;omega) ⟨⟨by omega,by omega⟩,⟨by omega,by omega⟩,cs.drop (j*sz),?_,?_⟩⟩
 ·have:=h.read j (t0.n-j) (by omega)
  rw[Nat.sub_mul,List.take_of_length_le (by rw[List.length_drop,hlen];exact Nat.le_refl _)] at this
  rw[Int.toNat_natCast,show (t0.2-j)*sz=t0.n*sz-j*sz from Nat.sub_mul ..]
  exact this
 ·rw[Int.toNat_natCast,Int.toNat_natCast,slAddr_zero]
  have hcut:OwS w.drew ⟨t0.p,i,t0.c⟩ sz (cs.take (i*sz)):=(h.cut (by omega)).keep fun _ _=>rfl
  refine hcut.append (cnt:=t0.n-j) hsz hz (by rw[List.length_drop,hlen,Nat.sub_mul]) (h1.drop _) ⟨by have:=hr.1;dsimp only;omega,Nat.le_trans (Nat.mul_le_mul_right _ (by dsimp only;omega)) hr.2⟩ ?_
  intro s' w' ho hn hc hb hin'
  obtain rfl:=hin' (by dsimp only;omega)
  dsimp only at hn ho hc hb ⊢
  refine⟨⟨by omega,by omega,by omega⟩,?_⟩
  rw[Int.toNat_natCast,Int.toNat_natCast]
  have hc':Ch (fun i=>i∈blk t0) w w':=hd.trans (hc.mono fun _ _ hi=>by simpa [blk] using hi)
  rw[hp,slAddr_some]
  dsimp only
  have e0:(i+(t0.n-j))*sz<=t0.c*sz:=Nat.mul_le_mul_right _ (by omega)
  rw[if_neg (by omega),Nat.zero_add]
  have e1:(i+(t0.n-j))*sz+(t0.n-(i+(t0.n-j)))*sz<=t0.c*sz:=by
   rw[<-Nat.add_mul];exact Nat.mul_le_mul_right _ (by omega)
  refine ho.storeTail hp (Nat.le_refl _) (by rw[zc_len,hz];exact e1) (zc_one hz1 _) fun w'' ho'' hc''=>?_
  have:=hK ⟨t0.p,i+(t0.n-j),t0.c⟩ w'' ho'' (by dsimp only;omega) (hc'.trans (hc''.mono fun k _ hk=>by rw[hbk,hk];simp)) rfl
  rw[hp] at this
  exact this
def GrowF(te:TI)(e sz:Nat)(t0:Sl)(t1:Int)(w:World)(R:RV):Prop:=
 IfB (decide (t1<(0:Int))) False
 (IfB (decide ((0:Int)<IntKind.i64.wrap (t1-IntKind.i64.wrap ((t0.c:Int)-(t0.n:Int)))))
 (((0:Int)<=(t0.3:Int)/\(t0.3:Int)<=(t0.3:Int))/\
 ((0:Int)<=IntKind.i64.wrap (t1-IntKind.i64.wrap ((t0.3:Int)-(t0.2:Int)))/\
 IntKind.i64.wrap (t1-IntKind.i64.wrap ((t0.3:Int)-(t0.2:Int)))<=(281474976710656:Int)/\IntKind.i64.wrap (t1-IntKind.i64.wrap ((t0.3:Int)-(t0.2:Int)))*(te.bytes:Int)<=(281474976710656:Int))/\
 AppendP te e w (slAddr t0.1 t0.3 (0:Nat) sz) ((t0.3:Int)).toNat t0.3 (IntKind.i64.wrap (t1-IntKind.i64.wrap ((t0.3:Int)-(t0.2:Int)))).toNat
 (zc te.zero.cells (IntKind.i64.wrap (t1-IntKind.i64.wrap ((t0.3:Int)-(t0.2:Int)))).toNat) fun(s1:Sl) (w2:World)=>
 ((0:Int)<=(t0.2:Int)/\(t0.2:Int)<=(s1.3:Int))/\R (Value.slice (slAddr s1.1 s1.3 (0:Nat) sz) ((t0.2:Int)).toNat s1.3) w2)
 (R (Value.slice t0.1 t0.2 t0.3) w))
theorem wrap_of{n:Int}(h0: -9223372036854775808<=n)(h1:n<=9223372036854775807):IntKind.i64.wrap n=n:=by rw[IntKind.wrap_i64];omega
theorem GrowF_nil{te:TI}{e sz k:Nat}{w:World}{R:RV}(hsz:te.size=sz)(hz:te.zero.cells.size=sz)(hz1:One te.zero.cells.toList)(hr:Roomy k te.bytes)(hb:te.bytes<=100000)(hk:k<=1000000)
  (hK:∀s' w',OwS w' s' sz []->s'.n=0->Ext w w'->(∀i∈blk s',w.heap.size<=i)->R (slV s') w'):GrowF te e sz ⟨none,0,0⟩ k w R:=by
 have e0:IntKind.i64.wrap ((k:Int)-IntKind.i64.wrap (((0:Nat):Int)-((0:Nat):Int)))=k:=by
  rw[wrap_of (n:=((0:Nat):Int)-((0:Nat):Int)) (by omega) (by omega),wrap_of (by omega) (by omega)];omega
 refine IfB.no (by simp) (IfB.dec (fun hd=>?_) (fun hd=>?_))
 ·dsimp only at hd ⊢
  rw[e0] at hd
  rw[e0,slAddr_none]
  simp only[Int.toNat_natCast]
  have hkb:k*te.bytes<=1000000*100000:=Nat.mul_le_mul hk hb
  refine⟨⟨by omega,by omega⟩,⟨by omega,by omega,by rw[<-Int.natCast_mul];omega⟩,?_⟩
  refine(OwS.nil w sz).append (cnt:=k) hsz hz (by rw[zc_len,hz]) (zc_one hz1 _) (by show Roomy (0+k) _;rw[Nat.zero_add];exact hr) fun s' w' ho hn hc hb' _=>?_
  refine⟨⟨by omega,by omega⟩,?_⟩
  have hb2:∀i∈blk s',w.heap.size<=i:=fun i hi=>(hb' i hi).elim (fun h=>by simp[blk] at h) id
  have hc2:Ext w w':=hc.mono fun i _ hi=>by simp[blk] at hi
  have:=hK ⟨s'.p,0,s'.c⟩ w' (by simpa using ho.cut (Nat.zero_le _)) rfl hc2 hb2
  rw[slAddr_zero]
  exact this
 ·exact hK ⟨none,0,0⟩ w (.nil _ _) rfl (Ch.refl _ _) (by simp[blk])
def InsF(P:Program)(te:TI)(e sz ov rot:Nat)(t0:Sl)(t1:Int)(t2:Sl)(w:World)(R:RV):Prop:=
 ((0:Int)<=t1/\t1<=(t0.2:Int))/\
 IfB ((t2.2:Int) == (0:Int)) (R (Value.slice t0.1 t0.2 t0.3) w)
 (IfB (t1 == (t0.2:Int))
 (∃(l1:List Value),
 ReadC w t2.1 (t2.2*sz) l1/\
 AppendP te e w t0.1 t0.2 t0.3 t2.2 l1 fun(s2:Sl) (w3:World)=>R (Value.slice s2.1 s2.2 s2.3) w3)
 (IfB (decide ((t0.c:Int)<IntKind.i64.wrap ((t0.n:Int)+(t2.n:Int))))
 (((0:Int)<=t1/\t1<=(t0.3:Int))/\
 ((0:Int)<=IntKind.i64.wrap (IntKind.i64.wrap ((t0.2:Int)+(t2.2:Int))-t1)/\
 IntKind.i64.wrap (IntKind.i64.wrap ((t0.2:Int)+(t2.2:Int))-t1)<=(281474976710656:Int)/\IntKind.i64.wrap (IntKind.i64.wrap ((t0.2:Int)+(t2.2:Int))-t1)*(te.bytes:Int)<=(281474976710656:Int))/\
 AppendP te e w (slAddr t0.1 t0.3 (0:Nat) sz) t1.toNat t0.3 (IntKind.i64.wrap (IntKind.i64.wrap ((t0.2:Int)+(t2.2:Int))-t1)).toNat
 (zc te.zero.cells (IntKind.i64.wrap (IntKind.i64.wrap ((t0.2:Int)+(t2.2:Int))-t1)).toNat) fun(s4:Sl) (w5:World)=>
 ((0:Int)<=t1/\t1<=(s4.2:Int))/\
 CopyP w5 sz (slAddr s4.1 s4.3 t1.toNat sz) (s4.2-t1.toNat) t2.1 t2.2 fun(n6:Int) (w7:World)=>
 ((0:Int)<=IntKind.i64.wrap (t1+(t2.2:Int))/\IntKind.i64.wrap (t1+(t2.2:Int))<=(s4.2:Int))/\
 ((0:Int)<=t1/\t1<=(t0.2:Int))/\
 CopyP w7.drew sz (slAddr s4.1 s4.3 (IntKind.i64.wrap (t1+(t2.2:Int))).toNat sz) (s4.2-(IntKind.i64.wrap (t1+(t2.2:Int))).toNat) (slAddr t0.1 t0.3 t1.toNat sz)
 (t0.2-t1.toNat) fun(n8:Int) (w9:World)=>R (Value.slice s4.1 s4.2 s4.3) w9)
 (((0:Int)<=IntKind.i64.wrap ((t0.2:Int)+(t2.2:Int))/\IntKind.i64.wrap ((t0.2:Int)+(t2.2:Int))<=(t0.3:Int))/\
 ((0:Int)<=IntKind.i64.wrap (t1+(t2.2:Int))/\IntKind.i64.wrap (t1+(t2.2:Int))<=((IntKind.i64.wrap ((t0.2:Int)+(t2.2:Int))).toNat:Int))/\
 CX P ov
 #[Value.slice t2.1 t2.2 t2.3,
 Value.slice (slAddr (slAddr t0.1 t0.3 (0:Nat) sz) t0.3 (IntKind.i64.wrap (t1+(t2.2:Int))).toNat sz)
 ((IntKind.i64.wrap ((t0.2:Int)+(t2.2:Int))).toNat-(IntKind.i64.wrap (t1+(t2.2:Int))).toNat) (t0.3-(IntKind.i64.wrap (t1+(t2.2:Int))).toNat)]
 w fun(v10:Value) (w11:World)=>
 ∃(t12:Bool),
 v10=Value.bool t12/\
 IfB (!t12)
 (((0:Int)<=IntKind.i64.wrap (t1+(t2.2:Int))/\IntKind.i64.wrap (t1+(t2.2:Int))<=((IntKind.i64.wrap ((t0.2:Int)+(t2.2:Int))).toNat:Int))/\
 ((0:Int)<=t1/\t1<=((IntKind.i64.wrap ((t0.2:Int)+(t2.2:Int))).toNat:Int))/\
 CopyP w11.drew sz (slAddr (slAddr t0.1 t0.3 (0:Nat) sz) t0.3 (IntKind.i64.wrap (t1+(t2.2:Int))).toNat sz)
 ((IntKind.i64.wrap ((t0.2:Int)+(t2.2:Int))).toNat-(IntKind.i64.wrap (t1+(t2.2:Int))).toNat) (slAddr (slAddr t0.1 t0.3 (0:Nat) sz) t0.3 t1.toNat sz)
 ((IntKind.i64.wrap ((t0.2:Int)+(t2.2:Int))).toNat-t1.toNat) fun(n13:Int) (w14:World)=>
 ((0:Int)<=t1/\t1<=((IntKind.i64.wrap ((t0.2:Int)+(t2.2:Int))).toNat:Int))/\
 CopyP w14 sz (slAddr (slAddr t0.1 t0.3 (0:Nat) sz) t0.3 t1.toNat sz) ((IntKind.i64.wrap ((t0.2:Int)+(t2.2:Int))).toNat-t1.toNat) t2.1 t2.2
 fun(n15:Int) (w16:World)=>R (Value.slice (slAddr t0.1 t0.3 (0:Nat) sz) (IntKind.i64.wrap ((t0.2:Int)+(t2.2:Int))).toNat t0.3) w16)
 (((0:Int)<=(t0.2:Int)/\(t0.2:Int)<=((IntKind.i64.wrap ((t0.2:Int)+(t2.2:Int))).toNat:Int))/\
 CopyP w11 sz (slAddr (slAddr t0.1 t0.3 (0:Nat) sz) t0.3 ((t0.2:Int)).toNat sz) ((IntKind.i64.wrap ((t0.2:Int)+(t2.2:Int))).toNat-((t0.2:Int)).toNat) t2.1 t2.2
 fun(n17:Int) (w18:World)=>
 ((0:Int)<=t1/\t1<=((IntKind.i64.wrap ((t0.2:Int)+(t2.2:Int))).toNat:Int))/\
 CX P rot
 #[Value.slice (slAddr (slAddr t0.1 t0.3 (0:Nat) sz) t0.3 t1.toNat sz) ((IntKind.i64.wrap ((t0.2:Int)+(t2.2:Int))).toNat-t1.toNat) (t0.3-t1.toNat),
 Value.int IntKind.i64 (t2.2:Int)]
 w18 fun(v19:Value) (w20:World)=>
 ∃(y21:Unit),v19=Value.tuple #[]/\R (Value.slice (slAddr t0.1 t0.3 (0:Nat) sz) (IntKind.i64.wrap ((t0.2:Int)+(t2.2:Int))).toNat t0.3) w20))))
theorem copy_own{w:World}{s:Sl}{q:Option Addr}{sz i k m r:Nat}{cs new:List Value}{K:Int->World->Prop}(h:OwS w s sz cs)(hmin:Nat.min m k=r)(hr:ReadC w q (r*sz) new)(hl:new.length=r*sz)(him:i+r<=s.n)(h1:One new)
  (hd:s.p≠none)
  (hK:∀w',OwS w' s sz (cs.take (i*sz)++new++cs.drop ((i+r)*sz))->Ch (fun i=>i∈blk s) w w'->K r w'):CopyP w sz (slAddr s.p s.c i sz) k q m K:=by
 refine⟨new,by rw[hmin];exact hr,?_⟩
 rcases h with ⟨rfl,rfl⟩|⟨b,arr,T,hp,h3,h4,h5,rfl⟩
 ·exact absurd rfl hd
 ·have ho:OwS w s sz (arr.toList.take (s.n*sz)):=.inr ⟨b,arr,T,hp,h3,h4,h5,rfl⟩
  have e:(i+r)*sz<=s.n*sz:=Nat.mul_le_mul_right _ him
  rw[hp,slAddr_some,hmin]
  dsimp only
  have hbk:blk s=[b]:=by simp[blk,hp]
  by_cases hc:s.c=i
  ·have:r=0:=by omega
   subst this
   have:new=[]:=by simpa using hl
   subst this
   refine hK w ?_ (Ch.refl _ _)
   simp only[Nat.add_zero,List.append_nil,List.take_append_drop]
   exact ho
  ·rw[if_neg hc,Nat.zero_add]
   have e2:i*sz+r*sz<=s.n*sz:=by rw[<-Nat.add_mul];exact e
   refine ho.store hp (by rw[hl];exact e2) h1 fun w' ho' hc'=>hK w' ?_ (hc'.mono fun j _ hj=>by rw[hbk,hj];simp)
   rw[Nat.add_mul,<-hl];exact ho'
theorem slAddr_own{w:World}{s:Sl}{sz:Nat}{cs:List Value}(h:OwS w s sz cs)(c:Nat):slAddr s.p c 0 sz=s.p:=by
 exact slAddr_zero _ _ _
theorem ins_lists{cs js new:List Value}{i m n sz:Nat}(hin:i<=n)(hl:cs.length=n*sz)(hj:js.length=m*sz)(hn:new.length=m*sz):
  let c1:=(cs++js).take ((i+m)*sz)++cs.drop (i*sz)++(cs++js).drop ((i+m+(n-i))*sz)
  c1.take (i*sz)++new++c1.drop ((i+m)*sz)=cs.take (i*sz)++new++cs.drop (i*sz):=by
 intro c1
 have e1:i*sz<=n*sz:=Nat.mul_le_mul_right _ hin
 have e2:(i+m)*sz=i*sz+m*sz:=Nat.add_mul ..
 have e3:(i+m+(n-i))*sz=n*sz+m*sz:=by rw[<-Nat.add_mul];congr 1;omega
 have hc1:c1=(cs++js).take ((i+m)*sz)++cs.drop (i*sz):=by
  have hd:(cs++js).drop ((i+m+(n-i))*sz)=[]:=List.drop_of_length_le (by rw[e3,List.length_append,hl,hj];exact Nat.le_refl _)
  show _++_++_=_
  rw[hd,List.append_nil]
 have hX:((cs++js).take ((i+m)*sz)).length=(i+m)*sz:=by
  rw[List.length_take,List.length_append,hl,hj];omega
 have h1:c1.take (i*sz)=cs.take (i*sz):=by
  rw[hc1,List.take_append_of_le_length (by rw[hX];omega),List.take_take,Nat.min_eq_left (by omega),List.take_append_of_le_length (by omega)]
 have h2:c1.drop ((i+m)*sz)=cs.drop (i*sz):=by
  rw[hc1,List.drop_append_of_le_length (by rw[hX];exact Nat.le_refl _),List.drop_of_length_le (by rw[hX];exact Nat.le_refl _),List.nil_append]
 rw[h1,h2]
theorem InsF_of{P:Program}{te:TI}{e sz ov rot:Nat}{t0 t2:Sl}{i:Nat}{w:World}{R:RV}{cs new:List Value}(h:OwS w t0 sz cs)(h2:Rd w t2 sz new)(hsz:te.size=sz)(hz:te.zero.cells.size=sz)
  (h1:One cs)(hn1:One new)(hz1:One te.zero.cells.toList)(hi:i<=t0.n)(hm:0<t2.n)(hr:Roomy (t0.n+t2.n) te.bytes)(hb:te.bytes<=100000)(hk:t0.n+t2.n<=1000000)(hdis:∀b∈blk t2,b∉blk t0)
  (hov:∀(q:Sl)(R':RV),0<t0.c->(∃b o,q.p=some ⟨b,o,none⟩/\b∈blk t0)->R' (.bool false) w->CX P ov #[slV t2,slV q] w R')
  (hK:∀s' w',OwS w' s' sz (cs.take (i*sz)++new++cs.drop (i*sz))->s'.n=t0.n+t2.n->Ch (fun i=>i∈blk t0) w w'->(∀i∈blk s',i∈blk t0\/w.heap.size<=i)->R (slV s') w'):InsF P te e sz ov rot t0 i t2 w R:=by
 have hlen:=h.len
 have hcn:=h.cap
 have e0:IntKind.i64.wrap ((t0.n:Int)+(t2.n:Int))=((t0.n+t2.n:Nat):Int):=by rw[wrap_of (by omega) (by omega)];omega
 have e1:IntKind.i64.wrap ((i:Int)+(t2.n:Int))=((i+t2.n:Nat):Int):=by rw[wrap_of (by omega) (by omega)];omega
 have e2:IntKind.i64.wrap (((t0.n+t2.n:Nat):Int)-(i:Int))=((t0.n+t2.n-i:Nat):Int):=by rw[wrap_of (by omega) (by omega)];omega
 refine⟨by omega,IfB.no (by simp;omega) (IfB.intro (fun hin=>?_) (fun hin=>?_))⟩
 ·have hin:i=t0.n:=by have:=eq_of_beq hin;rw[show t0.2=t0.n from rfl] at this;omega
  subst hin
  refine⟨new,h2.2,h.append (cnt:=t2.n) hsz hz h2.1 hn1 hr fun s' w' ho hn' hc hb' _=>hK s' w' ?_ hn' hc hb'⟩
  rw[<-hlen,List.take_length,List.drop_length,List.append_nil];exact ho
 ·have hin:i<t0.n:=by
   have:i≠t0.n:=by rintro rfl;simp at hin
   omega
  rw[show t0.2=t0.n from rfl,show t2.2=t2.n from rfl,e0,e1,e2]
  refine IfB.dec (fun hg=>?_) (fun hg=>?_)
  ·have hkb:(t0.n+t2.n-i)*te.bytes<=1000000*100000:=Nat.mul_le_mul (by omega) hb
   refine⟨by omega,⟨by omega,by omega,by rw[<-Int.natCast_mul];omega⟩,?_⟩
   simp only[Int.toNat_natCast]
   rw[slAddr_own h]
   have hcut:=h.cut (k:=i) (by omega)
   refine hcut.appendNew (cnt:=t0.n+t2.n-i) (by dsimp only;omega) hsz hz (by rw[zc_len,hz]) (by rw[show (⟨t0.p,i,t0.c⟩:Sl).n+(t0.n+t2.n-i)=t0.n+t2.n by dsimp only;omega];exact hr) ?_
   intro s4 w5 ho4 hn4 hx hf4 hp4
   dsimp only at hn4
   have hn4:s4.n=t0.n+t2.n:=by omega
   have hcs4:=ho4.len
   refine⟨by omega,?_⟩
   refine copy_own ho4 (r:=t2.n) (Nat.min_eq_left (by omega)) (h2.ext hx).2 h2.1 (by omega) hn1 hp4 ?_
   intro w7 ho7 hc7
   refine⟨by omega,by omega,?_⟩
   have hT:OwS w7 t0 sz cs:=(h.ext hx).ch hc7 fun b hb hb4=>by have:=hf4 b hb4;have:=h.lt b hb;omega
   have hT':OwS w7.drew t0 sz cs:=hT.keep fun _ _=>rfl
   have ho7':OwS w7.drew s4 sz _:=ho7.keep fun _ _=>rfl
   have hrd:=hT'.read i (t0.n-i) (by omega)
   have hB:(cs.drop (i*sz)).take ((t0.n-i)*sz)=cs.drop (i*sz):=List.take_of_length_le (by rw[List.length_drop,hlen,Nat.sub_mul];exact Nat.le_refl _)
   rw[hB] at hrd
   refine copy_own ho7' (r:=t0.n-i) (Nat.min_eq_left (by omega)) hrd (by rw[List.length_drop,hlen,Nat.sub_mul]) (by omega) (h1.drop _) hp4 ?_
   intro w9 ho9 hc9
   refine hK s4 w9 ?_ hn4 ?_ fun j hj=>.inr (hf4 j hj)
   ·have hA:(cs.take (i*sz)).length=i*sz:=by rw[List.length_take,hlen];exact Nat.min_eq_left (Nat.mul_le_mul_right _ (by omega))
    have z1:(cs.take (i*sz)++zc te.zero.cells (t0.n+t2.n-i)).take (i*sz)=cs.take (i*sz):=by
     rw[List.take_append_of_le_length (by rw[hA];exact Nat.le_refl _),List.take_of_length_le (by rw[hA];exact Nat.le_refl _)]
    rw[z1] at ho9
    have hAN:(cs.take (i*sz)++new).length=(i+t2.n)*sz:=by rw[List.length_append,hA,h2.1,Nat.add_mul]
    rw[List.take_append_of_le_length (by rw[hAN];exact Nat.le_refl _),List.take_of_length_le (by rw[hAN];exact Nat.le_refl _)] at ho9
    rw[List.drop_of_length_le (l:=_++_++_) (by
     rw[List.length_append,hAN,List.length_drop,List.length_append,hA,zc_len,hz,<-Nat.add_mul,<-Nat.sub_mul,<-Nat.add_mul]
     exact Nat.mul_le_mul_right _ (by omega)),List.append_nil] at ho9
    exact ho9
   ·have hd:Ch (fun _=>False) w7 w7.drew:=⟨drew_rest _,Nat.le_refl _,fun _ _ _=>rfl⟩
    refine((hx.mono fun _ _ h=>h.elim).then hc7 fun j hj hb4=>?_).then ((hd.mono fun _ _ h=>h.elim).then hc9 fun j hj hb4=>hb4) fun j hj hb4=>?_
    ·have:=hf4 j hb4;omega
    ·have:=hf4 j hb4;omega
  ·have hfit:t0.n+t2.n<=t0.c:=by omega
   have hp:t0.p≠none:=by
    rcases h with ⟨rfl,_⟩|⟨b,_,_,hp,_⟩
    ·dsimp only at hfit;omega
    ·rw[hp];simp
   simp only[Int.toNat_natCast]
   rw[slAddr_own h]
   refine⟨by omega,by omega,?_⟩
   have hbq:∃b o,slAddr t0.p t0.c (i+t2.n) sz=some ⟨b,o,none⟩/\b∈blk t0:=by
    obtain⟨b0,hp0⟩:=h.ptr (by omega)
    exact⟨b0,_,by rw[hp0,slAddr_some],by simp[blk,hp0]⟩
   refine hov ⟨slAddr t0.p t0.c (i+t2.n) sz,t0.n+t2.n-(i+t2.n),t0.c-(i+t2.n)⟩ _ (by omega) hbq ⟨false,rfl,IfB.yes rfl ?_⟩
   obtain⟨js,hjs,how⟩:=h.wide (k:=t0.n+t2.n) (by omega) hfit
   rw[Nat.add_sub_cancel_left] at hjs
   refine⟨by omega,by omega,?_⟩
   have hB:(cs.drop (i*sz)).take ((t0.n-i)*sz)=cs.drop (i*sz):=List.take_of_length_le (by rw[List.length_drop,hlen,Nat.sub_mul];exact Nat.le_refl _)
   have hrd:=h.read i (t0.n-i) (by omega)
   rw[hB] at hrd
   have how':OwS w.drew ⟨t0.p,t0.n+t2.n,t0.c⟩ sz (cs++js):=how.keep fun _ _=>rfl
   have hd:Ch (fun i=>i∈blk t0) w w.drew:=⟨drew_rest _,Nat.le_refl _,fun _ _ _=>rfl⟩
   refine copy_own (s:=⟨t0.p,t0.n+t2.n,t0.c⟩) how' (r:=t0.n-i) (i:=i+t2.n) (by show min _ _=_;omega) (show ReadC w.drew _ _ _ from hrd) (by rw[List.length_drop,hlen,Nat.sub_mul]) (by dsimp only;omega) (h1.drop _) hp ?_
   intro w14 ho14 hc14
   refine⟨by omega,?_⟩
   have hc14':Ch (fun i=>i∈blk t0) w w14:=hd.trans (hc14.mono fun j _ hj=>by simpa [blk] using hj)
   refine copy_own (s:=⟨t0.p,t0.n+t2.n,t0.c⟩) ho14 (r:=t2.n) (i:=i) (Nat.min_eq_left (by omega)) (h2.ch hc14' hdis).2 h2.1 (by dsimp only;omega) hn1 hp ?_
   intro w16 ho16 hc16
   refine hK ⟨t0.p,t0.n+t2.n,t0.c⟩ w16 ?_ rfl (hc14'.trans (hc16.mono fun j _ hj=>by simpa [blk] using hj)) fun j hj=>.inl (by simpa [blk] using hj)
   have:=ins_lists (sz:=sz) (i:=i) (m:=t2.n) (n:=t0.n) (new:=new) (by omega) hlen hjs h2.1
   dsimp only at this
   rw[this] at ho16
   exact ho16
def IndexF(P:Program){δ:Type}(E:World->Nat->Nat->Nat->δ->Prop)(V:δ->Value)(t0:Sl)(t1:Nat×Array Value)(w:World)(R:RV):Prop:=
 ∃(y1:Nat->Int->World->Prop),
 (∃(b2:Nat),y1 b2 (0:Int) w)/\
 ∀(b3:Nat)(n4:Int)(w5:World)(y6:Nat->Value),
 y1 b3 n4 w5->
 IfB (decide (n4<(t0.n:Int)))
 (∃(b8:Nat),
 ∃(b9:Nat),
 t0.1=some ({ block:=b8,off:=b9 }:Addr)/\
 ((0:Int)<=n4/\n4<(t0.2:Int))/\
 ∃(s10:δ),
 E w5 b8 b9 n4.toNat s10/\
 CX P t1.1 { toList:=V s10::t1.snd.1 } w5 fun(v11:Value) (w12:World)=>
 ∃(t13:Bool),v11=Value.bool t13/\IfB t13 (R (Value.int IntKind.i64 n4) w12) (([]:List Df)=[]/\∃(b14:Nat),b14<b3/\y1 b14 (IntKind.i64.wrap (n4+(1:Int))) w12))
 (R (Value.int IntKind.i64 (-1:Int)) w5)
def idxV(o:Option Nat):Int:=match o with
 | some i=>i
 | none=> -1
theorem IndexF_of{P:Program}{δ ε:Type}{E:World->Nat->Nat->Nat->δ->Prop}{V:δ->Value}{t0:Sl}{t1:Nat×Array Value}{w:World}{R:RV}(xs:List ε)(f:ε->δ)(q:ε->Bool)(hn:t0.n=xs.length)(hb:t0.n<=4611686018427387904)
  (hE:∀(i:Nat)(x:ε)(w5:World),xs[i]? =some x->Ext w w5->∃b o,t0.p=some ⟨b,o,none⟩/\E w5 b o i (f x))
  (hq:∀(i:Nat)(x:ε)(w5:World),xs[i]? =some x->Ext w w5->∀R':RV,(∀w',Ext w5 w'->R' (.bool (q x)) w')->CX P t1.1 { toList:=V (f x)::t1.2.toList } w5 R')
  (hK:∀w',Ext w w'->R (.int .i64 (idxV (xs.findIdx? q))) w'):IndexF P E V t0 t1 w R:=by
 refine⟨fun k n w5=>∃i:Nat,n=i/\i<=xs.length/\k+i=xs.length/\Ext w w5/\∀j<i,∀x,xs[j]? =some x->q x=false,⟨xs.length,0,rfl,Nat.zero_le _,rfl,Ch.refl _ _,fun j hj=>absurd hj (Nat.not_lt_zero _)⟩,?_⟩
 rintro k n w5 g ⟨i,rfl,hi,hk,hx,hlow⟩
 refine IfB.dec (fun hlt=>?_) (fun hge=>?_)
 ·have hi':i<xs.length:=by omega
  have hxi:xs[i]? =some xs[i]:=List.getElem?_eq_getElem hi'
  obtain⟨b,o,hp,he⟩:=hE i _ w5 hxi hx
  refine⟨b,o,hp,⟨by omega,hlt⟩,f xs[i],by rw[Int.toNat_natCast];exact he,?_⟩
  refine hq i _ w5 hxi hx _ fun w' hx'=>⟨q xs[i],rfl,IfB.intro (fun ht=>?_) (fun hf=>?_)⟩
  ·have:xs.findIdx? q=some i:=by
    rw[List.findIdx?_eq_some_iff_getElem]
    exact⟨hi',ht,fun j hj=>by have:=hlow j hj _ (List.getElem?_eq_getElem (by omega));simp[this]⟩
   have h2:=hK w' (hx.trans hx')
   rw[this] at h2
   exact h2
  ·refine⟨rfl,k-1,by omega,i+1,by rw[wrap_of (by omega) (by omega)];omega,hi',by omega,hx.trans hx',fun j hj x hjx=>?_⟩
   by_cases hji:j<i
   ·exact hlow j hji x hjx
   ·have:j=i:=by omega
    subst this
    rw[hxi] at hjx;cases hjx;exact hf
 ·have:xs.findIdx? q=none:=by
   rw[List.findIdx?_eq_none_iff]
   intro x hx'
   obtain⟨j,hj,rfl⟩:=List.getElem_of_mem hx'
   exact hlow j (by omega) _ (List.getElem?_eq_getElem hj)
  have h2:=hK w5 hx
  rw[this] at h2
  exact h2
def midI(x4:Int×Int):Int:=IntKind.i64.wrap ((IntKind.u64.wrap (IntKind.i64.wrap (x4.1+x4.2))).fdiv ((2:Int)^min (Int.toNat (1:Int)) IntKind.u64.bits))
theorem midI_of{i j:Nat}(h:i<=j)(hj:j<=4611686018427387900):midI ((i:Int),(j:Int))=((i+j)/2:Nat):=by
 unfold midI
 have e:((2:Int)^min (Int.toNat (1:Int)) IntKind.u64.bits)=2:=by decide
 rw[e,wrap_of (n:=(i:Int)+j) (by omega) (by omega),IntKind.wrap_u64,Int.fdiv_eq_ediv_of_nonneg _ (by decide),wrap_of (by omega) (by omega)]
 omega
def BinF(P:Program){δ:Type}(E:World->Nat->Nat->Nat->δ->Prop)(V:δ->Value)(kV:Value)(t0:Sl)(t2:Nat×Array Value)(w:World)(R:RV):Prop:=
 ∃(y1:Nat->Int×Int->World->Prop),
 (∃(b2:Nat),y1 b2 ((0:Int),(t0.2:Int)) w)/\
 ∀(b3:Nat)(x4:Int×Int)(w5:World)(y6:Nat->Value),
 y1 b3 x4 w5->
 IfB (decide (x4.fst<x4.snd))
 ((0:Int)<=(1:Int)/\
 ∃(b8:Nat),
 ∃(b9:Nat),
 t0.1=some ({ block:=b8,off:=b9 }:Addr)/\
 ((0:Int)<=midI x4/\midI x4<(t0.2:Int))/\
 ∃(x10:δ),
 E w5 b8 b9 (midI x4).toNat x10/\
 CX P t2.1 { toList:=V x10::kV::t2.snd.1 } w5 fun(v12:Value) (w13:World)=>
 ∃(n14:Int),
 v12=Value.int IntKind.i64 n14/\
 IfB (decide (n14<(0:Int)))
 (([]:List Df)=[]/\∃(b15:Nat),b15<b3/\y1 b15 (IntKind.i64.wrap (midI x4+(1:Int)),x4.2) w13)
 (([]:List Df)=[]/\∃(b16:Nat),b16<b3/\y1 b16 (x4.1,midI x4) w13))
 (IfB (decide (x4.fst<(t0.n:Int)))
 (∃(b17:Nat),
 ∃(b18:Nat),
 t0.1=some ({ block:=b17,off:=b18 }:Addr)/\
 ((0:Int)<=x4.1/\x4.1<(t0.2:Int))/\
 ∃(x19:δ),
 E w5 b17 b18 x4.1.toNat x19/\
 CX P t2.1 { toList:=V x19::kV::t2.snd.1 } w5 fun(v21:Value) (w22:World)=>
 ∃(n23:Int),v21=Value.int IntKind.i64 n23/\R (Value.tuple #[Value.int IntKind.i64 x4.1,Value.bool (n23 == (0:Int))]) w22)
 (R (Value.tuple #[Value.int IntKind.i64 x4.1,Value.bool false]) w5))
theorem BinF_of{P:Program}{δ:Type}{E:World->Nat->Nat->Nat->δ->Prop}{V:δ->Value}{kV:Value}{t0:Sl}{t2:Nat×Array Value}{w:World}{R:RV}(xs:List δ)(c:δ->Int)(hn:t0.n=xs.length)(hb:t0.n<=1000000000)
  (hE:∀(i:Nat)(x:δ)(w5:World),xs[i]? =some x->Ext w w5->∃b o,t0.p=some ⟨b,o,none⟩/\E w5 b o i x)
  (hq:∀(i:Nat)(x:δ)(w5:World),xs[i]? =some x->Ext w w5->∀R':RV,(∀w',Ext w5 w'->R' (.int .i64 (c x)) w')->CX P t2.1 { toList:=V x::kV::t2.2.toList } w5 R')
  (i:Nat)(hi:i<=xs.length)(hlo:∀(j:Nat)(x:δ),j<i->xs[j]? =some x->c x<0)(hhi:∀(j:Nat)(x:δ),i<=j->xs[j]? =some x->0<=c x)
  (hK:∀w',Ext w w'->R (.tuple #[.int .i64 i,.bool (match xs[i]? with|some x=>c x == 0|none=>false)]) w'):BinF P E V kV t0 t2 w R:=by
 refine⟨fun k x w5=>∃a b:Nat,x=((a:Int),(b:Int))/\a<=i/\i<=b/\b<=xs.length/\k=b-a/\Ext w w5,⟨xs.length,0,xs.length,by rw[show t0.2=t0.n from rfl,hn];rfl,Nat.zero_le _,hi,Nat.le_refl _,rfl,Ch.refl _ _⟩,?_⟩
 rintro k x w5 g ⟨a,b,rfl,ha,hbi,hbl,rfl,hx⟩
 refine IfB.dec (fun hlt=>⟨by decide,?_⟩) (fun hge=>?_)
 ·dsimp only at hlt
  have hm:=midI_of (i:=a) (j:=b) (by omega) (by omega)
  rw[hm]
  have hmi:(a+b)/2<xs.length:=by omega
  have hxi:xs[(a+b)/2]? =some xs[(a+b)/2]:=List.getElem?_eq_getElem hmi
  obtain⟨bb,o,hp,he⟩:=hE _ _ w5 hxi hx
  refine⟨bb,o,hp,⟨by omega,by rw[show t0.2=t0.n from rfl,hn];omega⟩,_,by rw[Int.toNat_natCast];exact he,?_⟩
  refine hq _ _ w5 hxi hx _ fun w' hx'=>⟨_,rfl,IfB.dec (fun hneg=>?_) (fun hpos=>?_)⟩
  ·have:(a+b)/2<i:=by
    rcases Nat.lt_or_ge ((a+b)/2) i with h|h
    ·exact h
    ·have:=hhi _ _ h hxi;omega
   exact⟨rfl,b-((a+b)/2+1),by omega,(a+b)/2+1,b,by rw[wrap_of (by omega) (by omega)];rfl,by omega,hbi,hbl,rfl,hx.trans hx'⟩
  ·have:i<=(a+b)/2:=by
    rcases Nat.lt_or_ge ((a+b)/2) i with h|h
    ·have:=hlo _ _ h hxi;omega
    ·exact h
   exact⟨rfl,(a+b)/2-a,by omega,a,(a+b)/2,rfl,ha,this,by omega,rfl,hx.trans hx'⟩
 ·dsimp only at hge
  have hai:a=i:=by omega
  subst hai
  dsimp only
  refine IfB.dec (fun hlt=>?_) (fun hge'=>?_)
  ·have hmi:a<xs.length:=by rw[<-hn];omega
   have hxi:xs[a]? =some xs[a]:=List.getElem?_eq_getElem hmi
   obtain⟨bb,o,hp,he⟩:=hE _ _ w5 hxi hx
   refine⟨bb,o,hp,⟨by omega,hlt⟩,_,by rw[Int.toNat_natCast];exact he,?_⟩
   refine hq _ _ w5 hxi hx _ fun w' hx'=>⟨_,rfl,?_⟩
   have:=hK w' (hx.trans hx')
   rw[hxi] at this
   exact this
  ·have hxi:xs[a]? =none:=List.getElem?_eq_none (by rw[<-hn];omega)
   have:=hK w5 hx
   rw[hxi] at this
   exact this
theorem ov_of{P:Program}{tb:Tab}(hT:tb.Ok P){f:FuncId}{fn:Func}(hf:P.funcs[f]? =some fn)(hname:(fn.name == "runtime.NumGoroutine")=false)(hb:fn.body.isNone=true)(hn:Extern.findNext fn=none)
  (he:Extern.find fn=some (Extern.SlicesOverlaps.overlaps fn.params fn.resultTypes)){t r e:TypeId}(hpar:fn.params=#[t,t])(hres:fn.resultTypes=#[r]){ti te:TI}(h1:tb t=some ti)(hk:ti.kd=.slice e)(h3:tb e=some te)
  {w:World}{s q:Sl}{b:Nat}{arr:Array Value}{T:TypeId}(hs:s.p=some ⟨b,0,none⟩)(hb1:w.heap[b]? =some (.cells arr T (0,0)))
  {b2 o2:Nat}{arr2:Array Value}{T2:TypeId}{z:Nat×Nat}(hq:q.p=some ⟨b2,o2,none⟩)(hb2:w.heap[b2]? =some (.cells arr2 T2 z))(h2:arr2.size≠0)(hne:b≠b2)
  {R:RV}(hR:R (.bool false) w):CX P f #[slV s,slV q] w R:=by
 refine .inr ⟨_,w,?_,hR⟩
 obtain⟨d,hd,hkd⟩:=(hT _ _ h1).desc
 rw[hk] at hkd
 have:=kd_slice hkd;subst this
 rw[run_callFunc_extern hf hname hb hn he,hpar,hres]
 have:=Go.Lib.run_overlaps_apart (P:=P) w t r e hd te.size (fun w=>run_sizeOf_of (hT _ _ h3) w) ⟨b,0,none⟩ ⟨b2,o2,none⟩ s.n s.c q.n q.c hne T T2 arr.size arr2.size (by simp[World.shape?,hb1]) (by simp[World.shape?,hb2]) h2
  (by simp[World.frozen?,hb1]) (by simp[World.frozen?,hb1])
 rw[show slV s=.slice (some ⟨b,0,none⟩) s.n s.c from by rw[<-hs],show slV q=.slice (some ⟨b2,o2,none⟩) q.n q.c from by rw[<-hq],this]
 rfl
theorem ovW{P:Program}{tb:Tab}(hT:tb.Ok P){f:FuncId}{fn:Func}(hf:P.funcs[f]? =some fn)(hname:(fn.name == "runtime.NumGoroutine")=false)(hb:fn.body.isNone=true)(hn:Extern.findNext fn=none)
  (he:Extern.find fn=some (Extern.SlicesOverlaps.overlaps fn.params fn.resultTypes)){t r e:TypeId}(hpar:fn.params=#[t,t])(hres:fn.resultTypes=#[r]){ti te:TI}(h1:tb t=some ti)(hk:ti.kd=.slice e)(h3:tb e=some te)
  {w:World}{s t0:Sl}{b:Nat}{arr:Array Value}{T:TypeId}(hs:s.p=some ⟨b,0,none⟩)(hb1:w.heap[b]? =some (.cells arr T (0,0)))
  {sz:Nat}{cs:List Value}(ho:OwS w t0 sz cs)(hsz:0<sz)(hd:b∉blk t0)
  (q:Sl)(R:RV)(hc:0<t0.c)(hq:∃b o,q.p=some ⟨b,o,none⟩/\b∈blk t0)(hR:R (.bool false) w):CX P f #[slV s,slV q] w R:=by
 obtain⟨b2,o2,hq,hb2⟩:=hq
 rcases ho with ⟨rfl,_⟩|⟨b',arr',T',hp,hh,hs',_⟩
 ·simp[blk] at hb2
 ·have e:b2=b':=by simpa [blk,hp] using hb2
  subst e
  refine ov_of hT hf hname hb hn he hpar hres h1 hk h3 hs hb1 hq hh ?_ (fun e=>hd (e ▸ hb2)) hR
  rw[hs']
  exact Nat.ne_of_gt (Nat.mul_pos hc hsz)
theorem takeWhile_all{α:Type}{p:α->Bool}:∀ {l:List α},(∀x∈l,p x=true)->l.takeWhile p=l
 | [],_=>rfl
 | x::l,h=>by rw[List.takeWhile_cons_of_pos (h x (by simp)),takeWhile_all fun y hy=>h y (by simp[hy])]
theorem takeWhile_none{α:Type}{p:α->Bool}{l:List α}(h:∀x∈l,p x=false):l.takeWhile p=[]:=by
 cases l with
 | nil=>rfl
 | cons x l=>rw[List.takeWhile_cons_of_neg (by simp[h x])]
theorem dropWhile_none{α:Type}{p:α->Bool}{l:List α}(h:∀x∈l,p x=false):l.dropWhile p=l:=by
 cases l with
 | nil=>rfl
 | cons x l=>rw[List.dropWhile_cons_of_neg (by simp[h x])]
theorem takeWhile_app{α:Type}{p:α->Bool}{a b:List α}(h:∀x∈a,p x=true):(a++b).takeWhile p=a++b.takeWhile p:=by
 induction a with
 | nil=>rfl
 | cons x a ih=>rw[List.cons_append,List.takeWhile_cons_of_pos (h x (by simp)),ih fun y hy=>h y (by simp[hy])];rfl
theorem dropWhile_app{α:Type}{p:α->Bool}{a b:List α}(h:∀x∈a,p x=true):(a++b).dropWhile p=b.dropWhile p:=by
 induction a with
 | nil=>rfl
 | cons x a ih=>rw[List.cons_append,List.dropWhile_cons_of_pos (h x (by simp)),ih fun y hy=>h y (by simp[hy])]
theorem takeWhile_app2{α:Type}{p:α->Bool}{a b:List α}(h:∀x∈b,p x=false):(a++b).takeWhile p=a.takeWhile p:=by
 induction a with
 | nil=>rw[List.nil_append,takeWhile_none h];rfl
 | cons x a ih=>
  rw[List.cons_append]
  cases hx:p x with
  | true=>rw[List.takeWhile_cons_of_pos hx,List.takeWhile_cons_of_pos hx,ih]
  | false=>rw[List.takeWhile_cons_of_neg (by simp[hx]),List.takeWhile_cons_of_neg (by simp[hx])]
theorem dropWhile_app2{α:Type}{p:α->Bool}{a b:List α}(h:∀x∈b,p x=false):(a++b).dropWhile p=a.dropWhile p++b:=by
 induction a with
 | nil=>rw[List.nil_append,dropWhile_none h];rfl
 | cons x a ih=>
  rw[List.cons_append]
  cases hx:p x with
  | true=>rw[List.dropWhile_cons_of_pos hx,List.dropWhile_cons_of_pos hx,ih]
  | false=>rw[List.dropWhile_cons_of_neg (by simp[hx]),List.dropWhile_cons_of_neg (by simp[hx])];rfl
theorem takeWhile_mem{α:Type}{p:α->Bool}:∀ {l:List α}{x:α},x∈l.takeWhile p->p x=true
 | y::l,x,h=>by
  cases hy:p y with
  | true=>
   rw[List.takeWhile_cons_of_pos hy] at h
   rcases List.mem_cons.1 h with rfl|h
   ·exact hy
   ·exact takeWhile_mem h
  | false=>rw[List.takeWhile_cons_of_neg (by simp[hy])] at h;cases h
theorem take_succ_get{α:Type}{l:List α}{i:Nat}{x:α}(h:l[i]? =some x):l.take (i+1)=l.take i++[x]:=by
 rw[List.take_add_one,h];rfl
abbrev New(A:Nat->Prop)(w:World):Nat->Prop:=fun i=>A i\/w.heap.size<=i
theorem extDrew(w:World):Ext w w.drew:=⟨drew_rest w,Nat.le_refl _,fun _ _ _=>rfl⟩
theorem maxOne{n:Nat}(h:n<=1000000):(if IntKind.i64.wrap ((n:Int)-(1:Int))<(0:Int) then (0:Int) else IntKind.i64.wrap ((n:Int)-(1:Int)))=((n-1:Nat):Int):=by
 rw[wrap_of (by omega) (by omega)];split<;>omega
theorem Ch.thenNew{A G:Nat->Prop}{w0 a b:World}(h:Ch A w0 a)(k:Ch G a b)(hG:∀i,G i->New A w0 i):Ch A w0 b:=
 h.then k fun i hi hg=>(hG i hg).elim id fun h=>by omega
theorem Ch.thenExt{A:Nat->Prop}{w0 a b:World}(h:Ch A w0 a)(k:Ext a b):Ch A w0 b:=h.thenNew k fun _ h=>h.elim
theorem store_all{w:World}{b:Nat}{vs:List Value}{old:Array Value}{T:TypeId}{K:World->Prop}(hb:w.heap[b]? =some (.cells old T (0,0)))(hl:old.size=vs.length)(h1:One vs)
  (hK:∀w',IsUpd w b (.cells vs.toArray T (0,0)) w'->K w'):StoreP w b 0 vs K:=by
 cases vs with
 | nil=>
  have:old=#[]:=Array.eq_empty_of_size_eq_zero hl
  subst this
  exact hK w ⟨rfl,hb,fun _ _=>rfl,Rest.refl _⟩
 | cons v vs=>
  refine⟨old,T,hb,by rw[hl];simp,h1,fun w' hu=>hK w' ?_⟩
  have e:=setsA_list (old:=old) (o:=0) (vs:=v::vs) (by rw[hl];simp)
  have e2:setsA old 0 (v::vs)=(v::vs).toArray:=by
   apply Array.toList_inj.1
   rw[e,Nat.zero_add,<-hl,List.drop_of_length_le (by simp)]
   simp
  rw[e2] at hu
  exact hu
theorem Stb.fresh{n:Nat}{w w1 w2:World}{o o':Obj}{b:Nat}(h:IsAlloc w o b w1)(k:IsUpd w1 b o' w2)(hn:n<=w.heap.size):Stb n w w2:=by
 have hb:=h.here
 refine⟨by rw[k.size,h.size];omega,fun i hi=>?_,fun i o2 ho _=>?_,h.rest.trans k.rest⟩
 ·rw[k.old i (by omega),h.old i (by omega)]
 ·have hi:=heap_lt ho
  rw[k.old i (by omega),h.old i hi];exact ho
theorem Ext.fresh{w w1 w2:World}{o o':Obj}{b:Nat}(h:IsAlloc w o b w1)(k:IsUpd w1 b o' w2):Ext w w2:=
 (h.ch _).then k.ch fun i hi e=>by have:=h.here;omega
theorem OwS.stb{n:Nat}{w w':World}{s:Sl}{sz:Nat}{cs:List Value}(h:OwS w s sz cs)(hS:Stb n w w'):OwS w' s sz cs:=by
 rcases h with h|⟨b,arr,T,h1,h2,h3⟩
 ·exact .inl h
 ·exact .inr ⟨b,arr,T,h1,hS.keep _ _ h2 rfl,h3⟩
theorem OwS.lit{w:World}{s:Sl}{sz bl:Nat}{cs new:List Value}{te:TI}{T T':TypeId}{K:Sl->World->Prop}(h:OwS w s sz cs)(hb:w.heap[bl]? =some (.cells new.toArray T' (0,0)))(hnew:new.length=sz)(h1:One new)(hsz:te.size=sz)(hz:te.zero.cells.size=sz)
  (hn:s.n<=1000000)(hby:te.bytes<=100000)
  (hK:∀s' w',OwS w' s' sz (cs++new)->s'.n=s.n+1->Ch (fun i=>i∈blk s) w w'->(∀i∈blk s',i∈blk s\/w.heap.size<=i)->K s' w'):
  ∃l,ReadC w (some ⟨bl,0,none⟩) (1*sz) l/\AppendP te T w s.p s.n s.c 1 l K:=by
 refine⟨new,⟨by omega,cellsAt_of hb fun i v hv=>by simpa using hv⟩,h.append (cnt:=1) hsz hz (by omega) h1 ⟨by omega,?_⟩ fun s' w' a b c d _=>hK s' w' a b c d⟩
 exact Nat.le_trans (Nat.mul_le_mul (show 2*(s.n+1)<=3000000 by omega) hby) (by decide)
theorem Rd.len1{w:World}{s:Sl}{cs:List Value}(h:Rd w s 1 cs):s.n=cs.length:=by have:=h.1;omega
theorem Its.ch{F:Nat->Prop}{W W':World}(hc:Ch F W W')(hF:∀i,F i->∀m s q t,W.heap[i]? ≠some (.mapIter m s q t)):Its W W':=fun i m s q t e=>by
 have hi:=heap_lt e
 rw[hc.old i hi fun h=>hF i h m s q t e];exact e
theorem Its.ext{W W':World}(hc:Ext W W'):Its W W':=Its.ch hc fun _ h=>h.elim
theorem OwS.blkIt{w:World}{s:Sl}{sz:Nat}{cs:List Value}(h:OwS w s sz cs){i:Nat}(hi:i∈blk s)(m:Option Nat)(q:Nat)(a:Array Nat)(t:Nat):w.heap[i]? ≠some (.mapIter m q a t):=by
 rcases h with ⟨rfl,_⟩|⟨b,arr,T,h1,h2,_⟩
 ·simp[blk] at hi
 ·simp only[blk,h1] at hi
  simp at hi
  rw[hi,h2];simp
theorem notIt{w:World}{i:Nat}{cs:Array Value}{T:TypeId}{p:Nat×Nat}(h:w.heap[i]? =some (.cells cs T p))(m:Option Nat)(q:Nat)(a:Array Nat)(t:Nat):w.heap[i]? ≠some (.mapIter m q a t):=by rw[h];simp
section
variable {β:Type} {enc:β->Value}
def MpE(enc:β->Value)(es:List MapEntry)(f:List (Int×β))(ck:Nat):Prop:=
 es.map (fun e=>(e.key,e.val))=f.map (fun p=>(Value.int .i64 p.1,enc p.2))/\(f.map (·.1)).Nodup/\(∀e∈es,e.born<ck)/\(es.map (·.born)).Nodup
def Mp(enc:β->Value)(w:World)(r:Nat)(f:List (Int×β)):Prop:=∃es ck,w.heap[r]? =some (.map es ck)/\MpE enc es.toList f ck
theorem Mp.ch{F:Nat->Prop}{w w':World}{r:Nat}{f:List (Int×β)}(h:Mp enc w r f)(hc:Ch F w w')(hF:¬F r):Mp enc w' r f:=by
 obtain⟨es,ck,h1,h2⟩:=h
 exact⟨es,ck,hc.at h1 hF,h2⟩
theorem Mp.ext{w w':World}{r:Nat}{f:List (Int×β)}(h:Mp enc w r f)(hc:Ext w w'):Mp enc w' r f:=h.ch hc id
theorem Mp.new{w w':World}{r:Nat}(h:IsAlloc w (.map #[] 0) r w'):Mp enc w' r []:=⟨_,_,h.new,rfl,.nil,by simp,.nil⟩
theorem Mp.lt{w:World}{r:Nat}{f:List (Int×β)}(h:Mp enc w r f):r<w.heap.size:=by
 obtain⟨es,ck,h1,h2⟩:=h
 exact heap_lt h1
def getM(f:List (Int×β))(k:Int):Option β:=(f.find? fun p=>p.1 == k).map (·.2)
theorem getM_nil(k:Int):getM ([]:List (Int×β)) k=none:=rfl
theorem getM_cons(p:Int×β)(f:List (Int×β))(k:Int):getM (p::f) k=if p.1=k then some p.2 else getM f k:=by
 unfold getM
 by_cases h:p.1=k
 ·rw[if_pos h,List.find?_cons_of_pos (by simpa using h)];rfl
 ·rw[if_neg h,List.find?_cons_of_neg (by simpa using h)]
theorem getM_append(f f':List (Int×β))(k:Int):getM (f++f') k=match getM f k with|some v=>some v|none=>getM f' k:=by
 induction f with
 | nil=>rfl
 | cons p f ih=>
  rw[List.cons_append,getM_cons,getM_cons,ih]
  split<;>rfl
theorem getM_none{f:List (Int×β)}{k:Int}(h:∀p∈f,p.1≠k):getM f k=none:=by
 unfold getM
 rw[List.find?_eq_none.2 (by intro p hp;simpa using h p hp)];rfl
theorem getM_key{f:List (Int×β)}{k:Int}:k∈f.map (·.1)↔getM f k≠none:=by
 induction f with
 | nil=>simp[getM_nil]
 | cons p f ih=>
  rw[getM_cons,List.map_cons,List.mem_cons,ih]
  by_cases h:p.1=k
  ·rw[if_pos h];simp[h]
  ·rw[if_neg h]
   constructor
   ·rintro(e|e)
    ·exact absurd e.symm h
    ·exact e
   ·exact .inr
theorem find_is{k:Int}:∀ {es:List MapEntry}{f:List (Int×β)}(i:Nat),es.map (fun e=>(e.key,e.val))=f.map (fun p=>(Value.int .i64 p.1,enc p.2))->
  ∃r,Instr.findNow (.int .i64) (.int .i64 k) es i=some r/\((r=none/\∀p∈f,p.1≠k)\/∃f1 v f2,f=f1++(k,v)::f2/\r=some (i+f1.length,enc v)/\∀p∈f1,p.1≠k)
 | [],[],i,_=>⟨none,rfl,.inl ⟨rfl,by simp⟩⟩
 | [],_::_,i,h=>by simp at h
 | _::_,[],i,h=>by simp at h
 | e::es,p::f,i,h=>by
  simp only[List.map_cons,List.cons.injEq,Prod.mk.injEq] at h
  obtain⟨⟨h1,h2⟩,h3⟩:=h
  by_cases hk:k=p.1
  ·refine⟨some (i,e.val),by simp[Instr.findNow,h1,Instr.sameNow,hk],.inr ⟨[],p.2,f,by rw[hk];rfl,by rw[h2];rfl,by simp⟩⟩
  ·obtain⟨r,hr,h⟩:=find_is (k:=k) (i+1) h3
   have hkb:(k == p.1)=false:=beq_eq_false_iff_ne.2 hk
   refine⟨r,by simp[Instr.findNow,h1,Instr.sameNow,hkb,hr],?_⟩
   rcases h with ⟨h4,h5⟩|⟨f1,v,f2,rfl,h5,h6⟩
   ·refine .inl ⟨h4,fun q hq=>?_⟩
    rcases List.mem_cons.1 hq with rfl|hq
    ·exact fun e=>hk e.symm
    ·exact h5 q hq
   ·refine .inr ⟨p::f1,v,f2,rfl,by rw[h5,List.length_cons,Nat.add_assoc,Nat.add_comm 1],fun q hq=>?_⟩
    rcases List.mem_cons.1 hq with rfl|hq
    ·exact fun e=>hk e.symm
    ·exact h6 q hq
theorem Mp.get{w:World}{r:Nat}{f:List (Int×β)}(h:Mp enc w r f){k:Int}{z:Value}{K:Value->Bool->Prop}(hK:match getM f k with|some v=>K (enc v) true|none=>K z false):
  MapGetP (.int .i64) w (.map (some r)) (.int .i64 k) z K:=by
 obtain⟨es,ck,hr,h1,h2,h3,h4⟩:=h
 obtain⟨q,hq,h⟩:=find_is (k:=k) 0 h1
 refine⟨es.toList,⟨es,ck,hr,rfl⟩,q,hq,?_⟩
 rcases h with ⟨rfl,h5⟩|⟨f1,v,f2,rfl,rfl,h6⟩
 ·rw[getM_none h5] at hK;exact hK
 ·rw[getM_append,getM_none h6,getM_cons,if_pos rfl] at hK;exact hK
theorem Mp.set{w:World}{r:Nat}{f:List (Int×β)}(h:Mp enc w r f){k:Int}{v:β}{K:World->Prop}
  (hK:∀f' w',(∀k',getM f' k'=if k=k' then some v else getM f k')->Mp enc w' r f'->Ch (fun i=>i=r) w w'->K w'):
  MapSetP (.int .i64) w (.map (some r)) (.int .i64 k) (enc v) K:=by
 obtain⟨es,ck,hr,h1,h2,h3,h4⟩:=h
 obtain⟨q,hq,h⟩:=find_is (k:=k) 0 h1
 refine⟨r,rfl,es,ck,hr,q,hq,?_⟩
 rcases h with ⟨rfl,h5⟩|⟨f1,v0,f2,rfl,rfl,h6⟩
 ·intro w' hu
  refine hK (f++[(k,v)]) w' (fun k'=>?_) ⟨_,_,hu.new,?_,?_,?_,?_⟩ hu.ch
  ·rw[getM_append,getM_cons,getM_nil]
   by_cases hk:k=k'
   ·subst hk;rw[getM_none h5]
   ·rw[if_neg hk,if_neg hk];cases getM f k'<;>rfl
  ·rw[Array.toList_push,List.map_append,List.map_append,h1];rfl
  ·rw[List.map_append,List.nodup_append]
   refine⟨h2,by simp,fun a ha b hb=>?_⟩
   obtain⟨p,hp,rfl⟩:=List.mem_map.1 ha
   simp only[List.map_cons,List.map_nil,List.mem_singleton] at hb
   rw[hb];exact h5 p hp
  ·intro e he
   rw[Array.toList_push,List.mem_append,List.mem_singleton] at he
   rcases he with he|rfl
   ·have:=h3 e he;omega
   ·simp
  ·rw[Array.toList_push,List.map_append,List.nodup_append]
   refine⟨h4,by simp,fun a ha b hb=>?_⟩
   obtain⟨e,he,rfl⟩:=List.mem_map.1 ha
   simp only[List.map_cons,List.map_nil,List.mem_singleton] at hb
   rw[hb]
   have:=h3 e he
   omega
 ·intro w' hu
  rw[Nat.zero_add] at hu
  have hlen:=congrArg List.length h1
  simp only[List.length_map,List.length_append,List.length_cons,Array.length_toList] at hlen
  have hi:f1.length<es.size:=by omega
  have hm:∀ {γ:Type}(F:MapEntry->γ),(es.modify f1.length fun e=>{ e with key:=.int .i64 k,val:=enc v }).toList.map F=(es.toList.map F).set f1.length (F { es[f1.length] with key:=.int .i64 k,val:=enc v }):=fun F=>by
   apply List.ext_getElem?
   intro i
   rw[List.getElem?_map,Array.getElem?_toList,Array.getElem?_modify,List.getElem?_set,List.getElem?_map,Array.getElem?_toList]
   by_cases h:f1.length=i
   ·subst h;simp[hi]
   ·simp[h]
  refine hK (f1++(k,v)::f2) w' (fun k'=>?_) ⟨_,_,hu.new,?_,?_,?_,?_⟩ hu.ch
  ·rw[getM_append,getM_append,getM_cons,getM_cons]
   by_cases hk:k=k'
   ·subst hk;rw[getM_none h6];simp
   ·simp[hk]
  ·rw[hm,h1]
   simp only[List.map_append,List.map_cons]
   rw[List.set_append_right _ _ (by simp)]
   simp
  ·simpa using h2
  ·intro e he
   have hb:e.born∈(es.modify f1.length fun e=>{ e with key:=.int .i64 k,val:=enc v }).toList.map (·.born):=List.mem_map_of_mem he
   rw[hm] at hb
   rcases List.mem_or_eq_of_mem_set hb with hb|hb
   ·obtain⟨e',he',hbe⟩:=List.mem_map.1 hb
    rw[<-hbe];exact h3 e' he'
   ·rw[hb];exact h3 es[f1.length] (by simp)
  ·rw[hm]
   have:(es.toList.map (·.born)).set f1.length es[f1.length].born=es.toList.map (·.born):=by
    apply List.ext_getElem?
    intro i
    rw[List.getElem?_set]
    by_cases h:f1.length=i
    ·subst h;simp[hi]
    ·simp[h]
   rw[this];exact h4
end
def KeysF(P:Program)(t0 t1:Nat)(w:World)(R:RV):Prop:=
 ∃p1:Option Nat,w.cell? ⟨t1,0,none⟩=some (.map p1)/\
 MapItP w (.map p1) fun b2 w3=>∃y4:Nat->Unit->World->Prop,(∃b5,y4 b5 () w3)/\∀(b6:Nat)(y7:Unit)(w8:World)(y9:Nat->Value),y4 b6 y7 w8->
  NextP w8 b2 (fun w11=>R (.tuple #[]) w11) fun v12 v13 w14=>EntryP w14 b2 fun v15 v16=>
   YW P t0 #[v15] w14 fun t17 w18=>IfB (!t17) (R (.tuple #[]) w18) (([]:List Df)=[]/\∃b19,b19<b6/\y4 b19 () w18)
abbrev iv0(n:Int):Value:=.int .i64 n
def ivA(n:Int):Array Value:=#[.int .i64 n]
abbrev MO:=Option (Nat×Array MapEntry×Nat)
def KeysI(b1:Nat)(p:MO)(W:World):Prop:=
 (∃T,W.heap[b1]? =some (.cells #[.map (p.map (·.1))] T (0,0)))/\match p with
  | none=>True
  | some (r,es,ck)=>W.heap[r]? =some (.map es ck)
def KeysE(p:MO)(ks:List Int):Prop:=match p with
  | none=>ks=[]
  | some (_,es,ck)=>es.toList.map (·.key)=ks.map iv0/\ks.Nodup/\(∀e∈es.toList,e.born<ck)/\(es.toList.map (·.born)).Nodup
theorem find_born{l:List MapEntry}(hn:(l.map (·.born)).Nodup){x:MapEntry}(hx:x∈l):l.find? (fun e=>e.born == x.born)=some x:=by
 induction l with
 | nil=>cases hx
 | cons e l ih=>
  rw[List.map_cons,List.nodup_cons] at hn
  rcases List.mem_cons.1 hx with rfl|hx
  ·rw[List.find?_cons_of_pos (by simp)]
  ·have:e.born≠x.born:=fun h=>hn.1 (h ▸ List.mem_map_of_mem hx)
   rw[List.find?_cons_of_neg (by simpa using this)]
   exact ih hn.2 hx
theorem key_inj{l:List MapEntry}{ks:List Int}(hk:l.map (·.key)=ks.map iv0)(hn:ks.Nodup){x y:MapEntry}(hx:x∈l)(hy:y∈l)(h:x.key=y.key):x=y:=by
 obtain⟨i,hi,rfl⟩:=List.mem_iff_getElem.1 hx
 obtain⟨j,hj,rfl⟩:=List.mem_iff_getElem.1 hy
 have hl:=congrArg List.length hk
 simp only[List.length_map] at hl
 have e1:=congrArg (·[i]?) hk
 have e2:=congrArg (·[j]?) hk
 simp only[List.getElem?_map,List.getElem?_eq_getElem hi,List.getElem?_eq_getElem hj,List.getElem?_eq_getElem (show i<ks.length by omega),List.getElem?_eq_getElem (show j<ks.length by omega),Option.map_some,Option.some.injEq] at e1 e2
 rw[e1,e2] at h
 have:ks[i]'(by omega)=ks[j]'(by omega):=by simpa [iv0] using h
 have hp:=List.pairwise_iff_getElem.1 hn
 rcases Nat.lt_trichotomy i j with h|h|h
 ·exact absurd this (hp i j (by omega) (by omega) h)
 ·subst h;rfl
 ·exact absurd this.symm (hp j i (by omega) (by omega) h)
theorem nodup_len:∀ {a b:List Int},a.Nodup->(∀x∈a,x∈b)->a.length<=b.length
 | [],_,_,_=>Nat.zero_le _
 | x::a,b,hn,h=>by
  rw[List.nodup_cons] at hn
  have hx:=h x List.mem_cons_self
  have ih:=nodup_len (b:=b.erase x) hn.2 fun y hy=>(List.mem_erase_of_ne (fun(e:y=x)=>hn.1 (e ▸ hy))).2 (h y (List.mem_cons_of_mem _ hy))
  rw[List.length_erase_of_mem hx] at ih
  have:=List.length_pos_of_mem hx
  rw[List.length_cons];omega
theorem keys_iter{P:Program}{g:FuncId}(hen:Entr P g){b1:Nat}(hF:∀l W R,KeysF P l b1 W R->CW P g #[.func (.yield l) #[] #[],.pointer (some ⟨b1,0,none⟩)] W R){p:MO}{ks:List Int}(hks:KeysE p ks):
  Iter P g #[.pointer (some ⟨b1,0,none⟩)] ivA false (fun pre x=>x∈ks/\x∉pre) (fun xs=>xs.Perm ks) (KeysI b1 p):=by
 refine⟨hen,fun l J Jx W hJ hJx hInv hSz _ hstep h0=>?_⟩
 obtain⟨⟨T,hT⟩,hM⟩:=hInv _ _ h0
 refine hF l W _ ⟨p.map (·.1),by rw[cell_of hT];rfl,?_⟩
 match p,hks,hM,hInv with
 | none,hks,hM,hInv=>
  have hf:ks=[]:=hks
  subst hf
  refine .inl ⟨rfl,fun b2 w3 h3=>?_⟩
  refine⟨fun _ _ W'=>W'=w3,⟨0,rfl⟩,?_⟩
  rintro _ _ _ _ rfl
  exact .inl ⟨0,#[],0,h3.new,.inl ⟨[],.refl _,hJ _ _ _ h0 (Stb.alloc h3 (Nat.le_refl _))⟩⟩
 | some (r,es,ck),⟨hk,hn,hb,hbn⟩,hM,hInv=>
  refine .inr ⟨r,es,ck,rfl,hM,fun b2 w3 h3=>?_⟩
  have hlk:=congrArg List.length hk
  simp only[List.length_map] at hlk
  refine⟨fun n _ W'=>∃(se:List MapEntry)(pre:List Int),n=ks.length-pre.length/\W'.heap[b2]? =some (.mapIter (some r) ck (se.map (·.born)).toArray ck)/\pre.map iv0=se.map (·.key)/\(∀e∈se,e∈es.toList)/\pre.Nodup/\J pre W'/\W.heap.size<=W'.heap.size,
   ⟨_,[],[],rfl,h3.new,rfl,by simp,.nil,hJ _ _ _ h0 (Stb.alloc h3 (Nat.le_refl _)),by rw[h3.size];omega⟩,?_⟩
  rintro _ _ w8 _ ⟨se,pre,rfl,hit,hpk,hse,hpn,hj,hw8⟩
  obtain⟨_,hM8⟩:=hInv _ _ hj
  have hM8:w8.heap[r]? =some (.map es ck):=hM8
  have pk:∀ {k:Int},k∈pre->∃e∈se,e.key=iv0 k:=fun{k} h=>by
   have:iv0 k∈se.map (·.key):=by rw[<-hpk];exact List.mem_map_of_mem h
   obtain⟨e,he,h⟩:=List.mem_map.1 this
   exact⟨e,he,h⟩
  have sk:∀ {e:MapEntry},e∈es.toList->∃k∈ks,e.key=iv0 k:=fun{e} h=>by
   have:e.key∈ks.map iv0:=by rw[<-hk];exact List.mem_map_of_mem h
   obtain⟨k,hk,h⟩:=List.mem_map.1 this
   exact⟨k,hk,h.symm⟩
  have psub:∀k∈pre,k∈ks:=fun k h=>by
   obtain⟨e,he,h⟩:=pk h
   obtain⟨k',hk',h'⟩:=sk (hse e he)
   rw[h'] at h
   have:k'=k:=by simpa [iv0] using h
   exact this ▸ hk'
  refine .inr ⟨r,ck,_,ck,es,ck,hit,hM8,?_,fun hall d=>?_,fun x hx hns d w' hu=>?_⟩
  ·by_cases he:es.isEmpty=true
   ·exact .inr (.inl he)
   ·have:0<es.size:=by
     rcases Nat.eq_zero_or_pos es.size with h|h
     ·exact absurd (by simp[Array.isEmpty,h]) he
     ·exact h
    exact .inr (.inr ⟨es[0],Array.getElem_mem _,hb _ (by simp)⟩)
  ·refine .inl ⟨pre,?_,hJ _ _ _ hj (Stb.drawn _ _ d)⟩
   refine(List.perm_ext_iff_of_nodup hpn hn).2 fun k=>⟨psub k,fun h=>?_⟩
   have:iv0 k∈es.toList.map (·.key):=by rw[hk];exact List.mem_map_of_mem h
   obtain⟨e,he,hek⟩:=List.mem_map.1 this
   by_cases hc:(se.map (·.born)).toArray.contains e.born=false
   ·have:=hall e (by simpa using he) hc
    have:=hb e he
    omega
   ·have hc:e.born∈se.map (·.born):=by simpa using hc
    obtain⟨e',he',hbb⟩:=List.mem_map.1 hc
    have h1:=find_born hbn he
    have h2:=find_born hbn (hse e' he')
    rw[hbb] at h2
    have:e=e':=Option.some.inj (h1.symm.trans h2)
    subst this
    have:iv0 k∈pre.map iv0:=by rw[hpk,<-hek];exact List.mem_map_of_mem he'
    obtain⟨k',hk',h⟩:=List.mem_map.1 this
    have:k'=k:=by simpa [iv0] using h
    exact this ▸ hk'
  ·have hx':x∈es.toList:=by simpa using hx
   obtain⟨k,hkk,hxk⟩:=sk hx'
   have hit':({ w8 with drawn:=d }:World).heap[b2]? =some (.mapIter (some r) ck (se.map (·.born)).toArray ck):=hit
   have hS:Stb W.heap.size w8 w':=(Stb.drawn _ w8 d).trans (Stb.upd hu hit' rfl (by have:=h3.here;omega))
   have hj':=hJ _ _ _ hj hS
   obtain⟨_,hM'⟩:=hInv _ _ hj'
   have hkp:k∉pre:=fun h=>by
    obtain⟨e,he,hek⟩:=pk h
    have:=key_inj hk hn (hse e he) hx' (hek.trans hxk.symm)
    subst this
    have:(se.map (·.born)).toArray.contains e.born=true:=by simpa using ⟨e,he,rfl⟩
    rw[this] at hns;cases hns
   refine⟨r,ck,_,ck,es,x,hu.new,hM',by simp,?_,?_⟩
   ·rw[<-Array.find?_toList];exact find_born hbn hx'
   ·rw[hxk]
    refine(hstep pre k w' hj' ⟨hkk,hkp⟩).mono fun t w18 ht=>?_
    cases t with
    | false=>exact IfB.yes rfl (.inr ⟨_,ht⟩)
    | true=>
     have hlen:(pre++[k]).length<=ks.length:=by
      have hnd:(pre++[k]).Nodup:=by
       rw[List.nodup_append]
       exact⟨hpn,by simp,fun a ha b hb=>by rw[List.mem_singleton.1 hb];exact fun e=>hkp (e ▸ ha)⟩
      exact nodup_len hnd fun a ha=>by
       rcases List.mem_append.1 ha with h|h
       ·exact psub a h
       ·rw[List.mem_singleton.1 h];exact hkk
     rw[List.length_append,List.length_singleton] at hlen
     refine IfB.no rfl ⟨rfl,ks.length-(pre++[k]).length,by rw[List.length_append,List.length_singleton];omega,se++[x],pre++[k],rfl,?_,?_,?_,?_,ht.1,?_⟩
     ·have:=ht.2 b2 _ _ _ _ hu.new
      rw[this];simp
     ·rw[List.map_append,List.map_append,hpk];simp[hxk]
     ·intro e he
      rcases List.mem_append.1 he with h|h
      ·exact hse e h
      ·rw[List.mem_singleton.1 h];exact hx'
     ·rw[List.nodup_append]
      exact⟨hpn,by simp,fun a ha b hb=>by rw[List.mem_singleton.1 hb];exact fun e=>hkp (e ▸ ha)⟩
     ·exact hSz _ _ ht.1
section
open Go Go.ChangeShapes Go.WideShapes Go.ChangeAt Go.RowKit
variable {H:Type} {enc:TypeId×Value->H} {P:Program}
theorem post_of_below{f:Func}{s:ChangeSpec}{apart fresh handsOn again:Bool}{W W':World}{args:Array Value}{v:Value}{ds gs:List (DataW H)}{before pa pv:List MemPlace}
  (hW:DataW.Whole enc P f.params.toList s.vars apart W args.toList ds gs before)(hB:Below W.heap.size W W')
  (hres:∀(b:Nat)(sp:Nat->Bool)(hd:Bool),DataW.TrodAll enc P W' b sp hd f.resultTypes.toList (v.resultList f.resultTypes.size) (s.fn H (ds++gs)).results [])
  (hargs:∀sp:Nat->Bool,(∀p∈before,sp p.block=true)->DataW.TrodAll enc P W' 0 sp true f.params.toList args.toList (s.fn H (ds++gs)).args pa)
  (hvars:∀sp:Nat->Bool,(∀p∈before,sp p.block=true)->DataW.TrodVars enc P W' sp s.vars (s.fn H (ds++gs)).vars pv)
  (hps:before=pa++pv)
  (hok:∀(j:Nat)(t:TypeId)(r:Value),f.resultTypes[j]? =some t->(v.resultList f.resultTypes.size)[j]? =some r->Value.okWide P W' .any 0 t r):
  s.post enc P f apart fresh handsOn again W args v W':=by
 have low:∀p∈before,p.block<W.heap.size:=hW.lt
 have hold:∀p∈before,(fun b=>decide (b<W.heap.size)) p.block=true:=fun p hp=>decide_eq_true (low p hp)
 refine⟨ds,gs,before,[],pa,pv,hW,hres _ _ _,hargs _ hold,hvars _ hold,World.keptBut_mono (fun p hp=>⟨hp,.inr (by rw[hps] at hp;simpa using hp)⟩) (hB.frame (· ∈before)),fun _=>?_⟩
 obtain⟨_,_,_,_,_,hz,hn⟩:=hW
 refine⟨hok,_,_,([]++pa)++pv,⟨[]++pa,pv,trodAll_append (hargs _ fun _ _=>rfl) (hres _ _ _),hvars _ fun _ _=>rfl,rfl,fun b off hp=>?_,fun ha=>?_⟩,fun p hp _=>?_⟩
 ·rw[List.nil_append,<-hps] at hp
  rw[hB.frozen (low _ hp)]
  exact hz b off hp
 ·have:=hn ha
  rw[hps] at this
  exact this
 ·rw[hps];exact hp
end
inductive Ty where
 | int (k:IntKind)|bool|str
 | pair (a b:Ty)
 | sl (e:Ty)
 | arr (n:Nat) (e:Ty)
@[reducible] def Ty.den:Ty->Type
 | .int _=>Int
 | .bool=>Bool
 | .str=>ByteArray
 | .pair a b=>a.den×b.den
 | .sl e=>List e.den
 | .arr _ e=>List e.den
def Ty.sz:Ty->Nat
 | .pair a b=>a.sz+b.sz
 | .arr n e=>n*e.sz
 | _=>1
def rep(A:Nat->Prop)(w:World):(t:Ty)->t.den->List Value->Prop
 | .int k,n,cs=>cs=[.int k n]/\k.min<=n/\n<=k.max
 | .bool,b,cs=>cs=[.bool b]
 | .str,s,cs=>cs=[.string s]/\s.size<=maxLen
 | .pair a b,x,cs=>∃c d,cs=c++d/\rep A w a x.1 c/\rep A w b x.2 d
 | .sl e,l,cs=>∃s:Sl,cs=[slV s]/\s.n=l.length/\s.n<=s.c/\s.n<=maxLen/\(0<s.n->∀i∈blk s,A i)/\
   ∃css:List (List Value),css.length=l.length/\(∀(i:Nat) c x,css[i]? =some c->l[i]? =some x->rep A w e x c)/\Rd w s e.sz css.flatten
 | .arr n e,l,cs=>l.length=n/\∃css:List (List Value),css.length=l.length/\(∀(i:Nat) c x,css[i]? =some c->l[i]? =some x->rep A w e x c)/\cs=css.flatten
theorem flatten_len{css:List (List Value)}{m:Nat}(h:∀c∈css,c.length=m):css.flatten.length=css.length*m:=by
 induction css with
 | nil=>simp
 | cons c css ih=>
  rw[List.flatten_cons,List.length_append,ih fun d hd=>h d (by simp[hd]),h c (by simp),List.length_cons,Nat.add_mul];omega
theorem flatten_get{css:List (List Value)}{m:Nat}(h:∀c∈css,c.length=m):∀ {i:Nat}{c:List Value},css[i]? =some c->(css.flatten.drop (i*m)).take m=c:=by
 induction css with
 | nil=>intro i c hc;cases hc
 | cons d css ih=>
  have hd:=h d (by simp)
  intro i c hc
  cases i with
  | zero=>cases hc;rw[Nat.zero_mul,List.drop_zero,List.flatten_cons,List.take_append_of_le_length (by omega),List.take_of_length_le (by omega)]
  | succ i=>
   rw[List.flatten_cons,Nat.add_mul,Nat.one_mul,List.drop_append,List.drop_of_length_le (by omega),List.nil_append,show i*m+m-d.length=i*m by omega]
   exact ih (fun c hc=>h c (by simp[hc])) hc
theorem rep_len{A:Nat->Prop}{w:World}:∀ {t:Ty}{x:t.den}{cs:List Value},rep A w t x cs->cs.length=t.sz
 | .int _,_,_,h=>by rw[h.1];rfl
 | .bool,_,_,h=>by rw[show _=_ from h];rfl
 | .str,_,_,h=>by rw[h.1];rfl
 | .pair a b,_,_,h=>by
  obtain⟨c,d,rfl,h1,h2⟩:=h
  rw[List.length_append,rep_len h1,rep_len h2];rfl
 | .sl e,_,_,h=>by obtain⟨s,rfl,_⟩:=h;rfl
 | .arr n e,l,_,h=>by
  obtain⟨hn,css,hl,hr,rfl⟩:=h
  have hm:∀c∈css,c.length=e.sz:=fun c hc=>by
   obtain⟨i,hi,rfl⟩:=List.getElem_of_mem hc
   exact rep_len (hr i _ _ (List.getElem?_eq_getElem hi) (List.getElem?_eq_getElem (by omega)))
  rw[flatten_len hm,hl,hn];rfl
theorem rep_lens{A:Nat->Prop}{w:World}{e:Ty}{l:List e.den}{css:List (List Value)}(hl:css.length=l.length)(hr:∀(i:Nat) c x,css[i]? =some c->l[i]? =some x->rep A w e x c):∀c∈css,c.length=e.sz:=fun c hc=>by
 obtain⟨i,hi,rfl⟩:=List.getElem_of_mem hc
 exact rep_len (hr i _ _ (List.getElem?_eq_getElem hi) (List.getElem?_eq_getElem (by omega)))
theorem Rd.nil{w w':World}{s:Sl}{sz:Nat}{cs:List Value}(h:Rd w s sz cs)(h0:s.n=0):Rd w' s sz cs:=by
 obtain⟨h1,h2⟩:=h
 rw[h0,Nat.zero_mul] at h1
 have:cs=[]:=List.eq_nil_of_length_eq_zero h1
 subst this
 refine⟨by rw[h0];simp,?_⟩
 unfold ReadC at h2 ⊢
 split
 ·exact⟨by rw[h0];simp,fun i v hv=>by simp at hv⟩
 ·exact⟨by rw[h0];simp,rfl⟩
 ·rfl
theorem Rd.ch0{F:Nat->Prop}{w w':World}{s:Sl}{sz:Nat}{cs:List Value}(h:Rd w s sz cs)(hc:Ch F w w')(hF:0<s.n->∀b∈blk s,¬F b):Rd w' s sz cs:=by
 by_cases h0:s.n=0
 ·exact h.nil h0
 ·exact h.ch hc (hF (by omega))
theorem rep_get{A:Nat->Prop}{w:World}{e:Ty}{l:List e.den}{cs:List Value}(h:rep A w (.sl e) l cs)(hz:0<e.sz){i:Nat}{x:e.den}(hx:l[i]? =some x):
  ∃(s:Sl)(b o:Nat)(c:List Value),cs=[slV s]/\s.n=l.length/\s.p=some ⟨b,o,none⟩/\A b/\CellsAt w b (o+i*e.sz) c/\rep A w e x c:=by
 obtain⟨s,rfl,h1,h2,h3,h4,css,h5,h6,h7⟩:=h
 have hi:i<l.length:=(List.getElem?_eq_some_iff.1 hx).1
 have hc:css[i]? =some (css[i]'(by omega)):=List.getElem?_eq_getElem (by omega)
 obtain⟨b,o,hp,hcc⟩:=h7.elem (i:=i) (by omega) hz (flatten_get (rep_lens h5 h6) hc)
 exact⟨s,b,o,_,rfl,h1,hp,h4 (by omega) b (by simp[blk,hp]),hcc,h6 i _ _ hc hx⟩
def ftB(P:Program)(B:TypeId->Ty->Bool):Nat->List Field->Ty->Bool
 | _,[],_=>false
 | off,[f],ty=>Nat.beq f.offset off&&B f.type ty&&Nat.beq (P.cellsOf f.type) ty.sz
 | off,f::g::fs,ty=>match ty with
  | .pair a b=>Nat.beq f.offset off&&B f.type a&&Nat.beq (P.cellsOf f.type) a.sz&&ftB P B (off+a.sz) (g::fs) b
  | _=>false
def tyB(P:Program):Nat->TypeId->Ty->Bool
 | 0,_,_=>false
 | d+1,t,ty=>match P.underlying t with
  | some (.struct fs)=>ftB P (tyB P d) 0 fs.toList ty&&Nat.beq (P.cellsOf t) ty.sz
  | u=>match u,ty with
   | some (.int k),.int k'=>eqK k k'
   | some .bool,.bool=>true
   | some .string,.str=>true
   | some (.slice e),.sl x=>tyB P d e x&&Nat.beq (P.cellsOf e) x.sz&&Nat.blt 0 x.sz
   | some (.array n e),.arr m x=>Nat.beq n m&&tyB P d e x&&Nat.beq (P.cellsOf e) x.sz&&Nat.beq (P.cellsOf t) (n*x.sz)
   | _,_=>false
section
variable {H:Type} {enc:TypeId×Value->H} {P:Program} {w:World} {base:Nat} {sp:Nat->Bool} {held:Bool}
theorem cells_at{a:Addr}{n:Nat}{c:List Value}(h:w.cells? base a n=some c)(hn:0<n):a.spot=none/\CellsAt w a.block a.off c:=by
 obtain⟨_,hl,hc⟩:=World.cells?_some h
 obtain⟨b,o,s⟩:=a
 have h0:=hc 0 hn
 rw[show (Addr.mk b o s).add 0=⟨b,o,s⟩ from rfl,List.getElem?_eq_getElem (show 0<c.length by omega)] at h0
 have hs:s=none:=by
  unfold World.cell? at h0
  split at h0
  ·cases s with
   | none=>rfl
   | some _=>simp at h0
  ·cases h0
 subst hs
 refine⟨rfl,fun i v hv=>?_⟩
 have:=hc i (by have:=(List.getElem?_eq_some_iff.1 hv).1;omega)
 rw[addr_add,hv] at this
 exact this
theorem pick{α β:Type}{Q:Nat->α->β->Prop}:∀(n:Nat),(∀i,i<n->∃a b,Q i a b)->∃(av:List α)(bs:List β),av.length=n/\bs.length=n/\∀(i:Nat) a b,av[i]? =some a->bs[i]? =some b->Q i a b
 | 0,_=>⟨[],[],rfl,rfl,fun i a b h=>by simp at h⟩
 | n+1,h=>by
  obtain⟨av,bs,h1,h2,h3⟩:=pick n fun i hi=>h i (by omega)
  obtain⟨a,b,hab⟩:=h n (Nat.lt_succ_self n)
  refine⟨av++[a],bs++[b],by simp[h1],by simp[h2],fun i x y hx hy=>?_⟩
  rw[List.getElem?_append] at hx hy
  split at hx
  ·rename_i hi
   rw[if_pos (by omega)] at hy
   exact h3 i x y hx hy
  ·rename_i hi
   rw[if_neg (by omega)] at hy
   have e1:i-av.length=0:=by
    have:=(List.getElem?_eq_some_iff.1 hx).1;simp at this;exact this
   have e2:i-bs.length=0:=by omega
   rw[e1] at hx;rw[e2] at hy
   cases hx;cases hy
   have:i=n:=by omega
   subst this;exact hab
theorem cellsAt_flatten{b m:Nat}:∀ {css:List (List Value)}{o:Nat},(∀(i:Nat) c,css[i]? =some c->CellsAt w b (o+i*m) c)->(∀c∈css,c.length=m)->CellsAt w b o css.flatten
 | [],_,_,_=>fun i v hv=>by simp at hv
 | c::css,o,h,hm=>by
  intro i v hv
  rw[List.flatten_cons,List.getElem?_append] at hv
  split at hv
  ·have:=h 0 c rfl i v hv
   simpa using this
  ·rename_i hi
   have hc:=hm c (by simp)
   have ih:=cellsAt_flatten (css:=css) (o:=o+m) (fun j d hd=>by
    have:=h (j+1) d hd
    rw[show o+m+j*m=o+(j+1)*m by rw[Nat.add_mul];omega];exact this) (fun d hd=>hm d (by simp[hd])) (i-c.length) v hv
   rw[show o+m+(i-c.length)=o+i by omega] at ih
   exact ih
theorem chunks{m:Nat}:∀(n:Nat)(cs:List Value),cs.length=n*m->cs=((List.range n).map fun i=>(cs.drop (i*m)).take m).flatten
 | 0,cs,h=>by
  have:cs=[]:=List.eq_nil_of_length_eq_zero (by omega)
  subst this;rfl
 | n+1,cs,h=>by
  have ih:=chunks (m:=m) n (cs.drop m) (by rw[List.length_drop,h,Nat.add_mul];omega)
  rw[List.range_succ_eq_map,List.map_cons,List.flatten_cons,List.map_map]
  have e:(List.range n).map ((fun i=>(cs.drop (i*m)).take m) ∘ Nat.succ)=(List.range n).map fun i=>((cs.drop m).drop (i*m)).take m:=by
   apply List.map_congr_left
   intro i _
   simp only[Function.comp,List.drop_drop]
   rw[show m+i*m=Nat.succ i*m by rw[Nat.succ_mul];omega]
  rw[e,<-ih]
  simp
theorem ft_rep{B:TypeId->Ty->Bool}{cs:List Value}(hB:∀(f:Field)(ty:Ty),B f.type ty=true->(∃r n,DataW.trod enc P w base sp held n f.type ((cs.drop f.offset).take (P.cellsOf f.type))=some r)->∃x:ty.den,rep (fun _=>True) w ty x ((cs.drop f.offset).take (P.cellsOf f.type))):
  ∀(fs:List Field)(off:Nat)(ty:Ty),ftB P B off fs ty=true->(∀f∈fs,∃r n,DataW.trod enc P w base sp held n f.type ((cs.drop f.offset).take (P.cellsOf f.type))=some r)->∃x:ty.den,rep (fun _=>True) w ty x ((cs.drop off).take ty.sz)
 | [],_,_,h,_=>by cases h
 | [f],off,ty,h,hf=>by
  simp only[ftB,Bool.and_eq_true] at h
  obtain⟨⟨h1,h2⟩,h3⟩:=h
  have e1:=Nat.eq_of_beq_eq_true h1
  have e3:=Nat.eq_of_beq_eq_true h3
  obtain⟨x,hx⟩:=hB f ty h2 (hf f (by simp))
  rw[e1,e3] at hx
  exact⟨x,hx⟩
 | f::g::fs,off,ty,h,hf=>by
  simp only[ftB] at h
  split at h
  ·rename_i a b
   simp only[Bool.and_eq_true] at h
   obtain⟨⟨⟨h1,h2⟩,h3⟩,h4⟩:=h
   have e1:=Nat.eq_of_beq_eq_true h1
   have e3:=Nat.eq_of_beq_eq_true h3
   obtain⟨x,hx⟩:=hB f a h2 (hf f (by simp))
   rw[e1,e3] at hx
   obtain⟨y,hy⟩:=ft_rep hB (g::fs) (off+a.sz) b h4 fun f' hf'=>hf f' (List.mem_cons_of_mem _ hf')
   refine⟨(x,y),_,_,?_,hx,hy⟩
   show (cs.drop off).take (a.sz+b.sz)=_
   rw[List.take_add,List.drop_drop]
  ·cases h
theorem trod_rep:∀(d:Nat)(t:TypeId)(ty:Ty)(fuel:Nat)(cs:List Value)(r:DataW H×List MemPlace),tyB P d t ty=true->DataW.trod enc P w base sp held fuel t cs=some r->∃x:ty.den,rep (fun _=>True) w ty x cs
 | 0,_,_,_,_,_,h,_=>by cases h
 | d+1,t,ty,fuel,cs,r,hty,h=>by
  unfold tyB at hty
  split at hty
  ·rename_i fs hu
   simp only[Bool.and_eq_true] at hty
   obtain⟨h1,h2⟩:=hty
   have htz:=Nat.eq_of_beq_eq_true h2
   obtain⟨xs,n,rfl,_,hl,hxl,hel⟩:=DataW.trod_struct hu h
   have:=ft_rep (enc:=enc) (P:=P) (w:=w) (base:=base) (sp:=sp) (held:=held) (B:=tyB P d) (cs:=cs) (fun f ty hf ⟨r,m,hr⟩=>trod_rep d f.type ty m _ r hf hr) fs.toList 0 ty h1 fun f hf=>by
    obtain⟨i,hi,rfl⟩:=List.getElem_of_mem hf
    have:=hel i (fs.toList[i]) (by rw[<-Array.getElem?_toList,List.getElem?_eq_getElem hi])
    rw[List.getElem?_eq_getElem (by rw[hxl];simpa using hi)] at this
    exact⟨_,n,this⟩
   obtain⟨x,hx⟩:=this
   rw[List.drop_zero,<-htz,<-hl,List.take_length] at hx
   exact⟨x,hx⟩
  ·skip
   split at hty
   ·rename_i k k' hu
    have:=eqK_eq hty;subst this
    obtain⟨n,rfl,_,hw⟩:=DataW.trod_int hu h
    simp only[Lit.wf,Bool.and_eq_true,decide_eq_true_eq] at hw
    exact⟨n,rfl,hw⟩
   ·rename_i hu
    obtain⟨b,rfl,_⟩:=DataW.trod_bool hu h
    exact⟨b,rfl⟩
   ·rename_i hu
    obtain⟨s,rfl,_,hs⟩:=DataW.trod_string hu h
    exact⟨s,rfl,hs⟩
   ·rename_i e x hu
    simp only[Bool.and_eq_true] at hty
    obtain⟨⟨h1,h2⟩,h3⟩:=hty
    have hsz:=Nat.eq_of_beq_eq_true h2
    have hpos:0<x.sz:=by simpa using h3
    rcases DataW.trod_slice hu h with ⟨rfl,_⟩|⟨a,len,cap,elems,rest,n,rfl,rfl,_,_,hl,hm,hlen,hel,_,_⟩
    ·exact⟨[],⟨none,0,0⟩,rfl,rfl,Nat.le_refl _,Nat.zero_le _,fun h=>absurd h (Nat.lt_irrefl _),[],rfl,fun i c y hc=>by simp at hc,by simp[Rd,ReadC]⟩
    ·obtain⟨css,ys,g1,g2,g3⟩:=pick (Q:=fun i (c:List Value) (y:x.den)=>w.cells? base (a.add (i*x.sz)) x.sz=some c/\rep (fun _=>True) w x y c) len fun i hi=>by
      have h4:=hel i hi
      rw[hsz,List.getElem?_eq_getElem (by omega),Option.bind_eq_some_iff] at h4
      obtain⟨c,hc,hy⟩:=h4
      obtain⟨y,hr⟩:=trod_rep d e x n c _ h1 hy
      exact⟨c,y,hc,hr⟩
     refine⟨ys,⟨some a,len,cap⟩,rfl,g2.symm,hl,Nat.le_trans hl hm,fun _ _ _=>trivial,css,by omega,fun i c y hc hy=>(g3 i c y hc hy).2,?_⟩
     have hlens:∀c∈css,c.length=x.sz:=rep_lens (by omega) fun i c y hc hy=>(g3 i c y hc hy).2
     have hfl:=flatten_len hlens
     refine⟨by rw[hfl,g1],?_⟩
     dsimp only
     by_cases h0:len=0
     ·subst h0
      have:css=[]:=List.eq_nil_of_length_eq_zero g1
      subst this
      unfold ReadC
      split
      ·exact⟨by simp,fun i v hv=>by simp at hv⟩
      ·exact⟨by simp,rfl⟩
      ·rfl
     ·have cell0:=(g3 0 _ _ (List.getElem?_eq_getElem (show 0<css.length by omega)) (List.getElem?_eq_getElem (show 0<ys.length by omega))).1
      rw[Nat.zero_mul] at cell0
      have hspot:=(cells_at cell0 hpos).1
      obtain⟨b,o,s⟩:=a
      have hs:s=none:=hspot
      subst hs
      refine⟨by rw[hfl,g1],cellsAt_flatten (m:=x.sz) (fun i c hc=>?_) hlens⟩
      have hi:i<css.length:=(List.getElem?_eq_some_iff.1 hc).1
      have:=(cells_at (g3 i c _ hc (List.getElem?_eq_getElem (show i<ys.length by omega))).1 hpos).2
      rw[addr_add] at this
      exact this
   ·rename_i n e m x hu
    simp only[Bool.and_eq_true] at hty
    obtain⟨⟨⟨h0,h1⟩,h2⟩,h3⟩:=hty
    have hnm:=Nat.eq_of_beq_eq_true h0
    have hsz:=Nat.eq_of_beq_eq_true h2
    have htz:=Nat.eq_of_beq_eq_true h3
    subst hnm
    obtain⟨xs,k,rfl,_,hl,hxl,hel⟩:=DataW.trod_array hu h
    rw[htz] at hl
    obtain⟨css,ys,g1,g2,g3⟩:=pick (Q:=fun i (c:List Value) (y:x.den)=>c=(cs.drop (i*x.sz)).take x.sz/\rep (fun _=>True) w x y c) n fun i hi=>by
     have h4:=hel i hi
     rw[hsz,List.getElem?_eq_getElem (by omega)] at h4
     obtain⟨y,hr⟩:=trod_rep d e x k _ _ h1 h4
     exact⟨_,y,rfl,hr⟩
    refine⟨ys,g2,css,by omega,fun i c y hc hy=>(g3 i c y hc hy).2,?_⟩
    have e1:css=(List.range n).map fun i=>(cs.drop (i*x.sz)).take x.sz:=by
     apply List.ext_getElem?
     intro i
     by_cases hi:i<n
     ·rw[List.getElem?_map,List.getElem?_range hi,List.getElem?_eq_getElem (by omega)]
      have:=(g3 i _ _ (List.getElem?_eq_getElem (show i<css.length by omega)) (List.getElem?_eq_getElem (show i<ys.length by omega))).1
      rw[this];rfl
     ·rw[List.getElem?_eq_none (by omega),List.getElem?_eq_none (by simp;omega)]
    rw[e1]
    exact chunks n cs hl
   ·cases hty
theorem open_arg{d:Nat}{t:TypeId}{ty:Ty}{v:Value}{x:DataW H}{ps:List MemPlace}(hty:tyB P d t ty=true)(h:DataW.Trod enc P w base sp held t v x ps):∃y:ty.den,rep (fun _=>True) w ty y v.cells.toList:=by
 obtain⟨fuel,h⟩:=h
 exact trod_rep d t ty fuel _ _ hty h
theorem trod_keep{t:TypeId}(hl:laidOutB P=true)(hr:P.readableRec t=true)(hrow:t<P.types.size){W W':World}{v:Value}{d:DataW H}{ps:List MemPlace}
  (h:DataW.Trod enc P W 0 (fun _=>true) true t v d ps)(hb:RowKit.Below W.heap.size W W')(hlt:∀x∈ps,x.block<W.heap.size){sp:Nat->Bool}(hsp:∀x∈ps,sp x.block=true):DataW.Trod enc P W' 0 sp true t v d ps:=
 WideElems.Trod_stays hl hr hrow h (fun x hx=>hb.same (hlt x hx)) hsp
theorem val_of_cells{r:Reach}{b0:Nat}{t:TypeId}{v:Value}{c:Value}(hval:Value.okWide P w r b0 t v)(hu:∀fs n e,P.underlying t≠some (.struct fs)/\P.underlying t≠some (.array n e))(h:v.cells.toList=[c]):v=c:=by
 cases v with
 | agg cs=>
  unfold Value.okWide at hval
  split at hval
  ·rename_i fs hs;exact absurd hs (hu fs 0 0).1
  ·rename_i n e hs;exact absurd hs (hu #[] n e).2
  ·unfold Cell.okWide at hval
   split at hval<;>first|contradiction|skip
   unfold Cell.ok at hval
   split at hval<;>first|contradiction|exact hval.elim
 | _=>simpa [Value.cells] using h
theorem val_agg{r:Reach}{b0:Nat}{t:TypeId}{v:Value}(hval:Value.okWide P w r b0 t v)(hu:(∃fs,P.underlying t=some (.struct fs))\/∃n e,P.underlying t=some (.array n e)):v=.agg v.cells:=by
 unfold Value.okWide at hval
 rcases hu with ⟨fs,hs⟩|⟨n,e,hs⟩
 ·rw[hs] at hval;obtain⟨cs,rfl,_⟩:=hval;rfl
 ·rw[hs] at hval;obtain⟨cs,rfl,_⟩:=hval;rfl
end
theorem cellLt{w:World}{a:Addr}{v:Value}(h:w.cell? a=some v):a.block<w.heap.size:=by
 unfold World.cell? at h
 split at h
 ·rename_i ho;exact heap_lt ho
 ·cases h
theorem rd_lt{w:World}{s:Sl}{sz:Nat}{cs:List Value}(h:Rd w s sz cs)(hz:0<sz)(h0:0<s.n):∀i∈blk s,i<w.heap.size:=by
 obtain⟨b,o,hp,hc⟩:=h.elem h0 hz rfl
 intro i hi
 simp[blk,hp] at hi
 subst hi
 have hl:((cs.drop (0*sz)).take sz).length=sz:=by
  rw[List.length_take,List.length_drop,h.1]
  have:1*sz<=s.n*sz:=Nat.mul_le_mul_right _ h0
  omega
 cases hq:(cs.drop (0*sz)).take sz with
 | nil=>rw[hq] at hl;simp at hl;omega
 | cons v l=>rw[hq] at hc;exact cellLt (hc 0 v rfl)
theorem slEq{s t:Sl}(h:[slV s]=[slV t]):s=t:=by
 obtain⟨p,n,c⟩:=s
 obtain⟨p',n',c'⟩:=t
 simp only[List.cons.injEq,Value.slice.injEq,and_true] at h
 obtain⟨rfl,rfl,rfl⟩:=h;rfl
theorem rep_blk_lt{A:Nat->Prop}{w:World}{e:Ty}{l:List e.den}{t:Sl}(h:rep A w (.sl e) l [slV t])(hz:0<e.sz)(h0:0<t.n):∀i∈blk t,i<w.heap.size:=by
 obtain⟨s,hs,hn,_⟩:=id h
 have:=slEq hs;subst this
 have h0':0<l.length:=by omega
 obtain⟨s,b,o,c,hs,_,hp,_,hc,hr⟩:=rep_get h hz (List.getElem?_eq_getElem h0')
 have:=slEq hs;subst this
 have hl:=rep_len hr
 intro i hi
 simp[blk,hp] at hi
 subst hi
 match c,hl,hc with
 | v::c,_,hc=>exact cellLt (hc 0 v rfl)
 | [],hl,_=>simp at hl;omega
theorem cell_stb{n:Nat}{w w':World}{a:Addr}{v:Value}(h:w.cell? a=some v)(hS:Stb n w w'):w'.cell? a=some v:=by
 unfold World.cell? at h ⊢
 split at h
 ·rename_i ho;rw[hS.keep _ _ ho rfl];exact h
 ·cases h
theorem rd_stb{n:Nat}{w w':World}{s:Sl}{sz:Nat}{cs:List Value}(h:Rd w s sz cs)(hS:Stb n w w'):Rd w' s sz cs:=by
 obtain⟨h1,h2⟩:=h
 refine⟨h1,?_⟩
 unfold ReadC at h2 ⊢
 split at h2
 ·exact⟨h2.1,fun i v hv=>cell_stb (h2.2 i v hv) hS⟩
 ·exact h2
 ·exact h2
abbrev tt3:TI:={ kd:=.int .i64,size:=1,bytes:=8,zero:=(.int .i64 0),sh:=.one (.int .i64) }
abbrev tt23:TI:={ kd:=.array 4 2,size:=4,bytes:=32,zero:=(.agg #[(.int .i64 0),(.int .i64 0),(.int .i64 0),(.int .i64 0)]),sh:=.agg [.int .i64,.int .i64,.int .i64,.int .i64] }
abbrev tt40:TI:={ kd:=.struct [(3,0),(2,1)],size:=2,bytes:=16,zero:=(.agg #[(.int .i64 0),(.int .i64 0)]),sh:=.agg [.int .i64,.int .i64] }
abbrev tt47:TI:={ kd:=.struct [(3,0),(4,1),(2,2)],size:=3,bytes:=24,zero:=(.agg #[(.int .i64 0),(.bool false),(.int .i64 0)]),sh:=.agg [.int .i64,.bool,.int .i64] }
abbrev tt71:TI:={ kd:=.struct [(3,0),(3,1)],size:=2,bytes:=16,zero:=(.agg #[(.int .i64 0),(.int .i64 0)]),sh:=.agg [.int .i64,.int .i64] }
abbrev tt94:TI:={ kd:=.slice 40,size:=1,bytes:=24,zero:=(.slice none 0 0),sh:=.one .sl }
abbrev lC27(x:Int×Int×Int×Int×Int×Int×Sl×Sl×Sl):List Value:=[.int .i64 x.1,.int .i64 x.2.1,.int .i64 x.2.2.1,.int .i64 x.2.2.2.1,.int .i64 x.2.2.2.2.1,.int .i64 x.2.2.2.2.2.1,.slice x.2.2.2.2.2.2.1.1 x.2.2.2.2.2.2.1.2 x.2.2.2.2.2.2.1.3,.slice x.2.2.2.2.2.2.2.1.1 x.2.2.2.2.2.2.2.1.2 x.2.2.2.2.2.2.2.1.3,.slice x.2.2.2.2.2.2.2.2.1 x.2.2.2.2.2.2.2.2.2 x.2.2.2.2.2.2.2.2.3] -- .int .i64, .int .i64, .int .i64, .int .i64, .int .i64, .int .i64, .sl, .sl, .sl
abbrev lC47(x:Int×Bool×Int):List Value:=[.int .i64 x.1,.bool x.2.1,.int .i64 x.2.2] -- .int .i64, .bool, .int .i64
abbrev lC66(x:Int×Int×Int×Int×Int×Int×Int×Int×Int):List Value:=[.int .i64 x.1,.int .i64 x.2.1,.int .i64 x.2.2.1,.int .i64 x.2.2.2.1,.int .i64 x.2.2.2.2.1,.int .i64 x.2.2.2.2.2.1,.int .i64 x.2.2.2.2.2.2.1,.int .i64 x.2.2.2.2.2.2.2.1,.int .i64 x.2.2.2.2.2.2.2.2] -- .int .i64, .int .i64, .int .i64, .int .i64, .int .i64, .int .i64, .int .i64, .int .i64, .int .i64
abbrev lC89(x:Int×Int×Int×Int×Bool):List Value:=[.int .i64 x.1,.int .i64 x.2.1,.int .i64 x.2.2.1,.int .i64 x.2.2.2.1,.bool x.2.2.2.2] -- .int .i64, .int .i64, .int .i64, .int .i64, .bool
def tbL:List (Nat×TI):=[
 (0,{ kd:=.other,size:=1,bytes:=0,zero:=(.tuple #[]),sh:=.tup [] }),
 (1,{ kd:=.func,size:=1,bytes:=8,zero:=.nilFunc,sh:=.one .clo }),
 (2,{ kd:=.int .i64,size:=1,bytes:=8,zero:=(.int .i64 0),sh:=.one (.int .i64) }),
 (3,{ kd:=.int .i64,size:=1,bytes:=8,zero:=(.int .i64 0),sh:=.one (.int .i64) }),
 (4,{ kd:=.bool,size:=1,bytes:=1,zero:=(.bool false),sh:=.one .bool }),
 (5,{ kd:=.int .u8,size:=1,bytes:=1,zero:=(.int .u8 0),sh:=.one (.int .u8) }),
 (9,{ kd:=.string,size:=1,bytes:=16,zero:=(.string ⟨#[]⟩),sh:=.one .str }),
 (20,{ kd:=.iface,size:=1,bytes:=16,zero:=.nilIface,sh:=.one .any }),
 (22,{ kd:=.int .i64,size:=1,bytes:=8,zero:=(.int .i64 0),sh:=.one (.int .i64) }),
 (23,{ kd:=.array 4 2,size:=4,bytes:=32,zero:=(.agg #[(.int .i64 0),(.int .i64 0),(.int .i64 0),(.int .i64 0)]),sh:=.agg [.int .i64,.int .i64,.int .i64,.int .i64] }),
 (24,{ kd:=.slice 71,size:=1,bytes:=24,zero:=(.slice none 0 0),sh:=.one .sl }),
 (25,{ kd:=.slice 47,size:=1,bytes:=24,zero:=(.slice none 0 0),sh:=.one .sl }),
 (27,{ kd:=.struct [(22,0),(3,1),(23,2),(24,6),(24,7),(25,8)],size:=9,bytes:=120,zero:=(.agg #[(.int .i64 0),(.int .i64 0),(.int .i64 0),(.int .i64 0),(.int .i64 0),(.int .i64 0),(.slice none 0 0),(.slice none 0 0),(.slice none 0 0)]),sh:=.agg [.int .i64,.int .i64,.int .i64,.int .i64,.int .i64,.int .i64,.sl,.sl,.sl] }),
 (29,{ kd:=.ptr,size:=1,bytes:=8,zero:=(.pointer none),sh:=.one .ptr }),
 (33,{ kd:=.slice 66,size:=1,bytes:=24,zero:=(.slice none 0 0),sh:=.one .sl }),
 (34,{ kd:=.slice 89,size:=1,bytes:=24,zero:=(.slice none 0 0),sh:=.one .sl }),
 (36,{ kd:=.struct [(33,0),(34,1)],size:=2,bytes:=48,zero:=(.agg #[(.slice none 0 0),(.slice none 0 0)]),sh:=.agg [.sl,.sl] }),
 (37,{ kd:=.slice 3,size:=1,bytes:=24,zero:=(.slice none 0 0),sh:=.one .sl }),
 (38,{ kd:=.slice 40,size:=1,bytes:=24,zero:=(.slice none 0 0),sh:=.one .sl }),
 (40,{ kd:=.struct [(3,0),(2,1)],size:=2,bytes:=16,zero:=(.agg #[(.int .i64 0),(.int .i64 0)]),sh:=.agg [.int .i64,.int .i64] }),
 (42,{ kd:=.ptr,size:=1,bytes:=8,zero:=(.pointer none),sh:=.one .ptr }),
 (47,{ kd:=.struct [(3,0),(4,1),(2,2)],size:=3,bytes:=24,zero:=(.agg #[(.int .i64 0),(.bool false),(.int .i64 0)]),sh:=.agg [.int .i64,.bool,.int .i64] }),
 (50,{ kd:=.ptr,size:=1,bytes:=8,zero:=(.pointer none),sh:=.one .ptr }),
 (60,{ kd:=.other,size:=1,bytes:=0,zero:=(.tuple #[(.int .i64 0),(.int .i64 0)]),sh:=.tup [.int .i64,.int .i64] }),
 (64,{ kd:=.struct [(3,0),(3,1)],size:=2,bytes:=16,zero:=(.agg #[(.int .i64 0),(.int .i64 0)]),sh:=.agg [.int .i64,.int .i64] }),
 (66,{ kd:=.struct [(3,0),(3,1),(3,2),(3,3),(64,4),(64,6),(2,8)],size:=9,bytes:=72,zero:=(.agg #[(.int .i64 0),(.int .i64 0),(.int .i64 0),(.int .i64 0),(.int .i64 0),(.int .i64 0),(.int .i64 0),(.int .i64 0),(.int .i64 0)]),sh:=.agg [.int .i64,.int .i64,.int .i64,.int .i64,.int .i64,.int .i64,.int .i64,.int .i64,.int .i64] }),
 (67,{ kd:=.slice 94,size:=1,bytes:=24,zero:=(.slice none 0 0),sh:=.one .sl }),
 (69,{ kd:=.struct [(67,0)],size:=1,bytes:=24,zero:=(.agg #[(.slice none 0 0)]),sh:=.agg [.sl] }),
 (71,{ kd:=.struct [(3,0),(3,1)],size:=2,bytes:=16,zero:=(.agg #[(.int .i64 0),(.int .i64 0)]),sh:=.agg [.int .i64,.int .i64] }),
 (72,{ kd:=.array 1000 4,size:=1000,bytes:=1000,zero:=(.agg (Array.replicate 1000 (.bool false))),sh:=.one .arr }),
 (73,{ kd:=.array 1000 4,size:=1000,bytes:=1000,zero:=(.agg (Array.replicate 1000 (.bool false))),sh:=.one .arr }),
 (74,{ kd:=.func,size:=1,bytes:=8,zero:=.nilFunc,sh:=.one .clo }),
 (77,{ kd:=.struct [(22,0)],size:=1,bytes:=8,zero:=(.agg #[(.int .i64 0)]),sh:=.agg [.int .i64] }),
 (78,{ kd:=.other,size:=1,bytes:=0,zero:=(.tuple #[(.agg #[(.int .i64 0)]),(.bool false)]),sh:=.tup [.ints .i64 1,.bool] }),
 (79,{ kd:=.ptr,size:=1,bytes:=8,zero:=(.pointer none),sh:=.one .ptr }),
 (80,{ kd:=.map 3 47,size:=1,bytes:=8,zero:=(.map none),sh:=.one .map }),
 (82,{ kd:=.struct [(37,0),(23,1),(42,5),(74,6),(24,7),(24,8),(80,9)],size:=10,bytes:=128,zero:=(.agg #[(.slice none 0 0),(.int .i64 0),(.int .i64 0),(.int .i64 0),(.int .i64 0),(.pointer none),.nilFunc,(.slice none 0 0),(.slice none 0 0),(.map none)]),sh:=.agg [.sl,.int .i64,.int .i64,.int .i64,.int .i64,.ptr,.clo,.sl,.sl,.map] }),
 (84,{ kd:=.func,size:=1,bytes:=8,zero:=.nilFunc,sh:=.one .clo }),
 (85,{ kd:=.array 9 84,size:=9,bytes:=72,zero:=(.agg #[.nilFunc,.nilFunc,.nilFunc,.nilFunc,.nilFunc,.nilFunc,.nilFunc,.nilFunc,.nilFunc]),sh:=.one .arr }),
 (89,{ kd:=.struct [(64,0),(64,2),(4,4)],size:=5,bytes:=40,zero:=(.agg #[(.int .i64 0),(.int .i64 0),(.int .i64 0),(.int .i64 0),(.bool false)]),sh:=.agg [.int .i64,.int .i64,.int .i64,.int .i64,.bool] }),
 (91,{ kd:=.func,size:=1,bytes:=8,zero:=.nilFunc,sh:=.one .clo }),
 (92,{ kd:=.other,size:=1,bytes:=0,zero:=(.tuple #[(.int .i64 0),(.int .i64 0),(.bool false)]),sh:=.tup [.int .i64,.int .i64,.bool] }),
 (94,{ kd:=.slice 40,size:=1,bytes:=24,zero:=(.slice none 0 0),sh:=.one .sl }),
 (99,{ kd:=.array 1000 2,size:=1000,bytes:=8000,zero:=(.agg (Array.replicate 1000 (.int .i64 0))),sh:=.one .arr }),
 (101,{ kd:=.struct [(72,0),(99,1000)],size:=2000,bytes:=9000,zero:=(.agg ⟨List.replicate 1000 (.bool false)++List.replicate 1000 (.int .i64 0)⟩),sh:=.one .arr }),
 (103,{ kd:=.other,size:=1,bytes:=0,zero:=(.tuple #[(.int .i64 0),(.bool false)]),sh:=.tup [.int .i64,.bool] }),
 (106,{ kd:=.func,size:=1,bytes:=8,zero:=.nilFunc,sh:=.one .clo }),
 (107,{ kd:=.func,size:=1,bytes:=8,zero:=.nilFunc,sh:=.one .clo }),
 (110,{ kd:=.func,size:=1,bytes:=8,zero:=.nilFunc,sh:=.one .clo }),
 (111,{ kd:=.func,size:=1,bytes:=8,zero:=.nilFunc,sh:=.one .clo }),
 (114,{ kd:=.other,size:=1,bytes:=0,zero:=(.tuple #[(.int .i64 0),(.bool false)]),sh:=.tup [.int .i64,.bool] }),
 (118,{ kd:=.other,size:=1,bytes:=0,zero:=(.tuple #[(.slice none 0 0),(.slice none 0 0),(.bool false)]),sh:=.tup [.sl,.sl,.bool] }),
 (122,{ kd:=.func,size:=1,bytes:=8,zero:=.nilFunc,sh:=.one .clo }),
 (123,{ kd:=.func,size:=1,bytes:=8,zero:=.nilFunc,sh:=.one .clo }),
 (125,{ kd:=.func,size:=1,bytes:=8,zero:=.nilFunc,sh:=.one .clo }),
 (128,{ kd:=.func,size:=1,bytes:=8,zero:=.nilFunc,sh:=.one .clo }),
 (133,{ kd:=.func,size:=1,bytes:=8,zero:=.nilFunc,sh:=.one .clo }),
 (136,{ kd:=.func,size:=1,bytes:=8,zero:=.nilFunc,sh:=.one .clo }),
 (137,{ kd:=.slice 24,size:=1,bytes:=24,zero:=(.slice none 0 0),sh:=.one .sl }),
 (141,{ kd:=.func,size:=1,bytes:=8,zero:=.nilFunc,sh:=.one .clo }),
 (146,{ kd:=.func,size:=1,bytes:=8,zero:=.nilFunc,sh:=.one .clo }),
 (148,{ kd:=.func,size:=1,bytes:=8,zero:=.nilFunc,sh:=.one .clo }),
 (162,{ kd:=.int .u64,size:=1,bytes:=8,zero:=(.int .u64 0),sh:=.one (.int .u64) }),
 (170,{ kd:=.other,size:=1,bytes:=0,zero:=(.tuple #[(.agg #[(.int .i64 0),(.int .i64 0),(.int .i64 0),(.int .i64 0),(.int .i64 0),(.int .i64 0),(.int .i64 0),(.int .i64 0),(.int .i64 0)]),(.bool false)]),sh:=.tup [.ints .i64 9,.bool] }),
 (172,{ kd:=.func,size:=1,bytes:=8,zero:=.nilFunc,sh:=.one .clo }),
 (174,{ kd:=.slice 64,size:=1,bytes:=24,zero:=(.slice none 0 0),sh:=.one .sl }),
 (177,{ kd:=.other,size:=1,bytes:=0,zero:=(.tuple #[(.agg #[(.int .i64 0),(.bool false),(.int .i64 0)]),(.bool false)]),sh:=.tup [.arr,.bool] }),
 (184,{ kd:=.int .i64,size:=1,bytes:=8,zero:=(.int .i64 0),sh:=.one (.int .i64) }),
 (185,{ kd:=.other,size:=1,bytes:=0,zero:=(.tuple #[(.int .i64 0),(.int .i64 0)]),sh:=.tup [.int .i64,.int .i64] }),
 (191,{ kd:=.int .u32,size:=1,bytes:=4,zero:=(.int .u32 0),sh:=.one (.int .u32) }),
 (193,{ kd:=.int .u64,size:=1,bytes:=8,zero:=(.int .u64 0),sh:=.one (.int .u64) }),
 (202,{ kd:=.int .u64,size:=1,bytes:=8,zero:=(.int .u64 0),sh:=.one (.int .u64) }),
 (206,{ kd:=.ptr,size:=1,bytes:=8,zero:=(.pointer none),sh:=.one .ptr }),
 (211,{ kd:=.ptr,size:=1,bytes:=8,zero:=(.pointer none),sh:=.one .ptr }),
 (212,{ kd:=.other,size:=1,bytes:=0,zero:=(.tuple #[(.int .i64 0),(.int .i64 0)]),sh:=.tup [.int .i64,.int .i64] })
 ]
def tb:Tab:=fun t=>lkT t tbL
theorem ti0:TI.Ok Tryz.prog 0 { kd:=.other,size:=1,bytes:=0,zero:=(.tuple #[]),sh:=.tup [] }:=⟨by kernel_rfl,by kernel_rfl,by rfl⟩
theorem ti1:TI.Ok Tryz.prog 1 { kd:=.func,size:=1,bytes:=8,zero:=.nilFunc,sh:=.one .clo }:=⟨by kernel_rfl,by kernel_rfl,by rfl⟩
theorem ti2:TI.Ok Tryz.prog 2 { kd:=.int .i64,size:=1,bytes:=8,zero:=(.int .i64 0),sh:=.one (.int .i64) }:=⟨by kernel_rfl,by kernel_rfl,by rfl⟩
theorem ti3:TI.Ok Tryz.prog 3 { kd:=.int .i64,size:=1,bytes:=8,zero:=(.int .i64 0),sh:=.one (.int .i64) }:=⟨by kernel_rfl,by kernel_rfl,by rfl⟩
theorem ti4:TI.Ok Tryz.prog 4 { kd:=.bool,size:=1,bytes:=1,zero:=(.bool false),sh:=.one .bool }:=⟨by kernel_rfl,by kernel_rfl,by rfl⟩
theorem ti5:TI.Ok Tryz.prog 5 { kd:=.int .u8,size:=1,bytes:=1,zero:=(.int .u8 0),sh:=.one (.int .u8) }:=⟨by kernel_rfl,by kernel_rfl,by rfl⟩
theorem ti9:TI.Ok Tryz.prog 9 { kd:=.string,size:=1,bytes:=16,zero:=(.string ⟨#[]⟩),sh:=.one .str }:=⟨by kernel_rfl,by kernel_rfl,by rfl⟩
theorem ti20:TI.Ok Tryz.prog 20 { kd:=.iface,size:=1,bytes:=16,zero:=.nilIface,sh:=.one .any }:=⟨by kernel_rfl,by kernel_rfl,by rfl⟩
theorem ti22:TI.Ok Tryz.prog 22 { kd:=.int .i64,size:=1,bytes:=8,zero:=(.int .i64 0),sh:=.one (.int .i64) }:=⟨by kernel_rfl,by kernel_rfl,by rfl⟩
theorem ti23:TI.Ok Tryz.prog 23 { kd:=.array 4 2,size:=4,bytes:=32,zero:=(.agg #[(.int .i64 0),(.int .i64 0),(.int .i64 0),(.int .i64 0)]),sh:=.agg [.int .i64,.int .i64,.int .i64,.int .i64] }:=⟨by kernel_rfl,by kernel_rfl,by rfl⟩
theorem ti24:TI.Ok Tryz.prog 24 { kd:=.slice 71,size:=1,bytes:=24,zero:=(.slice none 0 0),sh:=.one .sl }:=⟨by kernel_rfl,by kernel_rfl,by rfl⟩
theorem ti25:TI.Ok Tryz.prog 25 { kd:=.slice 47,size:=1,bytes:=24,zero:=(.slice none 0 0),sh:=.one .sl }:=⟨by kernel_rfl,by kernel_rfl,by rfl⟩
theorem ti27:TI.Ok Tryz.prog 27 { kd:=.struct [(22,0),(3,1),(23,2),(24,6),(24,7),(25,8)],size:=9,bytes:=120,zero:=(.agg #[(.int .i64 0),(.int .i64 0),(.int .i64 0),(.int .i64 0),(.int .i64 0),(.int .i64 0),(.slice none 0 0),(.slice none 0 0),(.slice none 0 0)]),sh:=.agg [.int .i64,.int .i64,.int .i64,.int .i64,.int .i64,.int .i64,.sl,.sl,.sl] }:=⟨by kernel_rfl,by kernel_rfl,by rfl⟩
theorem ti29:TI.Ok Tryz.prog 29 { kd:=.ptr,size:=1,bytes:=8,zero:=(.pointer none),sh:=.one .ptr }:=⟨by kernel_rfl,by kernel_rfl,by rfl⟩
theorem ti33:TI.Ok Tryz.prog 33 { kd:=.slice 66,size:=1,bytes:=24,zero:=(.slice none 0 0),sh:=.one .sl }:=⟨by kernel_rfl,by kernel_rfl,by rfl⟩
theorem ti34:TI.Ok Tryz.prog 34 { kd:=.slice 89,size:=1,bytes:=24,zero:=(.slice none 0 0),sh:=.one .sl }:=⟨by kernel_rfl,by kernel_rfl,by rfl⟩
theorem ti36:TI.Ok Tryz.prog 36 { kd:=.struct [(33,0),(34,1)],size:=2,bytes:=48,zero:=(.agg #[(.slice none 0 0),(.slice none 0 0)]),sh:=.agg [.sl,.sl] }:=⟨by kernel_rfl,by kernel_rfl,by rfl⟩
theorem ti37:TI.Ok Tryz.prog 37 { kd:=.slice 3,size:=1,bytes:=24,zero:=(.slice none 0 0),sh:=.one .sl }:=⟨by kernel_rfl,by kernel_rfl,by rfl⟩
theorem ti38:TI.Ok Tryz.prog 38 { kd:=.slice 40,size:=1,bytes:=24,zero:=(.slice none 0 0),sh:=.one .sl }:=⟨by kernel_rfl,by kernel_rfl,by rfl⟩
theorem ti40:TI.Ok Tryz.prog 40 { kd:=.struct [(3,0),(2,1)],size:=2,bytes:=16,zero:=(.agg #[(.int .i64 0),(.int .i64 0)]),sh:=.agg [.int .i64,.int .i64] }:=⟨by kernel_rfl,by kernel_rfl,by rfl⟩
theorem ti42:TI.Ok Tryz.prog 42 { kd:=.ptr,size:=1,bytes:=8,zero:=(.pointer none),sh:=.one .ptr }:=⟨by kernel_rfl,by kernel_rfl,by rfl⟩
theorem ti47:TI.Ok Tryz.prog 47 { kd:=.struct [(3,0),(4,1),(2,2)],size:=3,bytes:=24,zero:=(.agg #[(.int .i64 0),(.bool false),(.int .i64 0)]),sh:=.agg [.int .i64,.bool,.int .i64] }:=⟨by kernel_rfl,by kernel_rfl,by rfl⟩
theorem ti50:TI.Ok Tryz.prog 50 { kd:=.ptr,size:=1,bytes:=8,zero:=(.pointer none),sh:=.one .ptr }:=⟨by kernel_rfl,by kernel_rfl,by rfl⟩
theorem ti60:TI.Ok Tryz.prog 60 { kd:=.other,size:=1,bytes:=0,zero:=(.tuple #[(.int .i64 0),(.int .i64 0)]),sh:=.tup [.int .i64,.int .i64] }:=⟨by kernel_rfl,by kernel_rfl,by rfl⟩
theorem ti64:TI.Ok Tryz.prog 64 { kd:=.struct [(3,0),(3,1)],size:=2,bytes:=16,zero:=(.agg #[(.int .i64 0),(.int .i64 0)]),sh:=.agg [.int .i64,.int .i64] }:=⟨by kernel_rfl,by kernel_rfl,by rfl⟩
theorem ti66:TI.Ok Tryz.prog 66 { kd:=.struct [(3,0),(3,1),(3,2),(3,3),(64,4),(64,6),(2,8)],size:=9,bytes:=72,zero:=(.agg #[(.int .i64 0),(.int .i64 0),(.int .i64 0),(.int .i64 0),(.int .i64 0),(.int .i64 0),(.int .i64 0),(.int .i64 0),(.int .i64 0)]),sh:=.agg [.int .i64,.int .i64,.int .i64,.int .i64,.int .i64,.int .i64,.int .i64,.int .i64,.int .i64] }:=⟨by kernel_rfl,by kernel_rfl,by rfl⟩
theorem ti67:TI.Ok Tryz.prog 67 { kd:=.slice 94,size:=1,bytes:=24,zero:=(.slice none 0 0),sh:=.one .sl }:=⟨by kernel_rfl,by kernel_rfl,by rfl⟩
theorem ti69:TI.Ok Tryz.prog 69 { kd:=.struct [(67,0)],size:=1,bytes:=24,zero:=(.agg #[(.slice none 0 0)]),sh:=.agg [.sl] }:=⟨by kernel_rfl,by kernel_rfl,by rfl⟩
theorem ti71:TI.Ok Tryz.prog 71 { kd:=.struct [(3,0),(3,1)],size:=2,bytes:=16,zero:=(.agg #[(.int .i64 0),(.int .i64 0)]),sh:=.agg [.int .i64,.int .i64] }:=⟨by kernel_rfl,by kernel_rfl,by rfl⟩
theorem ti72:TI.Ok Tryz.prog 72 { kd:=.array 1000 4,size:=1000,bytes:=1000,zero:=(.agg (Array.replicate 1000 (.bool false))),sh:=.one .arr }:=⟨by kernel_rfl,by kernel_rfl,by simp[Value.cells]⟩
theorem ti73:TI.Ok Tryz.prog 73 { kd:=.array 1000 4,size:=1000,bytes:=1000,zero:=(.agg (Array.replicate 1000 (.bool false))),sh:=.one .arr }:=⟨by kernel_rfl,by kernel_rfl,by simp[Value.cells]⟩
theorem ti74:TI.Ok Tryz.prog 74 { kd:=.func,size:=1,bytes:=8,zero:=.nilFunc,sh:=.one .clo }:=⟨by kernel_rfl,by kernel_rfl,by rfl⟩
theorem ti77:TI.Ok Tryz.prog 77 { kd:=.struct [(22,0)],size:=1,bytes:=8,zero:=(.agg #[(.int .i64 0)]),sh:=.agg [.int .i64] }:=⟨by kernel_rfl,by kernel_rfl,by rfl⟩
theorem ti78:TI.Ok Tryz.prog 78 { kd:=.other,size:=1,bytes:=0,zero:=(.tuple #[(.agg #[(.int .i64 0)]),(.bool false)]),sh:=.tup [.ints .i64 1,.bool] }:=⟨by kernel_rfl,by kernel_rfl,by rfl⟩
theorem ti79:TI.Ok Tryz.prog 79 { kd:=.ptr,size:=1,bytes:=8,zero:=(.pointer none),sh:=.one .ptr }:=⟨by kernel_rfl,by kernel_rfl,by rfl⟩
theorem ti80:TI.Ok Tryz.prog 80 { kd:=.map 3 47,size:=1,bytes:=8,zero:=(.map none),sh:=.one .map }:=⟨by kernel_rfl,by kernel_rfl,by rfl⟩
theorem ti82:TI.Ok Tryz.prog 82 { kd:=.struct [(37,0),(23,1),(42,5),(74,6),(24,7),(24,8),(80,9)],size:=10,bytes:=128,zero:=(.agg #[(.slice none 0 0),(.int .i64 0),(.int .i64 0),(.int .i64 0),(.int .i64 0),(.pointer none),.nilFunc,(.slice none 0 0),(.slice none 0 0),(.map none)]),sh:=.agg [.sl,.int .i64,.int .i64,.int .i64,.int .i64,.ptr,.clo,.sl,.sl,.map] }:=⟨by kernel_rfl,by kernel_rfl,by rfl⟩
theorem ti84:TI.Ok Tryz.prog 84 { kd:=.func,size:=1,bytes:=8,zero:=.nilFunc,sh:=.one .clo }:=⟨by kernel_rfl,by kernel_rfl,by rfl⟩
theorem ti85:TI.Ok Tryz.prog 85 { kd:=.array 9 84,size:=9,bytes:=72,zero:=(.agg #[.nilFunc,.nilFunc,.nilFunc,.nilFunc,.nilFunc,.nilFunc,.nilFunc,.nilFunc,.nilFunc]),sh:=.one .arr }:=⟨by kernel_rfl,by kernel_rfl,by rfl⟩
theorem ti89:TI.Ok Tryz.prog 89 { kd:=.struct [(64,0),(64,2),(4,4)],size:=5,bytes:=40,zero:=(.agg #[(.int .i64 0),(.int .i64 0),(.int .i64 0),(.int .i64 0),(.bool false)]),sh:=.agg [.int .i64,.int .i64,.int .i64,.int .i64,.bool] }:=⟨by kernel_rfl,by kernel_rfl,by rfl⟩
theorem ti91:TI.Ok Tryz.prog 91 { kd:=.func,size:=1,bytes:=8,zero:=.nilFunc,sh:=.one .clo }:=⟨by kernel_rfl,by kernel_rfl,by rfl⟩
theorem ti92:TI.Ok Tryz.prog 92 { kd:=.other,size:=1,bytes:=0,zero:=(.tuple #[(.int .i64 0),(.int .i64 0),(.bool false)]),sh:=.tup [.int .i64,.int .i64,.bool] }:=⟨by kernel_rfl,by kernel_rfl,by rfl⟩
theorem ti94:TI.Ok Tryz.prog 94 { kd:=.slice 40,size:=1,bytes:=24,zero:=(.slice none 0 0),sh:=.one .sl }:=⟨by kernel_rfl,by kernel_rfl,by rfl⟩
theorem ti99:TI.Ok Tryz.prog 99 { kd:=.array 1000 2,size:=1000,bytes:=8000,zero:=(.agg (Array.replicate 1000 (.int .i64 0))),sh:=.one .arr }:=⟨by kernel_rfl,by kernel_rfl,by simp[Value.cells]⟩
theorem ti101:TI.Ok Tryz.prog 101 { kd:=.struct [(72,0),(99,1000)],size:=2000,bytes:=9000,zero:=(.agg ⟨List.replicate 1000 (.bool false)++List.replicate 1000 (.int .i64 0)⟩),sh:=.one .arr }:=⟨by kernel_rfl,by kernel_rfl,by rw[show ∀l:List Value,(Value.agg ⟨l⟩).cells.size=l.length from fun _=>rfl,List.length_append,List.length_replicate,List.length_replicate]⟩
theorem ti103:TI.Ok Tryz.prog 103 { kd:=.other,size:=1,bytes:=0,zero:=(.tuple #[(.int .i64 0),(.bool false)]),sh:=.tup [.int .i64,.bool] }:=⟨by kernel_rfl,by kernel_rfl,by rfl⟩
theorem ti106:TI.Ok Tryz.prog 106 { kd:=.func,size:=1,bytes:=8,zero:=.nilFunc,sh:=.one .clo }:=⟨by kernel_rfl,by kernel_rfl,by rfl⟩
theorem ti107:TI.Ok Tryz.prog 107 { kd:=.func,size:=1,bytes:=8,zero:=.nilFunc,sh:=.one .clo }:=⟨by kernel_rfl,by kernel_rfl,by rfl⟩
theorem ti110:TI.Ok Tryz.prog 110 { kd:=.func,size:=1,bytes:=8,zero:=.nilFunc,sh:=.one .clo }:=⟨by kernel_rfl,by kernel_rfl,by rfl⟩
theorem ti111:TI.Ok Tryz.prog 111 { kd:=.func,size:=1,bytes:=8,zero:=.nilFunc,sh:=.one .clo }:=⟨by kernel_rfl,by kernel_rfl,by rfl⟩
theorem ti114:TI.Ok Tryz.prog 114 { kd:=.other,size:=1,bytes:=0,zero:=(.tuple #[(.int .i64 0),(.bool false)]),sh:=.tup [.int .i64,.bool] }:=⟨by kernel_rfl,by kernel_rfl,by rfl⟩
theorem ti118:TI.Ok Tryz.prog 118 { kd:=.other,size:=1,bytes:=0,zero:=(.tuple #[(.slice none 0 0),(.slice none 0 0),(.bool false)]),sh:=.tup [.sl,.sl,.bool] }:=⟨by kernel_rfl,by kernel_rfl,by rfl⟩
theorem ti122:TI.Ok Tryz.prog 122 { kd:=.func,size:=1,bytes:=8,zero:=.nilFunc,sh:=.one .clo }:=⟨by kernel_rfl,by kernel_rfl,by rfl⟩
theorem ti123:TI.Ok Tryz.prog 123 { kd:=.func,size:=1,bytes:=8,zero:=.nilFunc,sh:=.one .clo }:=⟨by kernel_rfl,by kernel_rfl,by rfl⟩
theorem ti125:TI.Ok Tryz.prog 125 { kd:=.func,size:=1,bytes:=8,zero:=.nilFunc,sh:=.one .clo }:=⟨by kernel_rfl,by kernel_rfl,by rfl⟩
theorem ti128:TI.Ok Tryz.prog 128 { kd:=.func,size:=1,bytes:=8,zero:=.nilFunc,sh:=.one .clo }:=⟨by kernel_rfl,by kernel_rfl,by rfl⟩
theorem ti133:TI.Ok Tryz.prog 133 { kd:=.func,size:=1,bytes:=8,zero:=.nilFunc,sh:=.one .clo }:=⟨by kernel_rfl,by kernel_rfl,by rfl⟩
theorem ti136:TI.Ok Tryz.prog 136 { kd:=.func,size:=1,bytes:=8,zero:=.nilFunc,sh:=.one .clo }:=⟨by kernel_rfl,by kernel_rfl,by rfl⟩
theorem ti137:TI.Ok Tryz.prog 137 { kd:=.slice 24,size:=1,bytes:=24,zero:=(.slice none 0 0),sh:=.one .sl }:=⟨by kernel_rfl,by kernel_rfl,by rfl⟩
theorem ti141:TI.Ok Tryz.prog 141 { kd:=.func,size:=1,bytes:=8,zero:=.nilFunc,sh:=.one .clo }:=⟨by kernel_rfl,by kernel_rfl,by rfl⟩
theorem ti146:TI.Ok Tryz.prog 146 { kd:=.func,size:=1,bytes:=8,zero:=.nilFunc,sh:=.one .clo }:=⟨by kernel_rfl,by kernel_rfl,by rfl⟩
theorem ti148:TI.Ok Tryz.prog 148 { kd:=.func,size:=1,bytes:=8,zero:=.nilFunc,sh:=.one .clo }:=⟨by kernel_rfl,by kernel_rfl,by rfl⟩
theorem ti162:TI.Ok Tryz.prog 162 { kd:=.int .u64,size:=1,bytes:=8,zero:=(.int .u64 0),sh:=.one (.int .u64) }:=⟨by kernel_rfl,by kernel_rfl,by rfl⟩
theorem ti170:TI.Ok Tryz.prog 170 { kd:=.other,size:=1,bytes:=0,zero:=(.tuple #[(.agg #[(.int .i64 0),(.int .i64 0),(.int .i64 0),(.int .i64 0),(.int .i64 0),(.int .i64 0),(.int .i64 0),(.int .i64 0),(.int .i64 0)]),(.bool false)]),sh:=.tup [.ints .i64 9,.bool] }:=⟨by kernel_rfl,by kernel_rfl,by rfl⟩
theorem ti172:TI.Ok Tryz.prog 172 { kd:=.func,size:=1,bytes:=8,zero:=.nilFunc,sh:=.one .clo }:=⟨by kernel_rfl,by kernel_rfl,by rfl⟩
theorem ti174:TI.Ok Tryz.prog 174 { kd:=.slice 64,size:=1,bytes:=24,zero:=(.slice none 0 0),sh:=.one .sl }:=⟨by kernel_rfl,by kernel_rfl,by rfl⟩
theorem ti177:TI.Ok Tryz.prog 177 { kd:=.other,size:=1,bytes:=0,zero:=(.tuple #[(.agg #[(.int .i64 0),(.bool false),(.int .i64 0)]),(.bool false)]),sh:=.tup [.arr,.bool] }:=⟨by kernel_rfl,by kernel_rfl,by rfl⟩
theorem ti184:TI.Ok Tryz.prog 184 { kd:=.int .i64,size:=1,bytes:=8,zero:=(.int .i64 0),sh:=.one (.int .i64) }:=⟨by kernel_rfl,by kernel_rfl,by rfl⟩
theorem ti185:TI.Ok Tryz.prog 185 { kd:=.other,size:=1,bytes:=0,zero:=(.tuple #[(.int .i64 0),(.int .i64 0)]),sh:=.tup [.int .i64,.int .i64] }:=⟨by kernel_rfl,by kernel_rfl,by rfl⟩
theorem ti191:TI.Ok Tryz.prog 191 { kd:=.int .u32,size:=1,bytes:=4,zero:=(.int .u32 0),sh:=.one (.int .u32) }:=⟨by kernel_rfl,by kernel_rfl,by rfl⟩
theorem ti193:TI.Ok Tryz.prog 193 { kd:=.int .u64,size:=1,bytes:=8,zero:=(.int .u64 0),sh:=.one (.int .u64) }:=⟨by kernel_rfl,by kernel_rfl,by rfl⟩
theorem ti202:TI.Ok Tryz.prog 202 { kd:=.int .u64,size:=1,bytes:=8,zero:=(.int .u64 0),sh:=.one (.int .u64) }:=⟨by kernel_rfl,by kernel_rfl,by rfl⟩
theorem ti206:TI.Ok Tryz.prog 206 { kd:=.ptr,size:=1,bytes:=8,zero:=(.pointer none),sh:=.one .ptr }:=⟨by kernel_rfl,by kernel_rfl,by rfl⟩
theorem ti211:TI.Ok Tryz.prog 211 { kd:=.ptr,size:=1,bytes:=8,zero:=(.pointer none),sh:=.one .ptr }:=⟨by kernel_rfl,by kernel_rfl,by rfl⟩
theorem ti212:TI.Ok Tryz.prog 212 { kd:=.other,size:=1,bytes:=0,zero:=(.tuple #[(.int .i64 0),(.int .i64 0)]),sh:=.tup [.int .i64,.int .i64] }:=⟨by kernel_rfl,by kernel_rfl,by rfl⟩
theorem lkT_mem{t:Nat}{i:TI}:∀ {l:List (Nat×TI)},lkT t l=some i->(t,i)∈l
 | [],h=>by cases h
 | q::l,h=>by
  unfold lkT at h
  split at h
  ·rename_i e
   have:=Nat.eq_of_beq_eq_true e
   subst this
   cases h
   exact List.mem_cons_self ..
  ·exact List.mem_cons_of_mem _ (lkT_mem h)
theorem tbOk:tb.Ok Tryz.prog:=by
 intro t i h
 have h:=lkT_mem h
 simp only[tbL,List.mem_cons,List.not_mem_nil,or_false,Prod.mk.injEq] at h
 rcases h with ⟨rfl,rfl⟩|⟨rfl,rfl⟩|⟨rfl,rfl⟩|⟨rfl,rfl⟩|⟨rfl,rfl⟩|⟨rfl,rfl⟩|⟨rfl,rfl⟩|⟨rfl,rfl⟩|⟨rfl,rfl⟩|⟨rfl,rfl⟩|⟨rfl,rfl⟩|⟨rfl,rfl⟩|⟨rfl,rfl⟩|⟨rfl,rfl⟩|⟨rfl,rfl⟩|⟨rfl,rfl⟩|⟨rfl,rfl⟩|⟨rfl,rfl⟩|⟨rfl,rfl⟩|⟨rfl,rfl⟩|⟨rfl,rfl⟩|⟨rfl,rfl⟩|⟨rfl,rfl⟩|⟨rfl,rfl⟩|⟨rfl,rfl⟩|⟨rfl,rfl⟩|⟨rfl,rfl⟩|⟨rfl,rfl⟩|⟨rfl,rfl⟩|⟨rfl,rfl⟩|⟨rfl,rfl⟩|⟨rfl,rfl⟩|⟨rfl,rfl⟩|⟨rfl,rfl⟩|⟨rfl,rfl⟩|⟨rfl,rfl⟩|⟨rfl,rfl⟩|⟨rfl,rfl⟩|⟨rfl,rfl⟩|⟨rfl,rfl⟩|⟨rfl,rfl⟩|⟨rfl,rfl⟩|⟨rfl,rfl⟩|⟨rfl,rfl⟩|⟨rfl,rfl⟩|⟨rfl,rfl⟩|⟨rfl,rfl⟩|⟨rfl,rfl⟩|⟨rfl,rfl⟩|⟨rfl,rfl⟩|⟨rfl,rfl⟩|⟨rfl,rfl⟩|⟨rfl,rfl⟩|⟨rfl,rfl⟩|⟨rfl,rfl⟩|⟨rfl,rfl⟩|⟨rfl,rfl⟩|⟨rfl,rfl⟩|⟨rfl,rfl⟩|⟨rfl,rfl⟩|⟨rfl,rfl⟩|⟨rfl,rfl⟩|⟨rfl,rfl⟩|⟨rfl,rfl⟩|⟨rfl,rfl⟩|⟨rfl,rfl⟩|⟨rfl,rfl⟩|⟨rfl,rfl⟩|⟨rfl,rfl⟩|⟨rfl,rfl⟩|⟨rfl,rfl⟩|⟨rfl,rfl⟩|⟨rfl,rfl⟩|⟨rfl,rfl⟩|⟨rfl,rfl⟩
 ·exact ti0
 ·exact ti1
 ·exact ti2
 ·exact ti3
 ·exact ti4
 ·exact ti5
 ·exact ti9
 ·exact ti20
 ·exact ti22
 ·exact ti23
 ·exact ti24
 ·exact ti25
 ·exact ti27
 ·exact ti29
 ·exact ti33
 ·exact ti34
 ·exact ti36
 ·exact ti37
 ·exact ti38
 ·exact ti40
 ·exact ti42
 ·exact ti47
 ·exact ti50
 ·exact ti60
 ·exact ti64
 ·exact ti66
 ·exact ti67
 ·exact ti69
 ·exact ti71
 ·exact ti72
 ·exact ti73
 ·exact ti74
 ·exact ti77
 ·exact ti78
 ·exact ti79
 ·exact ti80
 ·exact ti82
 ·exact ti84
 ·exact ti85
 ·exact ti89
 ·exact ti91
 ·exact ti92
 ·exact ti94
 ·exact ti99
 ·exact ti101
 ·exact ti103
 ·exact ti106
 ·exact ti107
 ·exact ti110
 ·exact ti111
 ·exact ti114
 ·exact ti118
 ·exact ti122
 ·exact ti123
 ·exact ti125
 ·exact ti128
 ·exact ti133
 ·exact ti136
 ·exact ti137
 ·exact ti141
 ·exact ti146
 ·exact ti148
 ·exact ti162
 ·exact ti170
 ·exact ti172
 ·exact ti174
 ·exact ti177
 ·exact ti184
 ·exact ti185
 ·exact ti191
 ·exact ti193
 ·exact ti202
 ·exact ti206
 ·exact ti211
 ·exact ti212
theorem mixed:Tryz.prog.follows .mixedOrders=true:=by kernel_rfl
abbrev Cw(f:FuncId)(a:Array Value)(w:World)(R:RV):Prop:=CW Tryz.prog f a w R
abbrev Cx(f:FuncId)(a:Array Value)(w:World)(R:RV):Prop:=CX Tryz.prog f a w R
def ckB(fn:Func)(an:An)(n:Nat):Bool:=match fn.body with
 | some c=>okC tb fn.ntmps c an&&n.ble fn.ntmps && !(fn.name == "runtime.NumGoroutine")
 | none=>false
def ckE(fn:Func)(an:An)(a:Array Value)(R:RV)(w:World):Prop:=match fn.body with
 | some c=>ex Tryz.prog tb fn.ntmps none c an (retQ tb fn.results.toList R) (argFr 0 a.toList) [] w
 | none=>False
theorem ckF{α:Prop}{f:FuncId}{fn:Func}{a:Array Value}{w:World}{R:RV}(hf:Tryz.prog.funcs[f]? =some fn)(an:An)(h:α)(hb:ckB fn an a.size=true)(e:α=ckE fn an a R w):Cw f a w R:=by
 have h:=e.mp h
 cases hc:fn.body with
 | none=>simp only[ckB,hc] at hb;cases hb
 | some c=>
  simp only[ckB,hc,Bool.and_eq_true,Bool.not_eq_true'] at hb
  simp only[ckE,hc] at h
  exact call_of tbOk mixed (entr_of hf (by rw[hc];rfl) hb.2) hf hc an hb.1.1 (Nat.le_of_ble_eq_true hb.1.2) h
abbrev Qu'(k:FuncId)(a:Array Value)(w:World)(K:Sl->World->Prop):Prop:=Qu Tryz.prog k a w K
abbrev Qv'(k:FuncId)(a:Array Value)(w:World)(K:Bool->World->Prop):Prop:=Qv Tryz.prog k a w K
abbrev Qw'(k:FuncId)(a:Array Value)(w:World)(K:Int->World->Prop):Prop:=Qw Tryz.prog k a w K
theorem en8:Entr Tryz.prog 8:=entr_of Tryz.func8 (by kernel_rfl) (by kernel_rfl)
theorem en14:Entr Tryz.prog 14:=entr_of Tryz.func14 (by kernel_rfl) (by kernel_rfl)
theorem en29:Entr Tryz.prog 29:=entr_of Tryz.func29 (by kernel_rfl) (by kernel_rfl)
theorem en32:Entr Tryz.prog 32:=entr_of Tryz.func32 (by kernel_rfl) (by kernel_rfl)
theorem en56:Entr Tryz.prog 56:=entr_of Tryz.func56 (by kernel_rfl) (by kernel_rfl)
theorem en57:Entr Tryz.prog 57:=entr_of Tryz.func57 (by kernel_rfl) (by kernel_rfl)
theorem en58:Entr Tryz.prog 58:=entr_of Tryz.func58 (by kernel_rfl) (by kernel_rfl)
theorem en59:Entr Tryz.prog 59:=entr_of Tryz.func59 (by kernel_rfl) (by kernel_rfl)
theorem en61:Entr Tryz.prog 61:=entr_of Tryz.func61 (by kernel_rfl) (by kernel_rfl)
theorem en62:Entr Tryz.prog 62:=entr_of Tryz.func62 (by kernel_rfl) (by kernel_rfl)
theorem en63:Entr Tryz.prog 63:=entr_of Tryz.func63 (by kernel_rfl) (by kernel_rfl)
theorem en77:Entr Tryz.prog 77:=entr_of Tryz.func77 (by kernel_rfl) (by kernel_rfl)
theorem en81:Entr Tryz.prog 81:=entr_of Tryz.func81 (by kernel_rfl) (by kernel_rfl)
theorem en104:Entr Tryz.prog 104:=entr_of Tryz.func104 (by kernel_rfl) (by kernel_rfl)
theorem en107:Entr Tryz.prog 107:=entr_of Tryz.func107 (by kernel_rfl) (by kernel_rfl)
theorem en110:Entr Tryz.prog 110:=entr_of Tryz.func110 (by kernel_rfl) (by kernel_rfl)
theorem en113:Entr Tryz.prog 113:=entr_of Tryz.func113 (by kernel_rfl) (by kernel_rfl)
set_option maxRecDepth 100000
theorem F49_ok(t0:Sl)(t1:Sl)(w:World)(R:RV)(h:AllocP w (Obj.cells #[Qy t0] 24) fun b1 w2=>AllocP w2 (Obj.cells #[Qy t1] 24) fun b3 w4=>R (Value.func (Fn.func 81) #[] #[Value.pointer (some ⟨b1,0,none⟩),Value.pointer (some ⟨b3,0,none⟩)]) w4):Cw 49 #[Qy t0,Qy t1] w R:=
 ckF Tryz.func49 .nil h (by kernel_rfl) (by kernel_rfl)
def F81j2(t0:Nat)(R:RV)(y2:Nat->Int->World->Prop)(b4:Nat)(n5:Int)(b12:Nat)(s15:Sl)(y16:Nat->Int->World->Prop)(b18:Nat)(n19:Int)(w20:World):Prop:=IfB (decide (n19<(s15.n:Int))) (Qx s15.1 n19 (s15.2:Int) fun b23 b24=>∃(x25:Int×Int),CellsAt w20 b23 (b24+n19.toNat*2) [Qz x25.1,Qz x25.2]/\AllocP w20 (Obj.cells #[Qz 0,Qz 0] 71) fun b26 w27=>#[Qz x25.1,Qz x25.2].size=2/\StoreP w27 b26 0 [Qz x25.1,Qz x25.2] fun w28=>Qi w28 b12 (0+0) fun n29=>Qi w28 b26 (0+0) fun n30=>Qi w28 b12 (0+1) fun n31=>Qi w28 b26 (0+1) fun n32=>AllocP w28 (Obj.cells #[Qz 0,Qz 0] 71) fun b33 w34=>#[Qz (if n29<n30 then n30 else n29),Qz (if n32<n31 then n32 else n31)].size=2/\StoreP w34 b33 0 [Qz (if n29<n30 then n30 else n29),Qz (if n32<n31 then n32 else n31)] fun w35=>Qi w35 b33 (0+0) fun n36=>Qi w35 b33 (0+1) fun n37=>IfB (decide (n36<=n37)) (∃(x38:Int×Int),CellsAt w35 b33 0 [Qz x38.1,Qz x38.2]/\YW Tryz.prog t0 #[Value.agg #[Qz x38.1,Qz x38.2]] w35 fun(t39:Bool) (w40:World)=>IfB (!t39) (R (Value.tuple #[]) w40) (([]:List Df)=[]/\∃b41:Nat,b41<b18/\y16 b41 (IntKind.i64.wrap (n19+1)) w40)) (([]:List Df)=[]/\∃b42:Nat,b42<b18/\y16 b42 (IntKind.i64.wrap (n19+1)) w35)) (([]:List Df)=[]/\∃b43:Nat,b43<b4/\y2 b43 (IntKind.i64.wrap (n5+1)) w20)
def F81j1(t0:Nat)(t2:Nat)(R:RV)(s1:Sl)(y2:Nat->Int->World->Prop)(b4:Nat)(n5:Int)(w6:World):Prop:=IfB (decide (n5<(s1.n:Int))) (Qx s1.1 n5 (s1.2:Int) fun b9 b10=>∃(x11:Int×Int),CellsAt w6 b9 (b10+n5.toNat*2) [Qz x11.1,Qz x11.2]/\AllocP w6 (Obj.cells #[Qz 0,Qz 0] 71) fun b12 w13=>#[Qz x11.1,Qz x11.2].size=2/\StoreP w13 b12 0 [Qz x11.1,Qz x11.2] fun w14=>∃s15:Sl,w14.cell? ⟨t2,0,none⟩=some (Qy s15)/\Ql (α:=Int) 0 w14 fun y16 b18 n19 w20=>(F81j2 t0 R y2 b4 n5 b12 s15 y16 b18 n19 w20)) (R (Value.tuple #[]) w6)
theorem F81_ok(t0:Nat)(t1:Nat)(t2:Nat)(w:World)(R:RV)(h:∃s1:Sl,w.cell? ⟨t1,0,none⟩=some (Qy s1)/\Ql (α:=Int) 0 w fun y2 b4 n5 w6=>(F81j1 t0 t2 R s1 y2 b4 n5 w6)):Cw 81 #[Value.func (Fn.yield t0) #[] #[],Value.pointer (some ⟨t1,0,none⟩),Value.pointer (some ⟨t2,0,none⟩)] w R:=
 ckF Tryz.func81 (nd (.loop [(11,oi)] (rg [5,5,7,8,11,44]) (nd (nd (.node (nd (nd (.loop [(17,oi)] (rg [7,8,17,43]) .nil))) .nil))))) h (by kernel_rfl) (by kernel_rfl)
def F50k1(w22:World)(b20:Nat)(x13:Sl×Int)(b12:Nat)(y10:Nat->Sl×Int->World->Prop):Prop:=∃(x42:Int×Int),CellsAt w22.drew b20 0 [Qz x42.1,Qz x42.2]/\1*2<=16777216/\AllocP w22.drew (Obj.cells #[Qz x42.1,Qz x42.2] 71) fun b43 w44=>∃(l45:List Value),ReadC w44 (some ⟨b43,0,none⟩) (1*2) l45/\AppendP tt71 71 w44 x13.fst.1 x13.fst.2 x13.fst.3 1 l45 fun s46 w47=>([]:List Df)=[]/\∃b48:Nat,b48<b12/\y10 b48 ({ p:=s46.1,n:=s46.2,c:=s46.3 },IntKind.i64.wrap (x13.2+1)) w47
def F50j1(R:RV)(s6:Sl)(y10:Nat->Sl×Int->World->Prop)(b12:Nat)(x13:Sl×Int)(w14:World):Prop:=IfB (decide (x13.snd<(s6.n:Int))) (Qx s6.1 x13.2 (s6.2:Int) fun b17 b18=>∃(x19:Int×Int),CellsAt w14 b17 (b18+x13.2.toNat*2) [Qz x19.1,Qz x19.2]/\AllocP w14 (Obj.cells #[Qz 0,Qz 0] 71) fun b20 w21=>#[Qz x19.1,Qz x19.2].size=2/\StoreP w21 b20 0 [Qz x19.1,Qz x19.2] fun w22=>IfB (decide (0<(x13.fst.n:Int))) (Qi w22.drew b20 (0+0) fun n23=>Qx x13.fst.1 (IntKind.i64.wrap ((x13.fst.2:Int)-1)) (x13.fst.2:Int) fun b24 b25=>Qi w22.drew b24 (b25+(IntKind.i64.wrap ((x13.fst.2:Int)-1)).toNat*2+1) fun n26=>IfB (decide (n23<=IntKind.i64.wrap (n26+1))) (Qx x13.fst.1 (IntKind.i64.wrap ((x13.fst.2:Int)-1)) (x13.fst.2:Int) fun b27 b28=>∃n29:Int,w22.drew.drew.cell? ⟨b27,b28+(IntKind.i64.wrap ((x13.fst.2:Int)-1)).toNat*2+1,none⟩=some (Qz n29)/\∃n30:Int,w22.drew.drew.cell? ⟨b20,0+1,none⟩=some (Qz n30)/\Qx x13.fst.1 (IntKind.i64.wrap ((x13.fst.2:Int)-1)) (x13.fst.2:Int) fun b31 b32=>#[Qz (if n29<n30 then n30 else n29)].size=1/\StoreP w22.drew.drew b31 (b32+(IntKind.i64.wrap ((x13.fst.2:Int)-1)).toNat*2+1) [Qz (if n29<n30 then n30 else n29)] fun w33=>([]:List Df)=[]/\∃b34:Nat,b34<b12/\y10 b34 ({ p:=x13.fst.1,n:=x13.fst.2,c:=x13.fst.3 },IntKind.i64.wrap (x13.2+1)) w33) (F50k1 w22 b20 x13 b12 y10)) (F50k1 w22 b20 x13 b12 y10)) (R (Qy x13.fst) w14)
theorem F50_ok(t0:Sl)(w:World)(R:RV)(h:Cx 83 #[Qy t0] w fun v1 w2=>∃s3:Sl,v1=Qy s3/\Qu' 82 #[Qy s3,Value.func (Fn.func 84) #[] #[]] w2 fun s6 w5=>Cx 86 #[Qy s6,Value.func (Fn.func 87) #[] #[]] w5 fun v7 w8=>∃y9:Unit,v7=Value.tuple #[]/\Ql (α:=Sl×Int) ({ p:=none,n:=0,c:=0 },0) w8 fun y10 b12 x13 w14=>(F50j1 R s6 y10 b12 x13 w14)):Cw 50 #[Qy t0] w R:=
 ckF Tryz.func50 (nd (nd (nd (nd (.node (nd (.loop [(4,.one (.sl)),(15,oi)] (rg [4,4,6,7,15,53]) (nd (nd (.node (nd (nd (.node (.node (.draw (sts [0,1,2,3,4,5,6,7,8,9,10,11,12,13] .fin)) (.node (.node (.draw (sts [0,1,2,3,4,5,6,7,8,9,10,11,12,13] (.ac 14 [] .fin .non))) .nil) .nil)) .nil))) .nil))))) .nil))))) h (by kernel_rfl) (by kernel_rfl)
theorem F84_ok(t0:Int×Int)(w:World)(R:RV)(h:AllocP w (Obj.cells #[Qz t0.1,Qz t0.2] 71) fun b1 w2=>∃(x3:Int×Int),CellsAt w2 b1 0 [Qz x3.1,Qz x3.2]/\Qv' 85 #[Value.agg #[Qz x3.1,Qz x3.2]] w2 fun t6 w5=>R (Value.bool !t6) w5):Cw 84 #[Value.agg #[Qz t0.1,Qz t0.2]] w R:=
 ckF Tryz.func84 .nil h (by kernel_rfl) (by kernel_rfl)
theorem F87_ok(t0:Int×Int)(t1:Int×Int)(w:World)(R:RV)(h:AllocP w (Obj.cells #[Qz t0.1,Qz t0.2] 71) fun b1 w2=>AllocP w2 (Obj.cells #[Qz t1.1,Qz t1.2] 71) fun b3 w4=>Qi w4 b1 (0+0) fun n5=>Qi w4 b3 (0+0) fun n6=>Qw' 88 #[Qz n5,Qz n6] w4 fun n9 w8=>R (Qz n9) w8):Cw 87 #[Value.agg #[Qz t0.1,Qz t0.2],Value.agg #[Qz t1.1,Qz t1.2]] w R:=
 ckF Tryz.func87 .nil h (by kernel_rfl) (by kernel_rfl)
theorem F85_ok(t0:Int×Int)(w:World)(R:RV)(h:AllocP w (Obj.cells #[Qz t0.1,Qz t0.2] 71) fun b1 w2=>Qi w2 b1 (0+0) fun n3=>IfB (decide (0<=n3)) (Qi w2 b1 (0+0) fun n4=>Qi w2 b1 (0+1) fun n5=>IfB (decide (n4<=n5)) (Qi w2 b1 (0+1) fun n6=>R (Value.bool (decide (n6<=999))) w2) (R (Value.bool false) w2)) (R (Value.bool false) w2)):Cw 85 #[Value.agg #[Qz t0.1,Qz t0.2]] w R:=
 ckF Tryz.func85 .nil h (by kernel_rfl) (by kernel_rfl)
def F83j2(t0:Sl)(R:RV)(y15:Nat->Sl×Int->World->Prop)(b17:Nat)(x18:Sl×Int)(w19:World):Prop:=IfB (decide (x18.snd<(t0.n:Int))) (Qx t0.1 x18.2 (t0.2:Int) fun b22 b23=>Qs w19 b22 (b23+x18.2.toNat) fun s24=>∃(l25:List Value),ReadC w19 s24.1 (s24.2*2) l25/\AppendP tt71 71 w19 x18.fst.1 x18.fst.2 x18.fst.3 s24.2 l25 fun s26 w27=>([]:List Df)=[]/\∃b28:Nat,b28<b17/\y15 b28 ({ p:=s26.1,n:=s26.2,c:=s26.3 },IntKind.i64.wrap (x18.2+1)) w27) (R (Qy x18.fst) w19)
def F83j1(t0:Sl)(R:RV)(y1:Nat->Int×Int->World->Prop)(b3:Nat)(x4:Int×Int)(w5:World):Prop:=IfB (decide (x4.snd<(t0.n:Int))) (Qx t0.1 x4.2 (t0.2:Int) fun b8 b9=>Qs w5 b8 (b9+x4.2.toNat) fun s10=>IfB (decide (IntKind.i64.wrap (x4.fst+(s10.n:Int))<0)) False (([]:List Df)=[]/\∃b11:Nat,b11<b3/\y1 b11 (IntKind.i64.wrap (x4.1+(s10.2:Int)),IntKind.i64.wrap (x4.2+1)) w5)) (Qu' 120 #[Value.slice none 0 0,Qz x4.1] w5 fun s14 w13=>Ql (α:=Sl×Int) ({ p:=s14.1,n:=s14.2,c:=s14.3 },0) w13 fun y15 b17 x18 w19=>(F83j2 t0 R y15 b17 x18 w19))
theorem F83_ok(t0:Sl)(w:World)(R:RV)(h:Ql (α:=Int×Int) (0,0) w fun y1 b3 x4 w5=>(F83j1 t0 R y1 b3 x4 w5)):Cw 83 #[Qy t0] w R:=
 ckF Tryz.func83 (nd (nd (.node (nd (.loop [(3,oi),(11,oi)] (rg [3,3,5,5,11,22]) .nil)) (nd (.node (nd (.loop [(6,.one (.sl)),(27,oi)] (rg [6,6,8,8,27,34]) .nil)) .nil))))) h (by kernel_rfl) (by kernel_rfl)
def F82j1(t0:Sl)(t1:Nat×Array Value)(R:RV)(y4:Nat->Int×Int->World->Prop)(b6:Nat)(x7:Int×Int)(w8:World):Prop:=IfB (decide (x7.snd<(t0.n:Int))) (Qx t0.1 x7.2 (t0.2:Int) fun b11 b12=>∃(x13:Int×Int),CellsAt w8 b11 (b12+x7.2.toNat*2) [Qz x13.1,Qz x13.2]/\AllocP w8 (Obj.cells #[Qz 0,Qz 0] 71) fun b14 w15=>#[Qz x13.1,Qz x13.2].size=2/\StoreP w15 b14 0 [Qz x13.1,Qz x13.2] fun w16=>∃(x17:Int×Int),CellsAt w16 b14 0 [Qz x17.1,Qz x17.2]/\Cx t1.1 { toList:=Value.agg #[Qz x17.1,Qz x17.2]::t1.snd.1 } w16 fun v18 w19=>∃t20:Bool,v18=Value.bool t20/\IfB (!t20) (∃(x21:Int×Int),CellsAt w19 b14 0 [Qz x21.1,Qz x21.2]/\Qx t0.1 x7.1 (t0.2:Int) fun b22 b23=>#[Qz x21.1,Qz x21.2].size=2/\StoreP w19 b22 (b23+x7.1.toNat*2) [Qz x21.1,Qz x21.2] fun w24=>([]:List Df)=[]/\∃b25:Nat,b25<b6/\y4 b25 (IntKind.i64.wrap (x7.1+1),IntKind.i64.wrap (x7.2+1)) w24) (([]:List Df)=[]/\∃b26:Nat,b26<b6/\y4 b26 (x7.1,IntKind.i64.wrap (x7.2+1)) w19)) ((0<=x7.1/\x7.1<=(t0.2:Int))/\match slAddr t0.1 t0.3 x7.1.toNat 2 with|none=>(0<=x7.1/\x7.1<=(t0.3:Int))/\R (Value.slice (slAddr t0.1 t0.3 0 2) x7.1.toNat t0.3) w8|some ({ block:=b28,off:=b29,spot:=none }:Addr)=>StoreP w8 b28 b29 (zc #[Qz 0,Qz 0] (t0.2-x7.1.toNat)) fun w30=>(0<=x7.1/\x7.1<=(t0.3:Int))/\R (Value.slice (slAddr t0.1 t0.3 0 2) x7.1.toNat t0.3) w30|some y31=>False)
theorem F82_ok(t0:Sl)(t1:Nat×Array Value)(w:World)(R:RV)(h:Cx 119 #[Qy t0,Value.func (Fn.func t1.1) #[] t1.2] w fun v1 w2=>∃n3:Int,v1=Qz n3/\IfB (n3 == (-1:Int)) (R (Qy t0) w2) (Ql (α:=Int×Int) (n3,IntKind.i64.wrap (n3+1)) w2 fun y4 b6 x7 w8=>(F82j1 t0 t1 R y4 b6 x7 w8))):Cw 82 #[Qy t0,Value.func (Fn.func t1.1) #[] t1.2] w R:=
 ckF Tryz.func82 (nd (nd (nd (.node (nd (.loop [(5,oi),(6,oi)] (rg [5,7,16,35]) .nil)) .nil)))) h (by kernel_rfl) (by kernel_rfl)
def F119j1(t0:Sl)(t1:Nat×Array Value)(R:RV)(y1:Nat->Int->World->Prop)(b3:Nat)(n4:Int)(w5:World):Prop:=IfB (decide (n4<(t0.n:Int))) (Qx t0.1 n4 (t0.2:Int) fun b8 b9=>∃(x10:Int×Int),CellsAt w5 b8 (b9+n4.toNat*2) [Qz x10.1,Qz x10.2]/\Cx t1.1 { toList:=Value.agg #[Qz x10.1,Qz x10.2]::t1.snd.1 } w5 fun v11 w12=>∃t13:Bool,v11=Value.bool t13/\IfB t13 (R (Qz n4) w12) (([]:List Df)=[]/\∃b14:Nat,b14<b3/\y1 b14 (IntKind.i64.wrap (n4+1)) w12)) (R (Qz (-1:Int)) w5)
def F119(t0:Sl)(t1:Nat×Array Value)(w:World)(R:RV):Prop:=Ql (α:=Int) 0 w fun y1 b3 n4 w5=>(F119j1 t0 t1 R y1 b3 n4 w5)
theorem F119_ok(t0:Sl)(t1:Nat×Array Value)(w:World)(R:RV)(h:F119 t0 t1 w R):Cw 119 #[Qy t0,Value.func (Fn.func t1.1) #[] t1.2] w R:=
 ckF Tryz.func119 (nd (.node (nd (.loop [(8,oi)] (rg [4,5,8,18]) .nil)) .nil)) h (by kernel_rfl) (by kernel_rfl)
def F120(t0:Sl)(t1:Int)(w:World)(R:RV):Prop:=IfB (decide (t1<0)) False (IfB (decide (0<IntKind.i64.wrap (t1-IntKind.i64.wrap ((t0.c:Int)-(t0.n:Int))))) ((0<=(t0.3:Int)/\(t0.3:Int)<=(t0.3:Int))/\(0<=IntKind.i64.wrap (t1-IntKind.i64.wrap ((t0.3:Int)-(t0.2:Int)))/\IntKind.i64.wrap (t1-IntKind.i64.wrap ((t0.3:Int)-(t0.2:Int)))<=281474976710656/\IntKind.i64.wrap (t1-IntKind.i64.wrap ((t0.3:Int)-(t0.2:Int)))*((16:Nat):Int)<=281474976710656)/\AppendP tt71 71 w (slAddr t0.1 t0.3 0 2) ((t0.3:Int)).toNat t0.3 (IntKind.i64.wrap (t1-IntKind.i64.wrap ((t0.3:Int)-(t0.2:Int)))).toNat (zc #[Qz 0,Qz 0] (IntKind.i64.wrap (t1-IntKind.i64.wrap ((t0.3:Int)-(t0.2:Int)))).toNat) fun s1 w2=>(0<=(t0.2:Int)/\(t0.2:Int)<=(s1.3:Int))/\R (Value.slice (slAddr s1.1 s1.3 0 2) ((t0.2:Int)).toNat s1.3) w2) (R (Qy t0) w))
theorem F120_ok(t0:Sl)(t1:Int)(w:World)(R:RV)(h:F120 t0 t1 w R):Cw 120 #[Qy t0,Qz t1] w R:=
 ckF Tryz.func120 .nil h (by kernel_rfl) (by kernel_rfl)
theorem F88_ok(t0:Int)(t1:Int)(w:World)(R:RV)(h:Cx 123 #[Qz t0] w fun v1 w2=>∃t3:Bool,v1=Value.bool t3/\Qv' 123 #[Qz t1] w2 fun t6 w5=>IfB t3 (IfB t6 (R (Qz 0) w5) (R (Qz (-1:Int)) w5)) (IfB t6 (R (Qz 1) w5) (IfB (decide (t0<t1)) (R (Qz (-1:Int)) w5) (IfB (decide (t1<t0)) (R (Qz 1) w5) (R (Qz 0) w5))))):Cw 88 #[Qz t0,Qz t1] w R:=
 ckF Tryz.func88 .nil h (by kernel_rfl) (by kernel_rfl)
def F86(t0:Sl)(t1:Nat×Array Value)(w:World)(R:RV):Prop:=Cx 122 #[Value.int IntKind.u64 (IntKind.u64.wrap (t0.2:Int))] w fun v1 w2=>∃n3:Int,v1=Qz n3/\Cx 121 #[Qy t0,Qz 0,Qz (t0.2:Int),Qz n3,Value.func (Fn.func t1.1) #[] t1.2] w2 fun v4 w5=>∃y6:Unit,v4=Value.tuple #[]/\R (Value.tuple #[]) w5
theorem F86_ok(t0:Sl)(t1:Nat×Array Value)(w:World)(R:RV)(h:F86 t0 t1 w R):Cw 86 #[Qy t0,Value.func (Fn.func t1.1) #[] t1.2] w R:=
 ckF Tryz.func86 .nil h (by kernel_rfl) (by kernel_rfl)
def F121k2(t0:Sl)(x4:Int×Int×Int×Bool×Bool)(x56:Int×Bool)(n18:Int)(t4:Nat×Array Value)(w55:World)(b3:Nat)(y1:Nat->Int×Int×Int×Bool×Bool->World->Prop):Prop:=Cx 121 #[Qy t0,Qz x4.1,Qz x56.1,Qz n18,Value.func (Fn.func t4.1) #[] t4.2] w55 fun v57 w58=>∃y59:Unit,v57=Value.tuple #[]/\([]:List Df)=[]/\∃b60:Nat,b60<b3/\y1 b60 (IntKind.i64.wrap (x56.1+1),x4.snd.1,n18,decide (IntKind.i64.wrap ((IntKind.i64.wrap (x4.snd.fst-x4.fst)).tdiv 8)<=IntKind.i64.wrap (x56.fst-x4.fst)),x56.2) w58
def F121k1(t0:Sl)(x56:Int×Bool)(x4:Int×Int×Int×Bool×Bool)(n18:Int)(t4:Nat×Array Value)(w55:World)(b3:Nat)(y1:Nat->Int×Int×Int×Bool×Bool->World->Prop):Prop:=Cx 121 #[Qy t0,Qz (IntKind.i64.wrap (x56.1+1)),Qz x4.snd.1,Qz n18,Value.func (Fn.func t4.1) #[] t4.2] w55 fun v61 w62=>∃y63:Unit,v61=Value.tuple #[]/\([]:List Df)=[]/\∃b64:Nat,b64<b3/\y1 b64 (x4.1,x56.1,n18,decide (IntKind.i64.wrap ((IntKind.i64.wrap (x4.snd.fst-x4.fst)).tdiv 8)<=IntKind.i64.wrap (x4.snd.fst-x56.fst)),x56.2) w62
def F121j4(t0:Sl)(t4:Nat×Array Value)(y1:Nat->Int×Int×Int×Bool×Bool->World->Prop)(b3:Nat)(x4:Int×Int×Int×Bool×Bool)(n18:Int)(x29:Int×Int)(w38:World):Prop:=IfB (decide (0<x4.fst)) (Qx t0.1 (IntKind.i64.wrap (x4.1-1)) (t0.2:Int) fun b41 b42=>∃(x43:Int×Int),CellsAt w38.drew b41 (b42+(IntKind.i64.wrap (x4.1-1)).toNat*2) [Qz x43.1,Qz x43.2]/\Qx t0.1 x29.1 (t0.2:Int) fun b44 b45=>∃(x46:Int×Int),CellsAt w38.drew b44 (b45+x29.1.toNat*2) [Qz x46.1,Qz x46.2]/\Cx t4.1 { toList:=Value.agg #[Qz x43.1,Qz x43.2]::Value.agg #[Qz x46.1,Qz x46.2]::t4.snd.1 } w38.drew fun v47 w48=>∃n49:Int,v47=Qz n49/\IfB (!decide (n49<0)) (Qw' 146 #[Qy t0,Qz x4.1,Qz x4.snd.1,Qz x29.1,Value.func (Fn.func t4.1) #[] t4.2] w48 fun n52 w51=>([]:List Df)=[]/\∃b53:Nat,b53<b3/\y1 b53 (n52,x4.snd.1,n18,x4.snd.snd.snd.1,x4.snd.snd.snd.2) w51) (Cx 147 #[Qy t0,Qz x4.1,Qz x4.snd.1,Qz x29.1,Value.func (Fn.func t4.1) #[] t4.2] w48 fun v54 w55=>∃(x56:Int×Bool),v54=Value.tuple #[Qz x56.1,Value.bool x56.2]/\¬(8:Int)=0/\IfB (decide (IntKind.i64.wrap (x56.fst-x4.fst)<IntKind.i64.wrap (x4.snd.fst-x56.fst))) (F121k2 t0 x4 x56 n18 t4 w55 b3 y1) (F121k1 t0 x56 x4 n18 t4 w55 b3 y1))) (Cx 147 #[Qy t0,Qz x4.1,Qz x4.snd.1,Qz x29.1,Value.func (Fn.func t4.1) #[] t4.2] w38.drew fun v65 w66=>∃(x67:Int×Bool),v65=Value.tuple #[Qz x67.1,Value.bool x67.2]/\¬(8:Int)=0/\IfB (decide (IntKind.i64.wrap (x67.fst-x4.fst)<IntKind.i64.wrap (x4.snd.fst-x67.fst))) (F121k2 t0 x4 x67 n18 t4 w66 b3 y1) (F121k1 t0 x67 x4 n18 t4 w66 b3 y1))
def F121j3(t0:Sl)(t4:Nat×Array Value)(R:RV)(y1:Nat->Int×Int×Int×Bool×Bool->World->Prop)(b3:Nat)(x4:Int×Int×Int×Bool×Bool)(n18:Int)(x29:Int×Int)(w30:World):Prop:=∃(y33:Unit->World->Prop),IfB x4.snd.snd.snd.1 (IfB x4.snd.snd.snd.2 (IfB (x29.2 == 1) (Qv' 145 #[Qy t0,Qz x4.1,Qz x4.snd.1,Value.func (Fn.func t4.1) #[] t4.2] w30 fun t36 w35=>IfB t36 (R (Value.tuple #[]) w35) (([]:List Df)=[]/\y33 PUnit.unit w35)) (([]:List Df)=[]/\y33 PUnit.unit w30)) (([]:List Df)=[]/\y33 PUnit.unit w30)) (([]:List Df)=[]/\y33 PUnit.unit w30)/\∀(y37:Unit)(w38:World)(y39:Nat->Value),y33 y37 w38->(F121j4 t0 t4 y1 b3 x4 n18 x29 w38)
def F121j2(t0:Sl)(t4:Nat×Array Value)(R:RV)(y1:Nat->Int×Int×Int×Bool×Bool->World->Prop)(b3:Nat)(x4:Int×Int×Int×Bool×Bool)(n18:Int)(w19:World):Prop:=Cx 143 #[Qy t0,Qz x4.1,Qz x4.snd.1,Value.func (Fn.func t4.1) #[] t4.2] w19 fun v22 w23=>∃(x24:Int×Int),v22=Value.tuple #[Qz x24.1,Qz x24.2]/\∃(y25:Int×Int->World->Prop),IfB (x24.2 == 2) (Cx 144 #[Qy t0,Qz x4.1,Qz x4.snd.1,Value.func (Fn.func t4.1) #[] t4.2] w23 fun v26 w27=>∃y28:Unit,v26=Value.tuple #[]/\([]:List Df)=[]/\y25 (IntKind.i64.wrap (IntKind.i64.wrap (x4.snd.1-1)-IntKind.i64.wrap (x24.1-x4.1)),1) w27) (([]:List Df)=[]/\y25 (x24.1,x24.2) w23)/\∀(x29:Int×Int)(w30:World)(y31:Nat->Value),y25 x29 w30->(F121j3 t0 t4 R y1 b3 x4 n18 x29 w30)
def F121j1(t0:Sl)(t4:Nat×Array Value)(R:RV)(y1:Nat->Int×Int×Int×Bool×Bool->World->Prop)(b3:Nat)(x4:Int×Int×Int×Bool×Bool)(w5:World):Prop:=IfB (decide (IntKind.i64.wrap (x4.snd.fst-x4.fst)<=12)) (Cx 140 #[Qy t0,Qz x4.1,Qz x4.snd.1,Value.func (Fn.func t4.1) #[] t4.2] w5 fun v8 w9=>∃y10:Unit,v8=Value.tuple #[]/\R (Value.tuple #[]) w9) (IfB (x4.snd.snd.1 == 0) (Cx 141 #[Qy t0,Qz x4.1,Qz x4.snd.1,Value.func (Fn.func t4.1) #[] t4.2] w5 fun v11 w12=>∃y13:Unit,v11=Value.tuple #[]/\R (Value.tuple #[]) w12) (∃(y14:Int->World->Prop),IfB (!x4.snd.snd.snd.1) (Cx 142 #[Qy t0,Qz x4.1,Qz x4.snd.1,Value.func (Fn.func t4.1) #[] t4.2] w5 fun v15 w16=>∃y17:Unit,v15=Value.tuple #[]/\([]:List Df)=[]/\y14 (IntKind.i64.wrap (x4.snd.snd.1-1)) w16) (([]:List Df)=[]/\y14 x4.snd.snd.1 w5)/\∀(n18:Int)(w19:World)(y20:Nat->Value),y14 n18 w19->(F121j2 t0 t4 R y1 b3 x4 n18 w19)))
theorem F121_ok(t0:Sl)(t1:Int)(t2:Int)(t3:Int)(t4:Nat×Array Value)(w:World)(R:RV)(h:Ql (α:=Int×Int×Int×Bool×Bool) (t1,t2,t3,true,true) w fun y1 b3 x4 w5=>(F121j1 t0 t4 R y1 b3 x4 w5)):Cw 121 #[Qy t0,Qz t1,Qz t2,Qz t3,Value.func (Fn.func t4.1) #[] t4.2] w R:=
 ckF Tryz.func121 (nd (nd (.loop [(1,oi),(2,oi),(3,oi),(10,ob),(11,ob)] (rg [1,3,10,147]) (nd (nd (nd (.join [(3,oi)] (rg [3,3,38,46]) .nil (nd (.join [(13,oi),(14,oi)] (rg [13,14,55,67]) .nil (.join [] (rg [68,80]) .nil (.node (.node (.draw (sts [0,1,2,3,4,5,6,7,8,9,10,11,12] (.ac 13 [] (sts [14,15,16] .fin) .non))) .nil) .nil))))))))))) h (by kernel_rfl) (by kernel_rfl)
def F140j2(t0:Sl)(t1:Int)(t3:Nat×Array Value)(y1:Nat->Int->World->Prop)(b3:Nat)(n4:Int)(y8:Nat->Int->World->Prop)(b10:Nat)(n11:Int)(w12:World):Prop:=IfB (decide (t1<n11)) (Qx t0.1 n11 (t0.2:Int) fun b15 b16=>∃(x17:Int×Int),CellsAt w12.drew b15 (b16+n11.toNat*2) [Qz x17.1,Qz x17.2]/\Qx t0.1 (IntKind.i64.wrap (n11-1)) (t0.2:Int) fun b18 b19=>∃(x20:Int×Int),CellsAt w12.drew b18 (b19+(IntKind.i64.wrap (n11-1)).toNat*2) [Qz x20.1,Qz x20.2]/\Cx t3.1 { toList:=Value.agg #[Qz x17.1,Qz x17.2]::Value.agg #[Qz x20.1,Qz x20.2]::t3.snd.1 } w12.drew fun v21 w22=>∃n23:Int,v21=Qz n23/\IfB (decide (n23<0)) (Qx t0.1 (IntKind.i64.wrap (n11-1)) (t0.2:Int) fun b24 b25=>∃(x26:Int×Int),CellsAt w22.drew b24 (b25+(IntKind.i64.wrap (n11-1)).toNat*2) [Qz x26.1,Qz x26.2]/\Qx t0.1 n11 (t0.2:Int) fun b27 b28=>∃(x29:Int×Int),CellsAt w22.drew b27 (b28+n11.toNat*2) [Qz x29.1,Qz x29.2]/\Qx t0.1 n11 (t0.2:Int) fun b30 b31=>#[Qz x26.1,Qz x26.2].size=2/\StoreP w22.drew b30 (b31+n11.toNat*2) [Qz x26.1,Qz x26.2] fun w32=>Qx t0.1 (IntKind.i64.wrap (n11-1)) (t0.2:Int) fun b33 b34=>#[Qz x29.1,Qz x29.2].size=2/\StoreP w32 b33 (b34+(IntKind.i64.wrap (n11-1)).toNat*2) [Qz x29.1,Qz x29.2] fun w35=>([]:List Df)=[]/\∃b36:Nat,b36<b10/\y8 b36 (IntKind.i64.wrap (n11-1)) w35) (([]:List Df)=[]/\∃b37:Nat,b37<b3/\y1 b37 (IntKind.i64.wrap (n4+1)) w22)) (([]:List Df)=[]/\∃b38:Nat,b38<b3/\y1 b38 (IntKind.i64.wrap (n4+1)) w12.drew)
theorem F140_ok(t0:Sl)(t1:Int)(t2:Int)(t3:Nat×Array Value)(w:World)(R:RV)(h:Ql (α:=Int) (IntKind.i64.wrap (t1+1)) w fun y1 b3 n4 w5=>IfB (decide (n4<t2)) (Ql (α:=Int) n4 w5 fun y8 b10 n11 w12=>(F140j2 t0 t1 t3 y1 b3 n4 y8 b10 n11 w12)) (R (Value.tuple #[]) w5)):Cw 140 #[Qy t0,Qz t1,Qz t2,Value.func (Fn.func t3.1) #[] t3.2] w R:=
 ckF Tryz.func140 (nd (.loop [(8,oi)] (rg [8,9,12,52]) (nd (.node (nd (.loop [(9,oi)] (rg [9,9,18,52]) (.node (.node (.draw (sts [0,1,2,3,4,5,6,7,8,9,10,11,12,13] (.ac 14 [] (sts [15,16] .fin) .non))) .nil) (.node (.draw (sts [0,1,2,3,4,5,6,7,8,9,10,11,12,13,14] (.ac 15 [4,3,2] (.st 16 (.ac 17 [] .fin .non)) .non))) .nil)))) .nil)))) h (by kernel_rfl) (by kernel_rfl)
def F141j2(t0:Sl)(t1:Int)(t3:Nat×Array Value)(R:RV)(y12:Nat->Int->World->Prop)(b14:Nat)(n15:Int)(w16:World):Prop:=IfB (decide (0<=n15)) (Qx t0.1 (IntKind.i64.wrap (t1+n15)) (t0.2:Int) fun b19 b20=>∃(x21:Int×Int),CellsAt w16.drew b19 (b20+(IntKind.i64.wrap (t1+n15)).toNat*2) [Qz x21.1,Qz x21.2]/\Qx t0.1 t1 (t0.2:Int) fun b22 b23=>∃(x24:Int×Int),CellsAt w16.drew b22 (b23+t1.toNat*2) [Qz x24.1,Qz x24.2]/\Qx t0.1 t1 (t0.2:Int) fun b25 b26=>#[Qz x21.1,Qz x21.2].size=2/\StoreP w16.drew b25 (b26+t1.toNat*2) [Qz x21.1,Qz x21.2] fun w27=>Qx t0.1 (IntKind.i64.wrap (t1+n15)) (t0.2:Int) fun b28 b29=>#[Qz x24.1,Qz x24.2].size=2/\StoreP w27 b28 (b29+(IntKind.i64.wrap (t1+n15)).toNat*2) [Qz x24.1,Qz x24.2] fun w30=>Cx 161 #[Qy t0,Qz 0,Qz n15,Qz t1,Value.func (Fn.func t3.1) #[] t3.2] w30 fun v31 w32=>∃y33:Unit,v31=Value.tuple #[]/\([]:List Df)=[]/\∃b34:Nat,b34<b14/\y12 b34 (IntKind.i64.wrap (n15-1)) w32) (R (Value.tuple #[]) w16)
def F141j1(t0:Sl)(t1:Int)(t2:Int)(t3:Nat×Array Value)(R:RV)(y1:Nat->Int->World->Prop)(b3:Nat)(n4:Int)(w5:World):Prop:=IfB (decide (0<=n4)) (Cx 161 #[Qy t0,Qz n4,Qz (IntKind.i64.wrap (t2-t1)),Qz t1,Value.func (Fn.func t3.1) #[] t3.2] w5 fun v8 w9=>∃y10:Unit,v8=Value.tuple #[]/\([]:List Df)=[]/\∃b11:Nat,b11<b3/\y1 b11 (IntKind.i64.wrap (n4-1)) w9) (Ql (α:=Int) (IntKind.i64.wrap (IntKind.i64.wrap (t2-t1)-1)) w5 fun y12 b14 n15 w16=>(F141j2 t0 t1 t3 R y12 b14 n15 w16))
theorem F141_ok(t0:Sl)(t1:Int)(t2:Int)(t3:Nat×Array Value)(w:World)(R:RV)(h:¬(2:Int)=0/\Ql (α:=Int) (IntKind.i64.wrap ((IntKind.i64.wrap (IntKind.i64.wrap (t2-t1)-1)).tdiv 2)) w fun y1 b3 n4 w5=>(F141j1 t0 t1 t2 t3 R y1 b3 n4 w5)):Cw 141 #[Qy t0,Qz t1,Qz t2,Value.func (Fn.func t3.1) #[] t3.2] w R:=
 ckF Tryz.func141 (nd (nd (nd (.node (nd (.loop [(11,oi)] (rg [11,11,20,29]) .nil)) (nd (.loop [(12,oi)] (rg [12,12,32,59]) (nd (.node (.node (.draw (sts [0,1,2,3,4,5,6,7,8,9,10,11,12,13,14,15,16] (.ac 17 [5,4,3,2] (.st 18 (.ac 19 [] .fin .non)) .non))) .nil) .nil)))))))) h (by kernel_rfl) (by kernel_rfl)
def F142j2(t0:Sl)(t1:Int)(y7:Nat->Int->World->Prop)(b9:Nat)(n10:Int)(n18:Int)(w19:World):Prop:=Qx t0.1 (IntKind.i64.wrap (t1+n18)) (t0.2:Int) fun b22 b23=>∃(x24:Int×Int),CellsAt w19.drew b22 (b23+(IntKind.i64.wrap (t1+n18)).toNat*2) [Qz x24.1,Qz x24.2]/\Qx t0.1 n10 (t0.2:Int) fun b25 b26=>∃(x27:Int×Int),CellsAt w19.drew b25 (b26+n10.toNat*2) [Qz x27.1,Qz x27.2]/\Qx t0.1 n10 (t0.2:Int) fun b28 b29=>#[Qz x24.1,Qz x24.2].size=2/\StoreP w19.drew b28 (b29+n10.toNat*2) [Qz x24.1,Qz x24.2] fun w30=>Qx t0.1 (IntKind.i64.wrap (t1+n18)) (t0.2:Int) fun b31 b32=>#[Qz x27.1,Qz x27.2].size=2/\StoreP w30 b31 (b32+(IntKind.i64.wrap (t1+n18)).toNat*2) [Qz x27.1,Qz x27.2] fun w33=>([]:List Df)=[]/\∃b34:Nat,b34<b9/\y7 b34 (IntKind.i64.wrap (n10+1)) w33
def F142j1(t0:Sl)(t1:Int)(t2:Int)(R:RV)(b1:Nat)(n6:Int)(y7:Nat->Int->World->Prop)(b9:Nat)(n10:Int)(w11:World):Prop:=¬(4:Int)=0/\IfB (decide (n10<=IntKind.i64.wrap (IntKind.i64.wrap (t1+IntKind.i64.wrap (IntKind.i64.wrap ((IntKind.i64.wrap (t2-t1)).tdiv 4)*2))+1))) (Cx 163 #[Value.pointer (some ⟨b1,0,none⟩)] w11 fun v14 w15=>∃n16:Int,v14=Value.int IntKind.u64 n16/\∃(y17:Int->World->Prop),IfB (decide (IntKind.i64.wrap (t2-t1)<=IntKind.i64.wrap (bitsI BinOp.and IntKind.u64 n16 (IntKind.u64.wrap (n6-1))))) (([]:List Df)=[]/\y17 (IntKind.i64.wrap (IntKind.i64.wrap (bitsI BinOp.and IntKind.u64 n16 (IntKind.u64.wrap (n6-1)))-IntKind.i64.wrap (t2-t1))) w15) (([]:List Df)=[]/\y17 (IntKind.i64.wrap (bitsI BinOp.and IntKind.u64 n16 (IntKind.u64.wrap (n6-1)))) w15)/\∀(n18:Int)(w19:World)(y20:Nat->Value),y17 n18 w19->(F142j2 t0 t1 y7 b9 n10 n18 w19)) (R (Value.tuple #[]) w11)
def F142(t0:Sl)(t1:Int)(t2:Int)(t3:Nat×Array Value)(w:World)(R:RV):Prop:=IfB (decide (8<=IntKind.i64.wrap (t2-t1))) (AllocP w (Obj.cells #[Value.int IntKind.u64 0] 202) fun b1 w2=>#[Value.int IntKind.u64 (IntKind.u64.wrap (IntKind.i64.wrap (t2-t1)))].size=1/\StoreP w2 b1 0 [Value.int IntKind.u64 (IntKind.u64.wrap (IntKind.i64.wrap (t2-t1)))] fun w3=>Cx 162 #[Qz (IntKind.i64.wrap (t2-t1))] w3 fun v4 w5=>∃n6:Int,v4=Value.int IntKind.u64 n6/\¬(4:Int)=0/\Ql (α:=Int) (IntKind.i64.wrap (IntKind.i64.wrap (t1+IntKind.i64.wrap (IntKind.i64.wrap ((IntKind.i64.wrap (t2-t1)).tdiv 4)*2))-1)) w5 fun y7 b9 n10 w11=>(F142j1 t0 t1 t2 R b1 n6 y7 b9 n10 w11)) (R (Value.tuple #[]) w)
theorem F142_ok(t0:Sl)(t1:Int)(t2:Int)(t3:Nat×Array Value)(w:World)(R:RV)(h:F142 t0 t1 t2 t3 w R):Cw 142 #[Qy t0,Qz t1,Qz t2,Value.func (Fn.func t3.1) #[] t3.2] w R:=
 ckF Tryz.func142 (nd (nd (.node (nd (nd (nd (.loop [(11,oi)] (rg [11,12,28,66]) (nd (.node (nd (.join [(12,oi)] (rg [12,12,43,48]) .nil (.draw (sts [0,1,2,3,4,5,6,7,8,9,10,11,12,13,14,15,16] (.ac 17 [5,4,3,2] (.st 18 (.ac 19 [] .fin .non)) .non))))) .nil)))))) .nil))) h (by kernel_rfl) (by kernel_rfl)
def F143j2(R:RV)(b1:Nat)(n21:Int)(w22:World):Prop:=Qi w22 b1 0 fun n25=>IfB (n25 == 0) (R (Value.tuple #[Qz n21,Qz 1]) w22) (IfB (n25 == 12) (R (Value.tuple #[Qz n21,Qz 2]) w22) (R (Value.tuple #[Qz n21,Qz 0]) w22))
theorem F143_ok(t0:Sl)(t1:Int)(t2:Int)(t3:Nat×Array Value)(w:World)(R:RV)(h:AllocP w (Obj.cells #[Qz 0] 3) fun b1 w2=>¬(4:Int)=0/\¬(4:Int)=0/\¬(4:Int)=0/\∃(y3:Int->World->Prop),IfB (decide (8<=IntKind.i64.wrap (t2-t1))) (∃(y4:Int×Int×Int->World->Prop),IfB (decide (50<=IntKind.i64.wrap (t2-t1))) (Qw' 164 #[Qy t0,Qz (IntKind.i64.wrap (t1+IntKind.i64.wrap (IntKind.i64.wrap ((IntKind.i64.wrap (t2-t1)).tdiv 4)*1))),Value.pointer (some ⟨b1,0,none⟩),Value.func (Fn.func t3.1) #[] t3.2] w2 fun n7 w6=>Qw' 164 #[Qy t0,Qz (IntKind.i64.wrap (t1+IntKind.i64.wrap (IntKind.i64.wrap ((IntKind.i64.wrap (t2-t1)).tdiv 4)*2))),Value.pointer (some ⟨b1,0,none⟩),Value.func (Fn.func t3.1) #[] t3.2] w6 fun n10 w9=>Qw' 164 #[Qy t0,Qz (IntKind.i64.wrap (t1+IntKind.i64.wrap (IntKind.i64.wrap ((IntKind.i64.wrap (t2-t1)).tdiv 4)*3))),Value.pointer (some ⟨b1,0,none⟩),Value.func (Fn.func t3.1) #[] t3.2] w9 fun n13 w12=>([]:List Df)=[]/\y4 (n7,n10,n13) w12) (([]:List Df)=[]/\y4 (IntKind.i64.wrap (t1+IntKind.i64.wrap (IntKind.i64.wrap ((IntKind.i64.wrap (t2-t1)).tdiv 4)*1)),IntKind.i64.wrap (t1+IntKind.i64.wrap (IntKind.i64.wrap ((IntKind.i64.wrap (t2-t1)).tdiv 4)*2)),IntKind.i64.wrap (t1+IntKind.i64.wrap (IntKind.i64.wrap ((IntKind.i64.wrap (t2-t1)).tdiv 4)*3))) w2)/\∀(x14:Int×Int×Int)(w15:World)(y16:Nat->Value),y4 x14 w15->Qw' 165 #[Qy t0,Qz x14.1,Qz x14.snd.1,Qz x14.snd.2,Value.pointer (some ⟨b1,0,none⟩),Value.func (Fn.func t3.1) #[] t3.2] w15 fun n20 w19=>([]:List Df)=[]/\y3 n20 w19) (([]:List Df)=[]/\y3 (IntKind.i64.wrap (t1+IntKind.i64.wrap (IntKind.i64.wrap ((IntKind.i64.wrap (t2-t1)).tdiv 4)*2))) w2)/\∀(n21:Int)(w22:World)(y23:Nat->Value),y3 n21 w22->(F143j2 R b1 n21 w22)):Cw 143 #[Qy t0,Qz t1,Qz t2,Value.func (Fn.func t3.1) #[] t3.2] w R:=
 ckF Tryz.func143 (nd (nd (nd (nd (nd (nd (.join [(13,oi)] (rg [12,14,33,54]) (nd (.node (.join [(12,oi),(13,oi),(14,oi)] (rg [12,14,35,48]) .nil .nil) .nil)) .nil))))))) h (by kernel_rfl) (by kernel_rfl)
def F144j1(t0:Sl)(R:RV)(y1:Nat->Int×Int->World->Prop)(b3:Nat)(x4:Int×Int)(w5:World):Prop:=IfB (decide (x4.fst<x4.snd)) (Qx t0.1 x4.2 (t0.2:Int) fun b8 b9=>∃(x10:Int×Int),CellsAt w5.drew b8 (b9+x4.2.toNat*2) [Qz x10.1,Qz x10.2]/\Qx t0.1 x4.1 (t0.2:Int) fun b11 b12=>∃(x13:Int×Int),CellsAt w5.drew b11 (b12+x4.1.toNat*2) [Qz x13.1,Qz x13.2]/\Qx t0.1 x4.1 (t0.2:Int) fun b14 b15=>#[Qz x10.1,Qz x10.2].size=2/\StoreP w5.drew b14 (b15+x4.1.toNat*2) [Qz x10.1,Qz x10.2] fun w16=>Qx t0.1 x4.2 (t0.2:Int) fun b17 b18=>#[Qz x13.1,Qz x13.2].size=2/\StoreP w16 b17 (b18+x4.2.toNat*2) [Qz x13.1,Qz x13.2] fun w19=>([]:List Df)=[]/\∃b20:Nat,b20<b3/\y1 b20 (IntKind.i64.wrap (x4.1+1),IntKind.i64.wrap (x4.2-1)) w19) (R (Value.tuple #[]) w5)
theorem F144_ok(t0:Sl)(t1:Int)(t2:Int)(t3:Nat×Array Value)(w:World)(R:RV)(h:Ql (α:=Int×Int) (t1,IntKind.i64.wrap (t2-1)) w fun y1 b3 x4 w5=>(F144j1 t0 R y1 b3 x4 w5)):Cw 144 #[Qy t0,Qz t1,Qz t2,Value.func (Fn.func t3.1) #[] t3.2] w R:=
 ckF Tryz.func144 (nd (nd (.loop [(8,oi),(9,oi)] (rg [8,9,13,33]) (nd (.node (.draw (sts [0,1,2,3,4,5,6,7,8,9,10,11,12] (.ac 13 [3,2] (.st 14 (.ac 15 [] .fin .non)) .non))) .nil))))) h (by kernel_rfl) (by kernel_rfl)
def F145j2(t0:Sl)(t2:Int)(t3:Nat×Array Value)(y8:Int->World->Prop)(y9:Nat->Int->World->Prop)(b11:Nat)(n12:Int)(w13:World):Prop:=IfB (decide (n12<t2)) (Qx t0.1 n12 (t0.2:Int) fun b16 b17=>∃(x18:Int×Int),CellsAt w13.drew b16 (b17+n12.toNat*2) [Qz x18.1,Qz x18.2]/\Qx t0.1 (IntKind.i64.wrap (n12-1)) (t0.2:Int) fun b19 b20=>∃(x21:Int×Int),CellsAt w13.drew b19 (b20+(IntKind.i64.wrap (n12-1)).toNat*2) [Qz x21.1,Qz x21.2]/\Cx t3.1 { toList:=Value.agg #[Qz x18.1,Qz x18.2]::Value.agg #[Qz x21.1,Qz x21.2]::t3.snd.1 } w13.drew fun v22 w23=>∃n24:Int,v22=Qz n24/\IfB (!decide (n24<0)) (([]:List Df)=[]/\∃b25:Nat,b25<b11/\y9 b25 (IntKind.i64.wrap (n12+1)) w23) (([]:List Df)=[]/\y8 n12 w23)) (([]:List Df)=[]/\y8 n12 w13.drew)
def F145j4(t0:Sl)(t3:Nat×Array Value)(y42:Unit->World->Prop)(y43:Nat->Int->World->Prop)(b45:Nat)(n46:Int)(w47:World):Prop:=IfB (decide (1<=n46)) (Qx t0.1 n46 (t0.2:Int) fun b50 b51=>∃(x52:Int×Int),CellsAt w47.drew b50 (b51+n46.toNat*2) [Qz x52.1,Qz x52.2]/\Qx t0.1 (IntKind.i64.wrap (n46-1)) (t0.2:Int) fun b53 b54=>∃(x55:Int×Int),CellsAt w47.drew b53 (b54+(IntKind.i64.wrap (n46-1)).toNat*2) [Qz x55.1,Qz x55.2]/\Cx t3.1 { toList:=Value.agg #[Qz x52.1,Qz x52.2]::Value.agg #[Qz x55.1,Qz x55.2]::t3.snd.1 } w47.drew fun v56 w57=>∃n58:Int,v56=Qz n58/\IfB (!decide (n58<0)) (([]:List Df)=[]/\y42 PUnit.unit w57) (Qx t0.1 (IntKind.i64.wrap (n46-1)) (t0.2:Int) fun b59 b60=>∃(x61:Int×Int),CellsAt w57.drew b59 (b60+(IntKind.i64.wrap (n46-1)).toNat*2) [Qz x61.1,Qz x61.2]/\Qx t0.1 n46 (t0.2:Int) fun b62 b63=>∃(x64:Int×Int),CellsAt w57.drew b62 (b63+n46.toNat*2) [Qz x64.1,Qz x64.2]/\Qx t0.1 n46 (t0.2:Int) fun b65 b66=>#[Qz x61.1,Qz x61.2].size=2/\StoreP w57.drew b65 (b66+n46.toNat*2) [Qz x61.1,Qz x61.2] fun w67=>Qx t0.1 (IntKind.i64.wrap (n46-1)) (t0.2:Int) fun b68 b69=>#[Qz x64.1,Qz x64.2].size=2/\StoreP w67 b68 (b69+(IntKind.i64.wrap (n46-1)).toNat*2) [Qz x64.1,Qz x64.2] fun w70=>([]:List Df)=[]/\∃b71:Nat,b71<b45/\y43 b71 (IntKind.i64.wrap (n46-1)) w70)) (([]:List Df)=[]/\y42 PUnit.unit w47)
def F145j7(t0:Sl)(t2:Int)(t3:Nat×Array Value)(y1:Nat->Int×Int->World->Prop)(b3:Nat)(x4:Int×Int)(n26:Int)(y81:Nat->Int->World->Prop)(b83:Nat)(n84:Int)(w85:World):Prop:=IfB (decide (n84<t2)) (Qx t0.1 n84 (t0.2:Int) fun b88 b89=>∃(x90:Int×Int),CellsAt w85.drew b88 (b89+n84.toNat*2) [Qz x90.1,Qz x90.2]/\Qx t0.1 (IntKind.i64.wrap (n84-1)) (t0.2:Int) fun b91 b92=>∃(x93:Int×Int),CellsAt w85.drew b91 (b92+(IntKind.i64.wrap (n84-1)).toNat*2) [Qz x93.1,Qz x93.2]/\Cx t3.1 { toList:=Value.agg #[Qz x90.1,Qz x90.2]::Value.agg #[Qz x93.1,Qz x93.2]::t3.snd.1 } w85.drew fun v94 w95=>∃n96:Int,v94=Qz n96/\IfB (!decide (n96<0)) (([]:List Df)=[]/\∃b97:Nat,b97<b3/\y1 b97 (n26,IntKind.i64.wrap (x4.2+1)) w95) (Qx t0.1 (IntKind.i64.wrap (n84-1)) (t0.2:Int) fun b98 b99=>∃(x100:Int×Int),CellsAt w95.drew b98 (b99+(IntKind.i64.wrap (n84-1)).toNat*2) [Qz x100.1,Qz x100.2]/\Qx t0.1 n84 (t0.2:Int) fun b101 b102=>∃(x103:Int×Int),CellsAt w95.drew b101 (b102+n84.toNat*2) [Qz x103.1,Qz x103.2]/\Qx t0.1 n84 (t0.2:Int) fun b104 b105=>#[Qz x100.1,Qz x100.2].size=2/\StoreP w95.drew b104 (b105+n84.toNat*2) [Qz x100.1,Qz x100.2] fun w106=>Qx t0.1 (IntKind.i64.wrap (n84-1)) (t0.2:Int) fun b107 b108=>#[Qz x103.1,Qz x103.2].size=2/\StoreP w106 b107 (b108+(IntKind.i64.wrap (n84-1)).toNat*2) [Qz x103.1,Qz x103.2] fun w109=>([]:List Df)=[]/\∃b110:Nat,b110<b83/\y81 b110 (IntKind.i64.wrap (n84+1)) w109)) (([]:List Df)=[]/\∃b111:Nat,b111<b3/\y1 b111 (n26,IntKind.i64.wrap (x4.2+1)) w85)
def F145j5(t0:Sl)(t2:Int)(t3:Nat×Array Value)(y1:Nat->Int×Int->World->Prop)(b3:Nat)(x4:Int×Int)(n26:Int)(w73:World):Prop:=∃(y76:Bool->World->Prop),(([]:List Df)=[]/\y76 (decide (2<=IntKind.i64.wrap (t2-n26))) w73)/\∀(t77:Bool)(w78:World)(y79:Nat->Value),y76 t77 w78->IfB t77 (Ql (α:=Int) (IntKind.i64.wrap (n26+1)) w78 fun y81 b83 n84 w85=>(F145j7 t0 t2 t3 y1 b3 x4 n26 y81 b83 n84 w85)) (([]:List Df)=[]/\∃b112:Nat,b112<b3/\y1 b112 (n26,IntKind.i64.wrap (x4.2+1)) w78)
def F145j3(t0:Sl)(t1:Int)(t2:Int)(t3:Nat×Array Value)(R:RV)(y1:Nat->Int×Int->World->Prop)(b3:Nat)(x4:Int×Int)(n26:Int)(w27:World):Prop:=IfB (n26 == t2) (R (Value.bool true) w27) (IfB (decide (IntKind.i64.wrap (t2-t1)<50)) (R (Value.bool false) w27) (Qx t0.1 (IntKind.i64.wrap (n26-1)) (t0.2:Int) fun b30 b31=>∃(x32:Int×Int),CellsAt w27.drew b30 (b31+(IntKind.i64.wrap (n26-1)).toNat*2) [Qz x32.1,Qz x32.2]/\Qx t0.1 n26 (t0.2:Int) fun b33 b34=>∃(x35:Int×Int),CellsAt w27.drew b33 (b34+n26.toNat*2) [Qz x35.1,Qz x35.2]/\Qx t0.1 n26 (t0.2:Int) fun b36 b37=>#[Qz x32.1,Qz x32.2].size=2/\StoreP w27.drew b36 (b37+n26.toNat*2) [Qz x32.1,Qz x32.2] fun w38=>Qx t0.1 (IntKind.i64.wrap (n26-1)) (t0.2:Int) fun b39 b40=>#[Qz x35.1,Qz x35.2].size=2/\StoreP w38 b39 (b40+(IntKind.i64.wrap (n26-1)).toNat*2) [Qz x35.1,Qz x35.2] fun w41=>∃(y42:Unit->World->Prop),IfB (decide (2<=IntKind.i64.wrap (n26-t1))) (Ql (α:=Int) (IntKind.i64.wrap (n26-1)) w41 fun y43 b45 n46 w47=>(F145j4 t0 t3 y42 y43 b45 n46 w47)) (([]:List Df)=[]/\y42 PUnit.unit w41)/\∀(y72:Unit)(w73:World)(y74:Nat->Value),y42 y72 w73->(F145j5 t0 t2 t3 y1 b3 x4 n26 w73)))
theorem F145_ok(t0:Sl)(t1:Int)(t2:Int)(t3:Nat×Array Value)(w:World)(R:RV)(h:Ql (α:=Int×Int) (IntKind.i64.wrap (t1+1),0) w fun y1 b3 x4 w5=>IfB (decide (x4.snd<5)) (∃(y8:Int->World->Prop),(Ql (α:=Int) x4.1 w5 fun y9 b11 n12 w13=>(F145j2 t0 t2 t3 y8 y9 b11 n12 w13))/\∀(n26:Int)(w27:World)(y28:Nat->Value),y8 n26 w27->(F145j3 t0 t1 t2 t3 R y1 b3 x4 n26 w27)) (R (Value.bool false) w5)):Cw 145 #[Qy t0,Qz t1,Qz t2,Value.func (Fn.func t3.1) #[] t3.2] w R:=
 ckF Tryz.func145 (nd (nd (.node (nd (.loop [(9,oi),(10,oi)] (rg [8,12,15,140]) (nd (.node (.join [(9,oi)] (rg [9,9,19,38]) (.loop [(9,oi)] (rg [9,9,19,38]) (.node (.node (.draw (sts [0,1,2,3,4,5,6,7,8,9,10,11,12,13] (.ac 14 [] (sts [15,16,17] .fin) .non))) .nil) .nil)) (nd (nd (.node (.draw (sts [0,1,2,3,4,5,6,7,8,9,10,11,12,13,14] (.ac 15 [4,3,2] (.st 16 (.ac 17 [] .fin .non)) .non))) (.join [] (rg [11,11,62,100]) (nd (.node (nd (.loop [(11,oi)] (rg [11,11,68,100]) (nd (.node (.node (.node (.draw (sts [0,1,2,3,4,5,6,7,8,9] (.ac 10 [] (sts [11,12] .fin) .non))) .nil) (.draw (sts [0,1,2,3,4,5,6,7,8,9,10,11,12,13,14] (.ac 15 [4,3,2] (.st 16 (.ac 17 [] .fin .non)) .non)))) .nil)))) .nil)) (.join [(104,ob)] [101,102,103,104] .nil (.node (nd (.loop [(12,oi)] (rg [12,12,107,140]) (nd (.node (.node (.node (.draw (sts [0,1,2,3,4,5,6,7,8,9] (.ac 10 [] (sts [11,12] .fin) .non))) .nil) (.draw (sts [0,1,2,3,4,5,6,7,8,9,10,11,12,13,14] (.ac 15 [4,3,2] (.st 16 (.ac 17 [] .fin .non)) .non)))) .nil)))) .nil))))))) .nil)))) .nil))) h (by kernel_rfl) (by kernel_rfl)
def F146j2(t0:Sl)(t1:Int)(t4:Nat×Array Value)(x16:Int×Int)(y20:Int->World->Prop)(y21:Nat->Int->World->Prop)(b23:Nat)(n24:Int)(w25:World):Prop:=IfB (decide (n24<=x16.snd)) (Qx t0.1 t1 (t0.2:Int) fun b28 b29=>∃(x30:Int×Int),CellsAt w25.drew b28 (b29+t1.toNat*2) [Qz x30.1,Qz x30.2]/\Qx t0.1 n24 (t0.2:Int) fun b31 b32=>∃(x33:Int×Int),CellsAt w25.drew b31 (b32+n24.toNat*2) [Qz x33.1,Qz x33.2]/\Cx t4.1 { toList:=Value.agg #[Qz x30.1,Qz x30.2]::Value.agg #[Qz x33.1,Qz x33.2]::t4.snd.1 } w25.drew fun v34 w35=>∃n36:Int,v34=Qz n36/\IfB (!decide (n36<0)) (([]:List Df)=[]/\∃b37:Nat,b37<b23/\y21 b37 (IntKind.i64.wrap (n24+1)) w35) (([]:List Df)=[]/\y20 n24 w35)) (([]:List Df)=[]/\y20 n24 w25.drew)
def F146j4(t0:Sl)(t1:Int)(t4:Nat×Array Value)(n38:Int)(y42:Int->World->Prop)(y43:Nat->Int->World->Prop)(b45:Nat)(n46:Int)(w47:World):Prop:=IfB (decide (n38<=n46)) (Qx t0.1 t1 (t0.2:Int) fun b50 b51=>∃(x52:Int×Int),CellsAt w47.drew b50 (b51+t1.toNat*2) [Qz x52.1,Qz x52.2]/\Qx t0.1 n46 (t0.2:Int) fun b53 b54=>∃(x55:Int×Int),CellsAt w47.drew b53 (b54+n46.toNat*2) [Qz x55.1,Qz x55.2]/\Cx t4.1 { toList:=Value.agg #[Qz x52.1,Qz x52.2]::Value.agg #[Qz x55.1,Qz x55.2]::t4.snd.1 } w47.drew fun v56 w57=>∃n58:Int,v56=Qz n58/\IfB (decide (n58<0)) (([]:List Df)=[]/\∃b59:Nat,b59<b45/\y43 b59 (IntKind.i64.wrap (n46-1)) w57) (([]:List Df)=[]/\y42 n46 w57)) (([]:List Df)=[]/\y42 n46 w47.drew)
def F146j5(t0:Sl)(R:RV)(y13:Nat->Int×Int->World->Prop)(b15:Nat)(n38:Int)(n60:Int)(w61:World):Prop:=IfB (decide (n60<n38)) (R (Qz n38) w61) (Qx t0.1 n60 (t0.2:Int) fun b64 b65=>∃(x66:Int×Int),CellsAt w61.drew b64 (b65+n60.toNat*2) [Qz x66.1,Qz x66.2]/\Qx t0.1 n38 (t0.2:Int) fun b67 b68=>∃(x69:Int×Int),CellsAt w61.drew b67 (b68+n38.toNat*2) [Qz x69.1,Qz x69.2]/\Qx t0.1 n38 (t0.2:Int) fun b70 b71=>#[Qz x66.1,Qz x66.2].size=2/\StoreP w61.drew b70 (b71+n38.toNat*2) [Qz x66.1,Qz x66.2] fun w72=>Qx t0.1 n60 (t0.2:Int) fun b73 b74=>#[Qz x69.1,Qz x69.2].size=2/\StoreP w72 b73 (b74+n60.toNat*2) [Qz x69.1,Qz x69.2] fun w75=>([]:List Df)=[]/\∃b76:Nat,b76<b15/\y13 b76 (IntKind.i64.wrap (n38+1),IntKind.i64.wrap (n60-1)) w75)
def F146j1(t0:Sl)(t1:Int)(t4:Nat×Array Value)(R:RV)(y13:Nat->Int×Int->World->Prop)(b15:Nat)(x16:Int×Int)(w17:World):Prop:=∃(y20:Int->World->Prop),(Ql (α:=Int) x16.1 w17 fun y21 b23 n24 w25=>(F146j2 t0 t1 t4 x16 y20 y21 b23 n24 w25))/\∀(n38:Int)(w39:World)(y40:Nat->Value),y20 n38 w39->∃(y42:Int->World->Prop),(Ql (α:=Int) x16.2 w39 fun y43 b45 n46 w47=>(F146j4 t0 t1 t4 n38 y42 y43 b45 n46 w47))/\∀(n60:Int)(w61:World)(y62:Nat->Value),y42 n60 w61->(F146j5 t0 R y13 b15 n38 n60 w61)
theorem F146_ok(t0:Sl)(t1:Int)(t2:Int)(t3:Int)(t4:Nat×Array Value)(w:World)(R:RV)(h:Qx t0.1 t3 (t0.2:Int) fun b1 b2=>∃(x3:Int×Int),CellsAt w.drew b1 (b2+t3.toNat*2) [Qz x3.1,Qz x3.2]/\Qx t0.1 t1 (t0.2:Int) fun b4 b5=>∃(x6:Int×Int),CellsAt w.drew b4 (b5+t1.toNat*2) [Qz x6.1,Qz x6.2]/\Qx t0.1 t1 (t0.2:Int) fun b7 b8=>#[Qz x3.1,Qz x3.2].size=2/\StoreP w.drew b7 (b8+t1.toNat*2) [Qz x3.1,Qz x3.2] fun w9=>Qx t0.1 t3 (t0.2:Int) fun b10 b11=>#[Qz x6.1,Qz x6.2].size=2/\StoreP w9 b10 (b11+t3.toNat*2) [Qz x6.1,Qz x6.2] fun w12=>Ql (α:=Int×Int) (IntKind.i64.wrap (t1+1),IntKind.i64.wrap (t2-1)) w12 fun y13 b15 x16 w17=>(F146j1 t0 t1 t4 R y13 b15 x16 w17)):Cw 146 #[Qy t0,Qz t1,Qz t2,Qz t3,Value.func (Fn.func t4.1) #[] t4.2] w R:=
 ckF Tryz.func146 (nd (.node (.draw (sts [0,1,2,3,4,5,6,7,8,9,10,11,12] (.ac 13 [3,2] (.st 14 (.ac 15 [] .fin .non)) .non))) (nd (.node (.loop [(11,oi),(12,oi)] (rg [11,12,31,88]) (.join [(11,oi)] (rg [11,11,31,49]) (.loop [(11,oi)] (rg [11,11,31,49]) (.node (.node (.draw (sts [0,1,2,3,4,5,6,7,8,9,10,11,12] (.ac 13 [] (sts [14,15,16] .fin) .non))) .nil) .nil)) (.join [(12,oi)] (rg [12,12,50,67]) (.loop [(12,oi)] (rg [12,12,50,67]) (.node (.node (.draw (sts [0,1,2,3,4,5,6,7,8,9,10,11,12] (.ac 13 [] (sts [14,15] .fin) .non))) .nil) .nil)) (nd (.node (.draw (sts [0,1,2,3,4,5,6,7,8,9,10,11,12] (.ac 13 [3,2] (.st 14 (.ac 15 [] .fin .non)) .non))) .nil))))) .nil)))) h (by kernel_rfl) (by kernel_rfl)
def F147j1(t0:Sl)(t1:Int)(t2:Int)(t4:Nat×Array Value)(y13:Int->World->Prop)(y14:Nat->Int->World->Prop)(b16:Nat)(n17:Int)(w18:World):Prop:=IfB (decide (n17<=IntKind.i64.wrap (t2-1))) (Qx t0.1 n17 (t0.2:Int) fun b21 b22=>∃(x23:Int×Int),CellsAt w18.drew b21 (b22+n17.toNat*2) [Qz x23.1,Qz x23.2]/\Qx t0.1 t1 (t0.2:Int) fun b24 b25=>∃(x26:Int×Int),CellsAt w18.drew b24 (b25+t1.toNat*2) [Qz x26.1,Qz x26.2]/\Cx t4.1 { toList:=Value.agg #[Qz x23.1,Qz x23.2]::Value.agg #[Qz x26.1,Qz x26.2]::t4.snd.1 } w18.drew fun v27 w28=>∃n29:Int,v27=Qz n29/\IfB (decide (n29<0)) (([]:List Df)=[]/\∃b30:Nat,b30<b16/\y14 b30 (IntKind.i64.wrap (n17+1)) w28) (([]:List Df)=[]/\y13 n17 w28)) (([]:List Df)=[]/\y13 n17 w18.drew)
def F147j3(t0:Sl)(t1:Int)(t4:Nat×Array Value)(n31:Int)(y35:Int->World->Prop)(y36:Nat->Int->World->Prop)(b38:Nat)(n39:Int)(w40:World):Prop:=IfB (decide (n31<=n39)) (Qx t0.1 n39 (t0.2:Int) fun b43 b44=>∃(x45:Int×Int),CellsAt w40.drew b43 (b44+n39.toNat*2) [Qz x45.1,Qz x45.2]/\Qx t0.1 t1 (t0.2:Int) fun b46 b47=>∃(x48:Int×Int),CellsAt w40.drew b46 (b47+t1.toNat*2) [Qz x48.1,Qz x48.2]/\Cx t4.1 { toList:=Value.agg #[Qz x45.1,Qz x45.2]::Value.agg #[Qz x48.1,Qz x48.2]::t4.snd.1 } w40.drew fun v49 w50=>∃n51:Int,v49=Qz n51/\IfB (!decide (n51<0)) (([]:List Df)=[]/\∃b52:Nat,b52<b38/\y36 b52 (IntKind.i64.wrap (n39-1)) w50) (([]:List Df)=[]/\y35 n39 w50)) (([]:List Df)=[]/\y35 n39 w40.drew)
def F147j6(t0:Sl)(t1:Int)(t4:Nat×Array Value)(x84:Int×Int)(y88:Int->World->Prop)(y89:Nat->Int->World->Prop)(b91:Nat)(n92:Int)(w93:World):Prop:=IfB (decide (n92<=x84.snd)) (Qx t0.1 n92 (t0.2:Int) fun b96 b97=>∃(x98:Int×Int),CellsAt w93.drew b96 (b97+n92.toNat*2) [Qz x98.1,Qz x98.2]/\Qx t0.1 t1 (t0.2:Int) fun b99 b100=>∃(x101:Int×Int),CellsAt w93.drew b99 (b100+t1.toNat*2) [Qz x101.1,Qz x101.2]/\Cx t4.1 { toList:=Value.agg #[Qz x98.1,Qz x98.2]::Value.agg #[Qz x101.1,Qz x101.2]::t4.snd.1 } w93.drew fun v102 w103=>∃n104:Int,v102=Qz n104/\IfB (decide (n104<0)) (([]:List Df)=[]/\∃b105:Nat,b105<b91/\y89 b105 (IntKind.i64.wrap (n92+1)) w103) (([]:List Df)=[]/\y88 n92 w103)) (([]:List Df)=[]/\y88 n92 w93.drew)
def F147j8(t0:Sl)(t1:Int)(t4:Nat×Array Value)(n106:Int)(y110:Int->World->Prop)(y111:Nat->Int->World->Prop)(b113:Nat)(n114:Int)(w115:World):Prop:=IfB (decide (n106<=n114)) (Qx t0.1 n114 (t0.2:Int) fun b118 b119=>∃(x120:Int×Int),CellsAt w115.drew b118 (b119+n114.toNat*2) [Qz x120.1,Qz x120.2]/\Qx t0.1 t1 (t0.2:Int) fun b121 b122=>∃(x123:Int×Int),CellsAt w115.drew b121 (b122+t1.toNat*2) [Qz x123.1,Qz x123.2]/\Cx t4.1 { toList:=Value.agg #[Qz x120.1,Qz x120.2]::Value.agg #[Qz x123.1,Qz x123.2]::t4.snd.1 } w115.drew fun v124 w125=>∃n126:Int,v124=Qz n126/\IfB (!decide (n126<0)) (([]:List Df)=[]/\∃b127:Nat,b127<b113/\y111 b127 (IntKind.i64.wrap (n114-1)) w125) (([]:List Df)=[]/\y110 n114 w125)) (([]:List Df)=[]/\y110 n114 w115.drew)
def F147j9(t0:Sl)(t1:Int)(R:RV)(y81:Nat->Int×Int->World->Prop)(b83:Nat)(n106:Int)(n128:Int)(w129:World):Prop:=IfB (decide (n128<n106)) (Qx t0.1 t1 (t0.2:Int) fun b132 b133=>∃(x134:Int×Int),CellsAt w129.drew b132 (b133+t1.toNat*2) [Qz x134.1,Qz x134.2]/\Qx t0.1 n128 (t0.2:Int) fun b135 b136=>∃(x137:Int×Int),CellsAt w129.drew b135 (b136+n128.toNat*2) [Qz x137.1,Qz x137.2]/\Qx t0.1 n128 (t0.2:Int) fun b138 b139=>#[Qz x134.1,Qz x134.2].size=2/\StoreP w129.drew b138 (b139+n128.toNat*2) [Qz x134.1,Qz x134.2] fun w140=>Qx t0.1 t1 (t0.2:Int) fun b141 b142=>#[Qz x137.1,Qz x137.2].size=2/\StoreP w140 b141 (b142+t1.toNat*2) [Qz x137.1,Qz x137.2] fun w143=>R (Value.tuple #[Qz n128,Value.bool false]) w143) (Qx t0.1 n128 (t0.2:Int) fun b144 b145=>∃(x146:Int×Int),CellsAt w129.drew b144 (b145+n128.toNat*2) [Qz x146.1,Qz x146.2]/\Qx t0.1 n106 (t0.2:Int) fun b147 b148=>∃(x149:Int×Int),CellsAt w129.drew b147 (b148+n106.toNat*2) [Qz x149.1,Qz x149.2]/\Qx t0.1 n106 (t0.2:Int) fun b150 b151=>#[Qz x146.1,Qz x146.2].size=2/\StoreP w129.drew b150 (b151+n106.toNat*2) [Qz x146.1,Qz x146.2] fun w152=>Qx t0.1 n128 (t0.2:Int) fun b153 b154=>#[Qz x149.1,Qz x149.2].size=2/\StoreP w152 b153 (b154+n128.toNat*2) [Qz x149.1,Qz x149.2] fun w155=>([]:List Df)=[]/\∃b156:Nat,b156<b83/\y81 b156 (IntKind.i64.wrap (n106+1),IntKind.i64.wrap (n128-1)) w155)
def F147j5(t0:Sl)(t1:Int)(t4:Nat×Array Value)(R:RV)(y81:Nat->Int×Int->World->Prop)(b83:Nat)(x84:Int×Int)(w85:World):Prop:=∃(y88:Int->World->Prop),(Ql (α:=Int) x84.1 w85 fun y89 b91 n92 w93=>(F147j6 t0 t1 t4 x84 y88 y89 b91 n92 w93))/\∀(n106:Int)(w107:World)(y108:Nat->Value),y88 n106 w107->∃(y110:Int->World->Prop),(Ql (α:=Int) x84.2 w107 fun y111 b113 n114 w115=>(F147j8 t0 t1 t4 n106 y110 y111 b113 n114 w115))/\∀(n128:Int)(w129:World)(y130:Nat->Value),y110 n128 w129->(F147j9 t0 t1 R y81 b83 n106 n128 w129)
def F147j4(t0:Sl)(t1:Int)(t4:Nat×Array Value)(R:RV)(n31:Int)(n53:Int)(w54:World):Prop:=IfB (decide (n53<n31)) (Qx t0.1 t1 (t0.2:Int) fun b57 b58=>∃(x59:Int×Int),CellsAt w54.drew b57 (b58+t1.toNat*2) [Qz x59.1,Qz x59.2]/\Qx t0.1 n53 (t0.2:Int) fun b60 b61=>∃(x62:Int×Int),CellsAt w54.drew b60 (b61+n53.toNat*2) [Qz x62.1,Qz x62.2]/\Qx t0.1 n53 (t0.2:Int) fun b63 b64=>#[Qz x59.1,Qz x59.2].size=2/\StoreP w54.drew b63 (b64+n53.toNat*2) [Qz x59.1,Qz x59.2] fun w65=>Qx t0.1 t1 (t0.2:Int) fun b66 b67=>#[Qz x62.1,Qz x62.2].size=2/\StoreP w65 b66 (b67+t1.toNat*2) [Qz x62.1,Qz x62.2] fun w68=>R (Value.tuple #[Qz n53,Value.bool true]) w68) (Qx t0.1 n53 (t0.2:Int) fun b69 b70=>∃(x71:Int×Int),CellsAt w54.drew b69 (b70+n53.toNat*2) [Qz x71.1,Qz x71.2]/\Qx t0.1 n31 (t0.2:Int) fun b72 b73=>∃(x74:Int×Int),CellsAt w54.drew b72 (b73+n31.toNat*2) [Qz x74.1,Qz x74.2]/\Qx t0.1 n31 (t0.2:Int) fun b75 b76=>#[Qz x71.1,Qz x71.2].size=2/\StoreP w54.drew b75 (b76+n31.toNat*2) [Qz x71.1,Qz x71.2] fun w77=>Qx t0.1 n53 (t0.2:Int) fun b78 b79=>#[Qz x74.1,Qz x74.2].size=2/\StoreP w77 b78 (b79+n53.toNat*2) [Qz x74.1,Qz x74.2] fun w80=>Ql (α:=Int×Int) (IntKind.i64.wrap (n31+1),IntKind.i64.wrap (n53-1)) w80 fun y81 b83 x84 w85=>(F147j5 t0 t1 t4 R y81 b83 x84 w85))
theorem F147_ok(t0:Sl)(t1:Int)(t2:Int)(t3:Int)(t4:Nat×Array Value)(w:World)(R:RV)(h:Qx t0.1 t3 (t0.2:Int) fun b1 b2=>∃(x3:Int×Int),CellsAt w.drew b1 (b2+t3.toNat*2) [Qz x3.1,Qz x3.2]/\Qx t0.1 t1 (t0.2:Int) fun b4 b5=>∃(x6:Int×Int),CellsAt w.drew b4 (b5+t1.toNat*2) [Qz x6.1,Qz x6.2]/\Qx t0.1 t1 (t0.2:Int) fun b7 b8=>#[Qz x3.1,Qz x3.2].size=2/\StoreP w.drew b7 (b8+t1.toNat*2) [Qz x3.1,Qz x3.2] fun w9=>Qx t0.1 t3 (t0.2:Int) fun b10 b11=>#[Qz x6.1,Qz x6.2].size=2/\StoreP w9 b10 (b11+t3.toNat*2) [Qz x6.1,Qz x6.2] fun w12=>∃(y13:Int->World->Prop),(Ql (α:=Int) (IntKind.i64.wrap (t1+1)) w12 fun y14 b16 n17 w18=>(F147j1 t0 t1 t2 t4 y13 y14 b16 n17 w18))/\∀(n31:Int)(w32:World)(y33:Nat->Value),y13 n31 w32->∃(y35:Int->World->Prop),(Ql (α:=Int) (IntKind.i64.wrap (t2-1)) w32 fun y36 b38 n39 w40=>(F147j3 t0 t1 t4 n31 y35 y36 b38 n39 w40))/\∀(n53:Int)(w54:World)(y55:Nat->Value),y35 n53 w54->(F147j4 t0 t1 t4 R n31 n53 w54)):Cw 147 #[Qy t0,Qz t1,Qz t2,Qz t3,Value.func (Fn.func t4.1) #[] t4.2] w R:=
 ckF Tryz.func147 (nd (.node (.draw (sts [0,1,2,3,4,5,6,7,8,9,10,11,12] (.ac 13 [3,2] (.st 14 (.ac 15 [] .fin .non)) .non))) (nd (.join [(12,oi)] (rg [12,12,32,49]) (.loop [(12,oi)] (rg [12,12,32,49]) (.node (.node (.draw (sts [0,1,2,3,4,5,6,7,8,9,10,11,12] (.ac 13 [] (sts [14,15] .fin) .non))) .nil) .nil)) (.join [(13,oi)] (rg [13,13,50,68]) (.loop [(13,oi)] (rg [13,13,50,68]) (.node (.node (.draw (sts [0,1,2,3,4,5,6,7,8,9,10,11,12] (.ac 13 [] (sts [14,15,16] .fin) .non))) .nil) .nil)) (.node (nd (.node (.node (.draw (sts [0,1,2,3,4,5,6,7,8,9,10,11,12] (.ac 13 [3,2] (.st 14 (.ac 15 [] .fin .non)) .non))) .nil) .nil)) (.node (.draw (sts [0,1,2,3,4,5,6,7,8,9,10,11,12] (.ac 13 [3,2] (.st 14 (.ac 15 [] .fin .non)) .non))) (nd (nd (.node (.loop [(12,oi),(13,oi)] (rg [12,13,105,162]) (.join [(12,oi)] (rg [12,12,105,122]) (.loop [(12,oi)] (rg [12,12,105,122]) (.node (.node (.draw (sts [0,1,2,3,4,5,6,7,8,9,10,11,12] (.ac 13 [] (sts [14,15] .fin) .non))) .nil) .nil)) (.join [(13,oi)] (rg [13,13,123,141]) (.loop [(13,oi)] (rg [13,13,123,141]) (.node (.node (.draw (sts [0,1,2,3,4,5,6,7,8,9,10,11,12] (.ac 13 [] (sts [14,15,16] .fin) .non))) .nil) .nil)) (nd (.node (.draw (sts [0,1,2,3,4,5,6,7,8,9,10,11,12] (.ac 13 [3,2] (.st 14 (.ac 15 [] .fin .non)) .non))) .nil))))) (.node (.draw (sts [0,1,2,3,4,5,6,7,8,9,10,11,12] (.ac 13 [3,2] (.st 14 (.ac 15 [] .fin .non)) .non))) .nil))))))))))) h (by kernel_rfl) (by kernel_rfl)
def F161j2(t0:Sl)(t3:Int)(t4:Nat×Array Value)(R:RV)(y1:Nat->Int->World->Prop)(b3:Nat)(n4:Int)(n18:Int)(w19:World):Prop:=Qx t0.1 (IntKind.i64.wrap (t3+n4)) (t0.2:Int) fun b22 b23=>∃(x24:Int×Int),CellsAt w19.drew b22 (b23+(IntKind.i64.wrap (t3+n4)).toNat*2) [Qz x24.1,Qz x24.2]/\Qx t0.1 (IntKind.i64.wrap (t3+n18)) (t0.2:Int) fun b25 b26=>∃(x27:Int×Int),CellsAt w19.drew b25 (b26+(IntKind.i64.wrap (t3+n18)).toNat*2) [Qz x27.1,Qz x27.2]/\Cx t4.1 { toList:=Value.agg #[Qz x24.1,Qz x24.2]::Value.agg #[Qz x27.1,Qz x27.2]::t4.snd.1 } w19.drew fun v28 w29=>∃n30:Int,v28=Qz n30/\IfB (!decide (n30<0)) (R (Value.tuple #[]) w29) (Qx t0.1 (IntKind.i64.wrap (t3+n18)) (t0.2:Int) fun b31 b32=>∃(x33:Int×Int),CellsAt w29.drew b31 (b32+(IntKind.i64.wrap (t3+n18)).toNat*2) [Qz x33.1,Qz x33.2]/\Qx t0.1 (IntKind.i64.wrap (t3+n4)) (t0.2:Int) fun b34 b35=>∃(x36:Int×Int),CellsAt w29.drew b34 (b35+(IntKind.i64.wrap (t3+n4)).toNat*2) [Qz x36.1,Qz x36.2]/\Qx t0.1 (IntKind.i64.wrap (t3+n4)) (t0.2:Int) fun b37 b38=>#[Qz x33.1,Qz x33.2].size=2/\StoreP w29.drew b37 (b38+(IntKind.i64.wrap (t3+n4)).toNat*2) [Qz x33.1,Qz x33.2] fun w39=>Qx t0.1 (IntKind.i64.wrap (t3+n18)) (t0.2:Int) fun b40 b41=>#[Qz x36.1,Qz x36.2].size=2/\StoreP w39 b40 (b41+(IntKind.i64.wrap (t3+n18)).toNat*2) [Qz x36.1,Qz x36.2] fun w42=>([]:List Df)=[]/\∃b43:Nat,b43<b3/\y1 b43 n18 w42)
def F161j1(t0:Sl)(t2:Int)(t3:Int)(t4:Nat×Array Value)(R:RV)(y1:Nat->Int->World->Prop)(b3:Nat)(n4:Int)(w5:World):Prop:=IfB (decide (t2<=IntKind.i64.wrap (IntKind.i64.wrap (2*n4)+1))) (R (Value.tuple #[]) w5) (∃(y8:Int->World->Prop),IfB (decide (IntKind.i64.wrap (IntKind.i64.wrap (IntKind.i64.wrap (2*n4)+1)+1)<t2)) (Qx t0.1 (IntKind.i64.wrap (t3+IntKind.i64.wrap (IntKind.i64.wrap (2*n4)+1))) (t0.2:Int) fun b9 b10=>∃(x11:Int×Int),CellsAt w5.drew b9 (b10+(IntKind.i64.wrap (t3+IntKind.i64.wrap (IntKind.i64.wrap (2*n4)+1))).toNat*2) [Qz x11.1,Qz x11.2]/\Qx t0.1 (IntKind.i64.wrap (IntKind.i64.wrap (t3+IntKind.i64.wrap (IntKind.i64.wrap (2*n4)+1))+1)) (t0.2:Int) fun b12 b13=>∃(x14:Int×Int),CellsAt w5.drew b12 (b13+(IntKind.i64.wrap (IntKind.i64.wrap (t3+IntKind.i64.wrap (IntKind.i64.wrap (2*n4)+1))+1)).toNat*2) [Qz x14.1,Qz x14.2]/\Cx t4.1 { toList:=Value.agg #[Qz x11.1,Qz x11.2]::Value.agg #[Qz x14.1,Qz x14.2]::t4.snd.1 } w5.drew fun v15 w16=>∃n17:Int,v15=Qz n17/\IfB (decide (n17<0)) (([]:List Df)=[]/\y8 (IntKind.i64.wrap (IntKind.i64.wrap (IntKind.i64.wrap (2*n4)+1)+1)) w16) (([]:List Df)=[]/\y8 (IntKind.i64.wrap (IntKind.i64.wrap (2*n4)+1)) w16)) (([]:List Df)=[]/\y8 (IntKind.i64.wrap (IntKind.i64.wrap (2*n4)+1)) w5.drew)/\∀(n18:Int)(w19:World)(y20:Nat->Value),y8 n18 w19->(F161j2 t0 t3 t4 R y1 b3 n4 n18 w19))
theorem F161_ok(t0:Sl)(t1:Int)(t2:Int)(t3:Int)(t4:Nat×Array Value)(w:World)(R:RV)(h:Ql (α:=Int) t1 w fun y1 b3 n4 w5=>(F161j1 t0 t2 t3 t4 R y1 b3 n4 w5)):Cw 161 #[Qy t0,Qz t1,Qz t2,Qz t3,Value.func (Fn.func t4.1) #[] t4.2] w R:=
 ckF Tryz.func161 (nd (.loop [(10,oi)] (rg [10,11,13,81]) (nd (nd (.join [(11,oi)] (rg [11,11,19,42]) (.node (.draw (sts [0,1,2,3,4,5,6,7,8,9,10,11,12,13,14,15,16,17,18] (.ac 19 [] (sts [20,21] .fin) .non))) .nil) (.node (.node (.draw (sts [0,1,2,3,4,5,6,7,8,9,10,11,12] (.ac 13 [] (sts [14,15] .fin) .non))) .nil) (.node (.draw (sts [0,1,2,3,4,5,6,7,8,9,10,11,12,13,14,15,16,17,18,19,20] (.ac 21 [7,6,5,4] (.st 22 (.ac 23 [] .fin .non)) .non))) .nil))))))) h (by kernel_rfl) (by kernel_rfl)
def F164(t0:Sl)(t1:Int)(t2:Option Addr)(t3:Nat×Array Value)(w:World)(R:RV):Prop:=Cx 165 #[Qy t0,Qz (IntKind.i64.wrap (t1-1)),Qz t1,Qz (IntKind.i64.wrap (t1+1)),Value.pointer t2,Value.func (Fn.func t3.1) #[] t3.2] w fun v1 w2=>∃n3:Int,v1=Qz n3/\R (Qz n3) w2
theorem F164_ok(t0:Sl)(t1:Int)(t2:Option Addr)(t3:Nat×Array Value)(w:World)(R:RV)(h:F164 t0 t1 t2 t3 w R):Cw 164 #[Qy t0,Qz t1,Value.pointer t2,Value.func (Fn.func t3.1) #[] t3.2] w R:=
 ckF Tryz.func164 .nil h (by kernel_rfl) (by kernel_rfl)
theorem F165_ok(t0:Sl)(t1:Int)(t2:Int)(t3:Int)(t4:Option Addr)(t5:Nat×Array Value)(w:World)(R:RV)(h:Cx 170 #[Qy t0,Qz t1,Qz t2,Value.pointer t4,Value.func (Fn.func t5.1) #[] t5.2] w fun v1 w2=>∃(x3:Int×Int),v1=Value.tuple #[Qz x3.1,Qz x3.2]/\Cx 170 #[Qy t0,Qz x3.2,Qz t3,Value.pointer t4,Value.func (Fn.func t5.1) #[] t5.2] w2 fun v4 w5=>∃(x6:Int×Int),v4=Value.tuple #[Qz x6.1,Qz x6.2]/\Cx 170 #[Qy t0,Qz x3.1,Qz x6.1,Value.pointer t4,Value.func (Fn.func t5.1) #[] t5.2] w5 fun v7 w8=>∃(x9:Int×Int),v7=Value.tuple #[Qz x9.1,Qz x9.2]/\R (Qz x9.2) w8):Cw 165 #[Qy t0,Qz t1,Qz t2,Qz t3,Value.pointer t4,Value.func (Fn.func t5.1) #[] t5.2] w R:=
 ckF Tryz.func165 .nil h (by kernel_rfl) (by kernel_rfl)
theorem F170_ok(t0:Sl)(t1:Int)(t2:Int)(t3:Option Addr)(t4:Nat×Array Value)(w:World)(R:RV)(h:Qx t0.1 t2 (t0.2:Int) fun b1 b2=>∃(x3:Int×Int),CellsAt w.drew b1 (b2+t2.toNat*2) [Qz x3.1,Qz x3.2]/\Qx t0.1 t1 (t0.2:Int) fun b4 b5=>∃(x6:Int×Int),CellsAt w.drew b4 (b5+t1.toNat*2) [Qz x6.1,Qz x6.2]/\Cx t4.1 { toList:=Value.agg #[Qz x3.1,Qz x3.2]::Value.agg #[Qz x6.1,Qz x6.2]::t4.snd.1 } w.drew fun v7 w8=>∃n9:Int,v7=Qz n9/\IfB (decide (n9<0)) (∃b10:Nat,∃b11:Nat,t3=some ⟨b10,b11,none⟩/\Qi w8 b10 b11 fun n12=>∃b13:Nat,∃b14:Nat,t3=some ⟨b13,b14,none⟩/\#[Qz (IntKind.i64.wrap (n12+1))].size=1/\StoreP w8 b13 b14 [Qz (IntKind.i64.wrap (n12+1))] fun w15=>R (Value.tuple #[Qz t2,Qz t1]) w15) (R (Value.tuple #[Qz t1,Qz t2]) w8)):Cw 170 #[Qy t0,Qz t1,Qz t2,Value.pointer t3,Value.func (Fn.func t4.1) #[] t4.2] w R:=
 ckF Tryz.func170 (nd (.node (.node (.draw (sts [0,1,2,3,4,5,6,7,8] (.ac 9 [] (.st 10 .fin) .non))) .nil) .nil)) h (by kernel_rfl) (by kernel_rfl)
end Go.Proofs.YtoahfpabpdjkkaaGreat.Gx
