/- gimmallaw13.StepApplies returns true for all arguments, and leaves what was there as it was. No condition beyond the statement. -/
/- Merged by pack.py: RefS, RefU, RefV, RefW, GxPH, StpL, StApp. -/
import Derived.Test.YtoahfpabpdjkkaaGreatSa1
import Derived.Test.YtoahfpabpdjkkaaGreatSa2
import Derived.Test.YtoahfpabpdjkkaaGreatSa3
import Derived.Test.YtoahfpabpdjkkaaGreatSa4
import Derived.Test.YtoahfpabpdjkkaaGreatSa5
import Derived.Test.YtoahfpabpdjkkaaGreatRows
import Derived.WalkKit
import Derived.ProofKit
import Derived.OpenShut
import Derived.ShutString
import Derived.Below
import Derived.Carry
namespace Go.Proofs.YtoahfpabpdjkkaaGreat.Gx
open Go
set_option linter.unusedSimpArgs false
set_option linter.unusedVariables false
abbrev mapC(bs:List Bool)(vs:List Int):List Value:=bs.map encB++vs.map iv
structure MapR(w:World)(b:Nat)(bs:List Bool)(vs:List Int):Prop where
 box:∃T,w.heap[b]? =some (.cells (mapC bs vs).toArray T (0,0))
 bl:bs.length=1000
 vl:vs.length=1000
theorem MapR.ch{F:Nat->Prop}{w w':World}{b:Nat}{bs:List Bool}{vs:List Int}(h:MapR w b bs vs)(hc:Ch F w w')(hF:¬F b):MapR w' b bs vs:=by
 obtain⟨⟨T,h1⟩,h2,h3⟩:=h
 exact⟨⟨T,hc.at h1 hF⟩,h2,h3⟩
theorem MapR.ext{w w':World}{b:Nat}{bs:List Bool}{vs:List Int}(h:MapR w b bs vs)(e:Ext w w'):MapR w' b bs vs:=h.ch e id
theorem MapR.isC{w:World}{b:Nat}{bs:List Bool}{vs:List Int}(h:MapR w b bs vs){k:Nat}(hk:k<1000):∃t,bs[k]? =some t/\w.cell? ⟨b,0+0+k,none⟩=some (.bool t):=by
 obtain⟨T,h1⟩:=h.box
 have hx:bs[k]? =some (bs[k]'(by rw[h.bl];exact hk)):=List.getElem?_eq_getElem (by rw[h.bl];exact hk)
 refine⟨_,hx,?_⟩
 rw[cell_of h1,List.getElem?_toArray]
 simp only[Nat.zero_add]
 rw[List.getElem?_append_left (by rw[List.length_map,h.bl];exact hk),List.getElem?_map,hx];rfl
theorem MapR.valC{w:World}{b:Nat}{bs:List Bool}{vs:List Int}(h:MapR w b bs vs){k:Nat}(hk:k<1000):∃v,vs[k]? =some v/\w.cell? ⟨b,0+1000+k,none⟩=some (iv v):=by
 obtain⟨T,h1⟩:=h.box
 have hx:vs[k]? =some (vs[k]'(by rw[h.vl];exact hk)):=List.getElem?_eq_getElem (by rw[h.vl];exact hk)
 refine⟨_,hx,?_⟩
 rw[cell_of h1,List.getElem?_toArray,List.getElem?_append_right (by rw[List.length_map,h.bl];omega),List.length_map,h.bl,show 0+1000+k-1000=k by omega,List.getElem?_map,hx];rfl
theorem MapR.setIs{w:World}{b:Nat}{bs:List Bool}{vs:List Int}(h:MapR w b bs vs){k:Nat}(hk:k<1000)(t:Bool){K:World->Prop}(hK:∀w',MapR w' b (bs.set k t) vs->Ch (fun i=>i=b) w w'->K w'):StoreP w b (0+0+k) [.bool t] K:=by
 obtain⟨T,h1⟩:=h.box
 refine store_one h1 (by simp[h.bl,h.vl];omega) rfl fun w' hu=>hK w' ⟨⟨T,?_⟩,by rw[List.length_set];exact h.bl,h.vl⟩ hu.ch
 rw[hu.new,List.setIfInBounds_toArray]
 simp only[Nat.zero_add]
 rw[List.set_append_left _ _ (by rw[List.length_map,h.bl];exact hk),show Value.bool t=encB t from rfl,<-List.map_set]
theorem MapR.setVal{w:World}{b:Nat}{bs:List Bool}{vs:List Int}(h:MapR w b bs vs){k:Nat}(hk:k<1000)(v:Int){K:World->Prop}(hK:∀w',MapR w' b bs (vs.set k v)->Ch (fun i=>i=b) w w'->K w'):StoreP w b (0+1000+k) [iv v] K:=by
 obtain⟨T,h1⟩:=h.box
 refine store_one h1 (by simp[h.bl,h.vl];omega) rfl fun w' hu=>hK w' ⟨⟨T,?_⟩,h.bl,by rw[List.length_set];exact h.vl⟩ hu.ch
 rw[hu.new,List.setIfInBounds_toArray,List.set_append_right _ _ (by rw[List.length_map,h.bl];omega),List.length_map,h.bl,show 0+1000+k-1000=k by omega,<-List.map_set]
theorem MapR.new{w w':World}{T:TypeId}{b:Nat}(h:IsAlloc w (.cells { toList:=List.replicate 1000 (Value.bool false)++List.replicate 1000 (Value.int IntKind.i64 0) } T (0,0)) b w'):MapR w' b (List.replicate 1000 false) (List.replicate 1000 0):=by
 refine⟨⟨T,?_⟩,by rw[List.length_replicate],by rw[List.length_replicate]⟩
 rw[h.new]
 unfold mapC
 rw[List.map_replicate,List.map_replicate]
 rfl
def stR(bs:List Bool)(vs:List Int)(k:Int):Option Int:=if 0<=k/\k<=999/\bs[k.toNat]? =some true then vs[k.toNat]? else none
theorem stR_put{bs:List Bool}{vs:List Int}(hb:bs.length=1000)(hv:vs.length=1000){k:Nat}(hk:k<1000)(v:Int):stR (bs.set k true) (vs.set k v)=fun j=>if j=(k:Int) then some v else stR bs vs j:=by
 funext j
 unfold stR
 by_cases e:j=(k:Int)
 ·subst e
  rw[if_pos rfl,Int.toNat_natCast,if_pos ⟨by omega,by omega,by rw[List.getElem?_set_self (by omega)]⟩,List.getElem?_set_self (by omega)]
 ·rw[if_neg e]
  by_cases hj:0<=j/\j<=999
  ·rw[List.getElem?_set_ne (by omega),List.getElem?_set_ne (by omega)]
  ·rw[if_neg (fun h=>hj ⟨h.1,h.2.1⟩),if_neg (fun h=>hj ⟨h.1,h.2.1⟩)]
theorem stR_del{bs:List Bool}{vs:List Int}(hb:bs.length=1000){k:Nat}(hk:k<1000):stR (bs.set k false) vs=fun j=>if j=(k:Int) then none else stR bs vs j:=by
 funext j
 unfold stR
 by_cases e:j=(k:Int)
 ·subst e
  rw[if_pos rfl,Int.toNat_natCast,if_neg]
  rw[List.getElem?_set_self (by omega)];simp
 ·rw[if_neg e]
  by_cases hj:0<=j/\j<=999
  ·rw[List.getElem?_set_ne (by omega)]
  ·rw[if_neg (fun h=>hj ⟨h.1,h.2.1⟩),if_neg (fun h=>hj ⟨h.1,h.2.1⟩)]
theorem stR_at{bs:List Bool}{vs:List Int}{k:Nat}{t:Bool}{v:Int}(hk:k<1000)(ht:bs[k]? =some t)(hv:vs[k]? =some v):stR bs vs (k:Int)=if t=true then some v else none:=by
 unfold stR
 rw[Int.toNat_natCast,ht,hv]
 cases t
 ·rw[if_neg (by simp)];rfl
 ·rw[if_pos ⟨by omega,by omega,rfl⟩];rfl
theorem MapR.is{w:World}{b:Nat}{bs:List Bool}{vs:List Int}(h:MapR w b bs vs){k:Nat}(hk:k<1000):w.cell? ⟨b,0+0+k,none⟩=some (.bool (stR bs vs (k:Int)).isSome):=by
 obtain⟨t,ht,hc⟩:=h.isC hk
 obtain⟨v,hv,_⟩:=h.valC hk
 rw[hc,stR_at hk ht hv]
 cases t<;>rfl
theorem MapR.val{w:World}{b:Nat}{bs:List Bool}{vs:List Int}(h:MapR w b bs vs){k:Nat}(hk:k<1000){v:Int}(hs:stR bs vs (k:Int)=some v):w.cell? ⟨b,0+1000+k,none⟩=some (iv v):=by
 obtain⟨t,ht,_⟩:=h.isC hk
 obtain⟨u,hu,hc⟩:=h.valC hk
 rw[stR_at hk ht hu] at hs
 split at hs
 ·cases hs;exact hc
 ·cases hs
def updM(st:Int->Option Int)(k:Int)(v:Option Int)(j:Int):Option Int:=if j=k then v else st j
def ofL(st:Int->Option Int):List Pr->Int->Option Int
 | []=>st
 | x::l=>ofL (if 0<=x.1/\x.1<=999 then updM st x.1 (some x.2) else st) l
theorem ofL_snoc:∀(l:List Pr)(st:Int->Option Int)(x:Pr),ofL st (l++[x])=if 0<=x.1/\x.1<=999 then updM (ofL st l) x.1 (some x.2) else ofL st l
 | [],_,_=>rfl
 | y::l,st,x=>ofL_snoc l _ x
theorem stP_iff{P:List (List Pr)}(hI:Inv P)(k v:Int):stP P k=some v↔(k,v)∈P.flatten:=by
 unfold stP
 constructor
 ·intro h
  split at h
  ·rename_i hk
   cases h
   obtain⟨u,hu⟩:=(has_iff hI k).1 hk.2.2
   rw[valP_is hI hu];exact hu
  ·cases h
 ·intro h
  have hk:=hI.rng _ h
  rw[if_pos ⟨hk.1,hk.2,(has_iff hI k).2 ⟨v,h⟩⟩,valP_is hI h]
theorem optExt{a b:Option Int}(h:∀v,a=some v↔b=some v):a=b:=by
 cases a with
 | none=>cases b with
  | none=>rfl
  | some v=>exact absurd ((h v).2 rfl) (by simp)
 | some v=>exact((h v).1 rfl).symm
theorem stP_put{P:List (List Pr)}(hI:Inv P){k:Int}(hk:0<=k/\k<=999)(v:Int):stP (putP P k v)=updM (stP P) k (some v):=by
 funext j
 refine optExt fun u=>?_
 rw[stP_iff (putP_inv hI hk),putP_flat hI,mem_insS_iff hI.sorted]
 unfold updM
 by_cases e:j=k
 ·subst e
  rw[if_pos rfl]
  simp
  exact eq_comm
 ·rw[if_neg e,stP_iff hI]
  simp[e]
theorem delQ_inv'{P:List (List Pr)}(hI:Inv P)(k:Int):Inv (delQ P k):=by
 unfold delQ
 split
 ·cases hh:hasP P k with
  | false=>rw[if_neg (by simp)];exact hI
  | true=>
   rw[if_pos rfl]
   have hne:P≠[]:=fun e=>by subst e;rw[hasP_nil] at hh;cases hh
   exact(delP_is hI (atP_is hI hne k)).2
 ·exact hI
theorem stP_del{P:List (List Pr)}(hI:Inv P)(k:Int):stP (delQ P k)=updM (stP P) k none:=by
 funext j
 refine optExt fun u=>?_
 rw[stP_iff (delQ_inv' hI k),delQ_flat hI]
 unfold updM delS
 rw[List.mem_filter]
 by_cases e:j=k
 ·subst e;simp
 ·rw[if_neg e,stP_iff hI];simp[e]
theorem stP_nil:stP []=fun _=>none:=by
 funext k;unfold stP;rw[if_neg];rw[hasP_nil];simp
theorem stP_of:∀(l:List Pr)(P:List (List Pr)),Inv P->stP (putL P l)=ofL (stP P) l
 | [],_,_=>rfl
 | x::l,P,hI=>by
  show stP (putL (if 0<=x.1/\x.1<=999 then putP P x.1 x.2 else P) l)=ofL (if 0<=x.1/\x.1<=999 then updM (stP P) x.1 (some x.2) else stP P) l
  split
  ·rename_i hk
   rw[stP_of l _ (putP_inv hI hk),stP_put hI hk]
  ·exact stP_of l P hI
theorem c19{w:World}{t:Sl}{l:List Pr}(h:Rd w t 2 (prs l))(hl:l.length<=1000000):
  Cw 19 #[slV t] w fun v w'=>∃b bs vs,v=.pointer (some ⟨b,0,none⟩)/\MapR w' b bs vs/\stR bs vs=ofL (fun _=>none) l/\w.heap.size<=b/\Ext w w':=by
 have hn:t.n=l.length:=by have:=h.1;rw[prs_len] at this;omega
 refine F19_ok t w _ fun b1 w2 a2=>?_
 have e2:Ext w w2:=a2.ch _
 have p2:=a2.here
 have st0:stR (List.replicate 1000 false) (List.replicate 1000 0)=fun _=>none:=by
  funext k;unfold stR;rw[if_neg];rw[List.getElem?_replicate];rintro⟨_,_,h⟩;split at h<;>cases h
 refine⟨fun n x W=>∃(i:Nat)(bs:List Bool)(vs:List Int),i<=l.length/\n+i=l.length/\x=(i:Int)/\MapR W b1 bs vs/\stR bs vs=ofL (fun _=>none) (l.take i)/\Ext w W,⟨l.length,0,_,_,Nat.zero_le _,rfl,rfl,MapR.new a2,st0,e2⟩,?_⟩
 rintro n _ W g ⟨i,bs,vs,hi,hni,rfl,hM,hst,hE⟩
 unfold F19j1
 refine IfB.dec (fun hlt=>?_) fun hge=>?_
 ·have hi':i<l.length:=by omega
  have hx:l[i]? =some l[i]:=List.getElem?_eq_getElem hi'
  have htk:=take_succ_get hx
  generalize l[i]=x at hx htk
  have get:∀ {V:World},Ext w V->∃b o,t.p=some ⟨b,o,none⟩/\CellsAt V b (o+i*2) [iv x.1,iv x.2]:=fun e=>(h.ext e).elem (i:=i) (by omega) (by decide) (prs_elem hx)
  have hb:(0:Int)<=(i:Int)/\(i:Int)<(t.n:Int):=⟨by omega,by omega⟩
  have hi1:IntKind.i64.wrap ((i:Int)+1)=((i+1:Nat):Int):=by rw[wrap_of (by omega) (by omega)];rfl
  have skip:¬(0<=x.1/\x.1<=999)->stR bs vs=ofL (fun _=>none) (l.take (i+1)):=fun hx=>by rw[htk,ofL_snoc,if_neg hx];exact hst
  obtain⟨pb,po,hp,hc⟩:=get hE
  refine⟨pb,po,hp,hb,x.1,by rw[Int.toNat_natCast];exact hc.fst,IfB.dec (fun h1=>⟨pb,po,hp,hb,x.1,by rw[Int.toNat_natCast];exact hc.fst,IfB.dec (fun h2=>?_) fun h2=>⟨rfl,n-1,by omega,i+1,bs,vs,hi',by omega,hi1,hM,skip (by omega),hE⟩⟩) fun h1=>⟨rfl,n-1,by omega,i+1,bs,vs,hi',by omega,hi1,hM,skip (by omega),hE⟩⟩
  have hkn:((x.1.toNat:Nat):Int)=x.1:=by omega
  have hEd:=hE.trans (extDrew W)
  obtain⟨pb2,po2,hp2,hc2⟩:=get hEd
  refine⟨pb2,po2,hp2,hb,x.1,by rw[Int.toNat_natCast];exact hc2.fst,b1,0,rfl,⟨h1,by omega⟩,rfl,(hM.ext (extDrew W)).setIs (k:=x.1.toNat) (by omega) true fun w21 hM21 hc21=>?_⟩
  have E21:Ext w w21.drew:=(hEd.chN hc21 fun j e=>by omega).trans (extDrew _)
  obtain⟨pb3,po3,hp3,hc3⟩:=get E21
  refine⟨pb3,po3,hp3,hb,x.1,by rw[Int.toNat_natCast];exact hc3.fst,pb3,po3,hp3,hb,x.2,by rw[Int.toNat_natCast];exact hc3.snd,b1,0,rfl,⟨h1,by omega⟩,rfl,(hM21.ext (extDrew _)).setVal (k:=x.1.toNat) (by omega) x.2 fun w30 hM30 hc30=>⟨rfl,n-1,by omega,i+1,_,_,hi',by omega,hi1,hM30,?_,E21.chN hc30 fun j e=>by omega⟩⟩
  rw[stR_put hM.bl hM.vl (by omega),htk,ofL_snoc,if_pos ⟨h1,h2⟩,hst,hkn]
  rfl
 ·have hi':i=l.length:=by omega
  subst hi'
  rw[List.take_length] at hst
  exact⟨b1,bs,vs,rfl,hM,hst,by omega,hE⟩
def pairsL(st:Int->Option Int)(i:Nat):List Pr:=(ranI 0 i).filterMap fun k=>(st k).map fun v=>(k,v)
theorem pairsL_succ(st:Int->Option Int)(i:Nat):pairsL st (i+1)=pairsL st i++(match st (i:Int) with|some v=>[((i:Int),v)]|none=>[]):=by
 unfold pairsL
 rw[ranI_snoc,List.filterMap_append,Int.zero_add]
 congr 1
 cases h:st (i:Int)<;>simp[h]
theorem pairsL_len(st:Int->Option Int)(i:Nat):(pairsL st i).length<=i:=Nat.le_trans (List.length_filterMap_le _ _) (by rw[ranI_len];exact Nat.le_refl _)
theorem mem_pairsL{st:Int->Option Int}{i:Nat}{x:Pr}:x∈pairsL st i↔(0<=x.1/\x.1<(i:Int))/\st x.1=some x.2:=by
 unfold pairsL
 rw[List.mem_filterMap]
 constructor
 ·rintro⟨k,hk,h⟩
  rw[mem_ranI] at hk
  cases hs:st k with
  | none=>rw[hs] at h;cases h
  | some v=>rw[hs] at h;cases h;exact⟨⟨by dsimp only;omega,by dsimp only;omega⟩,hs⟩
 ·rintro⟨hk,h⟩
  exact⟨x.1,mem_ranI.2 (by omega),by rw[h];rfl⟩
theorem pairsL_srt(st:Int->Option Int)(i:Nat):Srt (pairsL st i):=by
 have hk:∀l:List Int,l.Pairwise (· < ·)->((l.filterMap fun k=>(st k).map fun v=>((k,v):Pr)).map (·.1)).Pairwise (· < ·):=by
  intro l
  induction l with
  | nil=>intro _;exact .nil
  | cons k l ih=>
   intro h
   have h':=List.pairwise_cons.1 h
   cases hs:st k with
   | none=>simp only[List.filterMap_cons,hs,Option.map_none];exact ih h'.2
   | some v=>
    simp only[List.filterMap_cons,hs,Option.map_some,List.map_cons,List.pairwise_cons]
    refine⟨fun y hy=>?_,ih h'.2⟩
    obtain⟨z,hz,rfl⟩:=List.mem_map.1 hy
    obtain⟨j,hj,e⟩:=List.mem_filterMap.1 hz
    cases hs':st j with
    | none=>rw[hs'] at e;cases e
    | some u=>rw[hs'] at e;cases e;exact h'.1 j hj
 exact hk _ (ranI_srt 0 i)
set_option maxRecDepth 20000 in
theorem c23{w:World}{b:Nat}{bs:List Bool}{vs:List Int}(h:MapR w b bs vs):
  Cw 23 #[.pointer (some ⟨b,0,none⟩)] w fun v w'=>∃t,v=slV t/\OwS w' t 2 (prs (pairsL (stR bs vs) 1000))/\Ext w w'/\∀j∈blk t,w.heap.size<=j:=by
 refine F23_ok _ w _ ?_
 unfold F23
 refine⟨fun m x W=>∃(i:Nat)(so:Sl),i<=1000/\m+i=1000/\x=(so,(i:Int))/\OwS W so 2 (prs (pairsL (stR bs vs) i))/\Ext w W/\∀j∈blk so,w.heap.size<=j,?_,?_⟩
 ·exact⟨1000,0,⟨none,0,0⟩,by omega,by omega,rfl,.nil _ _,Ch.refl _ _,by simp[blk]⟩
 rintro m _ W g ⟨i,so,hi,hmi,rfl,ho,hE,hb⟩
 unfold F23j1
 refine IfB.dec (fun hlt=>?_) fun hge=>?_
 rotate_left
 ·have hi':i=1000:=by have:¬(i:Int)<1000:=hge;omega
  subst hi'
  exact⟨so,rfl,ho,hE,hb⟩
 have hi':i<1000:=by have:(i:Int)<1000:=hlt;omega
 have hbd:(0:Int)<=(i:Int)/\(i:Int)<((1000:Nat):Int):=⟨by omega,by omega⟩
 have hi1:IntKind.i64.wrap ((i:Int)+1)=((i+1:Nat):Int):=by rw[wrap_of (by omega) (by omega)];rfl
 have hM:=h.ext hE
 have hon:so.n=(pairsL (stR bs vs) i).length:=by have:=ho.len;rw[prs_len] at this;omega
 have hpl:=pairsL_len (stR bs vs) i
 have hps:=pairsL_succ (stR bs vs) i
 refine⟨b,0,rfl,hbd,_,by dsimp only;rw[Int.toNat_natCast];exact hM.is hi',?_⟩
 cases hs:stR bs vs (i:Int) with
 | none=>
  rw[hs,List.append_nil] at hps
  exact IfB.no rfl ⟨rfl,m-1,by omega,i+1,so,hi',by omega,by rw[hi1],by rw[hps];exact ho,hE,hb⟩
 | some v=>
  rw[hs] at hps
  refine IfB.yes rfl ⟨b,0,rfl,hbd,v,by dsimp only;rw[Int.toNat_natCast];exact hM.val hi' hs,by decide,fun b14 w15 a15=>?_⟩
  have e15:Ext W w15:=a15.ch _
  refine(ho.ext e15).lit (new:=prV ((i:Int),v)) (T':=40) a15.new rfl (prV_one _) rfl rfl (by omega) (by decide) fun s' w18 ho' hn' hC' hb'=>⟨rfl,m-1,by omega,i+1,s',hi',by omega,by rw[hi1],?_,(hE.trans e15).then hC' fun j hj h=>(by have:=hb j h;omega),fun j hj=>?_⟩
  ·rw[hps,prs_append];simpa [prs] using ho'
  ·rcases hb' j hj with h|h
   ·exact hb j h
   ·have:=hE.size;have:=e15.size;omega
def appM(st:Int->Option Int):List ChD->Int->Option Int
 | []=>st
 | x::l=>appM (if 0<=x.1/\x.1<=999 then updM st x.1 (if x.2.1=true then none else some x.2.2) else st) l
theorem appM_snoc:∀(l:List ChD)(st:Int->Option Int)(x:ChD),appM st (l++[x])=if 0<=x.1/\x.1<=999 then updM (appM st l) x.1 (if x.2.1=true then none else some x.2.2) else appM st l
 | [],_,_=>rfl
 | y::l,st,x=>appM_snoc l _ x
theorem c25{w:World}{b:Nat}{bs:List Bool}{vs:List Int}{t:Sl}{l:List ChD}(h:MapR w b bs vs)(ht:Rd w t 3 (l.flatMap chL))(hl:l.length<=1000000)(hd:0<t.n->b∉blk t):
  Cw 25 #[.pointer (some ⟨b,0,none⟩),slV t] w fun v w'=>v=.tuple #[]/\∃bs' vs',MapR w' b bs' vs'/\stR bs' vs'=appM (stR bs vs) l/\Ch (fun i=>i=b) w w':=by
 have hn:=rdN chL_len (by omega) ht
 refine F25_ok _ t w _ ⟨fun n x W=>∃(i:Nat)(bs':List Bool)(vs':List Int),i<=l.length/\n+i=l.length/\x=(i:Int)/\MapR W b bs' vs'/\stR bs' vs'=appM (stR bs vs) (l.take i)/\Ch (fun i=>i=b) w W,⟨l.length,0,bs,vs,Nat.zero_le _,rfl,rfl,h,rfl,Ch.refl _ _⟩,?_⟩
 rintro n _ W g ⟨i,bs',vs',hi,hni,rfl,hM,hst,hC⟩
 unfold F25j1
 refine IfB.dec (fun hlt=>?_) fun hge=>?_
 ·have hi':i<l.length:=by omega
  have hx:l[i]? =some l[i]:=List.getElem?_eq_getElem hi'
  have htk:=take_succ_get hx
  generalize l[i]=x at hx htk
  have get:∀ {V:World},Ch (fun i=>i=b) w V->∃pb po,t.p=some ⟨pb,po,none⟩/\CellsAt V pb (po+i*3) (chL x):=fun e=>(ht.ch e fun j hj e=>hd (by omega) (e ▸ hj)).elem (i:=i) (by omega) (by omega) (flatGet chL_len hx)
  have hb:(0:Int)<=(i:Int)/\(i:Int)<(t.n:Int):=⟨by omega,by omega⟩
  have hi1:IntKind.i64.wrap ((i:Int)+1)=((i+1:Nat):Int):=by rw[wrap_of (by omega) (by omega)];rfl
  have skip:¬(0<=x.1/\x.1<=999)->stR bs' vs'=appM (stR bs vs) (l.take (i+1)):=fun hx=>by rw[htk,appM_snoc,if_neg hx];exact hst
  obtain⟨pb,po,hp,hc⟩:=get hC
  refine⟨pb,po,hp,hb,x.1,by rw[Int.toNat_natCast];exact hc 0 _ rfl,IfB.dec (fun h1=>⟨rfl,n-1,by omega,i+1,bs',vs',hi',by omega,hi1,hM,skip (by omega),hC⟩) fun h1=>⟨pb,po,hp,hb,x.1,by rw[Int.toNat_natCast];exact hc 0 _ rfl,IfB.dec (fun h2=>⟨rfl,n-1,by omega,i+1,bs',vs',hi',by omega,hi1,hM,skip (by omega),hC⟩) fun h2=>?_⟩⟩
  have hkn:((x.1.toNat:Nat):Int)=x.1:=by omega
  have hkd:(0:Int)<=x.1/\x.1<((1000:Nat):Int):=⟨by omega,by omega⟩
  have hCd:=hC.thenExt (extDrew W)
  obtain⟨pb2,po2,hp2,hc2⟩:=get hCd
  refine⟨pb2,po2,hp2,hb,x.1,by rw[Int.toNat_natCast];exact hc2 0 _ rfl,pb2,po2,hp2,hb,x.2.1,by rw[Int.toNat_natCast];exact hc2 1 _ rfl,b,0,rfl,hkd,rfl,(hM.ext (extDrew W)).setIs (k:=x.1.toNat) (by omega) (!x.2.1) fun w24 hM24 hc24=>?_⟩
  have C24:=hCd.then hc24 fun _ _ h=>h
  obtain⟨pb3,po3,hp3,hc3⟩:=get C24
  refine⟨pb3,po3,hp3,hb,x.2.1,by rw[Int.toNat_natCast];exact hc3 1 _ rfl,?_⟩
  cases hg:x.2.1 with
  | true=>
   rw[hg] at hM24
   refine IfB.no rfl ⟨rfl,n-1,by omega,i+1,_,_,hi',by omega,hi1,hM24,?_,C24⟩
   rw[show (!true)=false from rfl,stR_del hM.bl (by omega),htk,appM_snoc,if_pos ⟨by omega,by omega⟩,hst,hkn,hg]
   rfl
  | false=>
   rw[hg] at hM24
   have C24d:=C24.thenExt (extDrew w24)
   obtain⟨pb4,po4,hp4,hc4⟩:=get C24d
   refine IfB.yes rfl ⟨pb4,po4,hp4,hb,x.1,by rw[Int.toNat_natCast];exact hc4 0 _ rfl,pb4,po4,hp4,hb,x.2.2,by rw[Int.toNat_natCast];exact hc4 2 _ rfl,b,0,rfl,hkd,rfl,(hM24.ext (extDrew _)).setVal (k:=x.1.toNat) (by omega) x.2.2 fun w36 hM36 hc36=>⟨rfl,n-1,by omega,i+1,_,_,hi',by omega,hi1,hM36,?_,C24d.then hc36 fun _ _ h=>h⟩⟩
   rw[show (!false)=true from rfl,stR_put hM.bl hM.vl (by omega),htk,appM_snoc,if_pos ⟨by omega,by omega⟩,hst,hkn,hg]
   rfl
 ·have hi':i=l.length:=by omega
  subst hi'
  rw[List.take_length] at hst
  exact⟨rfl,bs',vs',hM,hst,hC⟩
theorem eqCh(x y:ChD):EqAt Tryz.prog 47 (.agg (chL x).toArray) (.agg (chL y).toArray) (x == y):=by
 have h:=eqAt_struct tbOk (d:=2) (by decide) (t:=47) (xs:=(chL x).toArray) (ys:=(chL y).toArray) (b:=(x.1 == y.1)&&((x.2.1 == y.2.1)&&((x.2.2 == y.2.2)&&true))) (by kernel_rfl) (by kernel_rfl)
 have e:(x == y)=((x.1 == y.1)&&((x.2.1 == y.2.1)&&((x.2.2 == y.2.2)&&true))):=by rw[Bool.and_true];rfl
 rw[e];exact h
theorem c41{w:World}{s t:Sl}{xs ys:List ChD}(hs:Rd w s 3 (xs.flatMap chL))(ht:Rd w t 3 (ys.flatMap chL))(hxl:xs.length<=1000000):
  Cw 41 #[slV s,slV t] w fun v w'=>v=.bool (decide (xs=ys))/\Ext w w':=by
 have hn:=rdN chL_len (by omega) hs
 have hm:=rdN chL_len (by omega) ht
 refine F41_ok s t w _ (IfB.intro (fun hne=>⟨?_,Ch.refl _ _⟩) fun heq=>?_)
 ·have:¬xs=ys:=fun e=>by
   subst e
   have:s.n=t.n:=by omega
   rw[show ((s.2:Int) != (t.2:Int))=((s.n:Int) != (t.n:Int)) from rfl,this] at hne
   simp at hne
  rw[decide_eq_false this]
 have hl:xs.length=ys.length:=by
  have:(s.n:Int)=(t.n:Int):=by simpa using heq
  omega
 refine⟨fun n x W=>∃i:Nat,i<=xs.length/\n+i=xs.length/\x=(i:Int)/\xs.take i=ys.take i/\Ext w W,⟨xs.length,0,Nat.zero_le _,rfl,rfl,rfl,Ch.refl _ _⟩,?_⟩
 rintro n _ W g ⟨i,hi,hni,rfl,he,hE⟩
 unfold F41j1
 refine IfB.dec (fun hlt=>?_) fun hge=>?_
 ·have hi':i<xs.length:=by omega
  have hx:xs[i]? =some xs[i]:=List.getElem?_eq_getElem hi'
  have hy:ys[i]? =some ys[i]:=List.getElem?_eq_getElem (by omega)
  have tx:=take_succ_get hx
  have ty:=take_succ_get hy
  generalize xs[i]=x at hx tx
  generalize ys[i]=y at hy ty
  have hEd:Ext w W.drew:=hE.trans (extDrew _)
  obtain⟨a,o,hp,hc⟩:=(hs.ext hEd).elem (i:=i) (by omega) (by omega) (flatGet chL_len hx)
  obtain⟨a',o',hp',hc'⟩:=(ht.ext hEd).elem (i:=i) (by omega) (by omega) (flatGet chL_len hy)
  refine⟨a,o,hp,⟨by omega,by omega⟩,x,by rw[Int.toNat_natCast];exact hc,a',o',hp',⟨by omega,by omega⟩,y,by rw[Int.toNat_natCast];exact hc',_,eqCh x y,IfB.intro (fun hb=>?_) fun hb=>?_⟩
  ·refine⟨?_,hEd⟩
   have hne:¬xs=ys:=fun e=>by
    subst e
    rw[hx] at hy;cases hy
    simp at hb
   rw[decide_eq_false hne]
  ·have e:x=y:=by simpa using hb
   subst e
   exact⟨rfl,n-1,by omega,i+1,hi',by omega,by rw[wrap_of (by omega) (by omega)];rfl,by rw[tx,ty,he],hEd⟩
 ·have hi':i=xs.length:=by omega
  subst hi'
  have e:xs=ys:=by rw[List.take_length,hl,List.take_length] at he;exact he
  exact⟨by rw[decide_eq_true e],hE⟩
theorem eqPr(x y:Pr):EqAt Tryz.prog 40 (.agg #[.int .i64 x.1,.int .i64 x.2]) (.agg #[.int .i64 y.1,.int .i64 y.2]) (x == y):=by
 have h:=eqAt_struct tbOk (d:=2) (by decide) (t:=40) (xs:=#[.int .i64 x.1,.int .i64 x.2]) (ys:=#[.int .i64 y.1,.int .i64 y.2]) (b:=(x.1 == y.1)&&((x.2 == y.2)&&true)) (by kernel_rfl) (by kernel_rfl)
 have e:(x == y)=((x.1 == y.1)&&((x.2 == y.2)&&true)):=by rw[Bool.and_true];rfl
 rw[e];exact h
theorem prV_len(x:Pr):(prV x).length=2:=rfl
theorem c21{w:World}{s t:Sl}{xs ys:List Pr}(hs:Rd w s 2 (xs.flatMap prV))(ht:Rd w t 2 (ys.flatMap prV))(hxl:xs.length<=1000000):
  Cw 21 #[slV s,slV t] w fun v w'=>v=.bool (decide (xs=ys))/\Ext w w':=by
 have hn:=rdN prV_len (by omega) hs
 have hm:=rdN prV_len (by omega) ht
 refine F21_ok s t w _ (IfB.intro (fun hne=>⟨?_,Ch.refl _ _⟩) fun heq=>?_)
 ·have:¬xs=ys:=fun e=>by
   subst e
   have:s.n=t.n:=by omega
   rw[show ((s.2:Int) != (t.2:Int))=((s.n:Int) != (t.n:Int)) from rfl,this] at hne
   simp at hne
  rw[decide_eq_false this]
 have hl:xs.length=ys.length:=by
  have:(s.n:Int)=(t.n:Int):=by simpa using heq
  omega
 refine⟨fun n x W=>∃i:Nat,i<=xs.length/\n+i=xs.length/\x=(i:Int)/\xs.take i=ys.take i/\Ext w W,⟨xs.length,0,Nat.zero_le _,rfl,rfl,rfl,Ch.refl _ _⟩,?_⟩
 rintro n _ W g ⟨i,hi,hni,rfl,he,hE⟩
 unfold F21j1
 refine IfB.dec (fun hlt=>?_) fun hge=>?_
 ·have hi':i<xs.length:=by omega
  have hx:xs[i]? =some xs[i]:=List.getElem?_eq_getElem hi'
  have hy:ys[i]? =some ys[i]:=List.getElem?_eq_getElem (by omega)
  have tx:=take_succ_get hx
  have ty:=take_succ_get hy
  generalize xs[i]=x at hx tx
  generalize ys[i]=y at hy ty
  have hEd:Ext w W.drew:=hE.trans (extDrew _)
  obtain⟨a,o,hp,hc⟩:=(hs.ext hEd).elem (i:=i) (by omega) (by omega) (flatGet prV_len hx)
  obtain⟨a',o',hp',hc'⟩:=(ht.ext hEd).elem (i:=i) (by omega) (by omega) (flatGet prV_len hy)
  refine⟨a,o,hp,⟨by omega,by omega⟩,x,by rw[Int.toNat_natCast];exact hc,a',o',hp',⟨by omega,by omega⟩,y,by rw[Int.toNat_natCast];exact hc',_,eqPr x y,IfB.intro (fun hb=>?_) fun hb=>?_⟩
  ·refine⟨?_,hEd⟩
   have hne:¬xs=ys:=fun e=>by
    subst e
    rw[hx] at hy;cases hy
    simp at hb
   rw[decide_eq_false hne]
  ·have e:x=y:=by simpa using hb
   subst e
   exact⟨rfl,n-1,by omega,i+1,hi',by omega,by rw[wrap_of (by omega) (by omega)];rfl,by rw[tx,ty,he],hEd⟩
 ·have hi':i=xs.length:=by omega
  subst hi'
  have e:xs=ys:=by rw[List.take_length,hl,List.take_length] at he;exact he
  exact⟨by rw[decide_eq_true e],hE⟩
theorem eqRg(x y:Rg):EqAt Tryz.prog 23 (.agg (rgL x).toArray) (.agg (rgL y).toArray) (x == y):=by
 have h:=eqAt_ints tbOk (t:=23) (e:=2) (ti:=tt23) (te:={ kd:=.int .i64,size:=1,bytes:=8,zero:=.int .i64 0,sh:=.one (.int .i64) }) (n:=4) (k:=.i64) (k':=.i64) (xs:=[x.1,x.2.1,x.2.2.1,x.2.2.2]) (ys:=[y.1,y.2.1,y.2.2.1,y.2.2.2]) (by kernel_rfl) rfl (by kernel_rfl) rfl rfl rfl rfl (by kernel_rfl)
 have e:(x == y)=([x.1,x.2.1,x.2.2.1,x.2.2.2] == [y.1,y.2.1,y.2.2.1,y.2.2.2]):=by
  obtain⟨a,b,c,d⟩:=x
  obtain⟨a',b',c',d'⟩:=y
  show ((a == a')&&((b == b')&&((c == c')&&(d == d'))))=_
  simp
 rw[e];exact h
theorem c18{w:World}{n m:Nat}{tr tw th ur uw uh:Sl}{o p:OutD}(ho:OutM n w tr tw th o)(hp:OutM m w ur uw uh p)(h1:o.rds.length<=1000000)(h2:o.wrs.length<=1000000)(h3:o.chs.length<=1000000)(he:o=p):
  Cw 18 #[.agg (outL o tr tw th).toArray,.agg (outL p ur uw uh).toArray] w fun v w'=>v=.bool true/\Ext w w':=by
 subst he
 refine F18_ok (outX o tr tw th) (outX o ur uw uh) w _ fun b1 w2 a2 b3 w4 a4=>?_
 have e2:Ext w w2:=a2.ch _
 have x4:Ext w2 w4:=a4.ch _
 have e4:Ext w w4:=e2.trans x4
 have k1:w2.heap[b1]? =some (.cells (outL o tr tw th).toArray _ (0,0)):=a2.new
 have k3:w4.heap[b3]? =some (.cells (outL o ur uw uh).toArray _ (0,0)):=a4.new
 have regs:∀ {b:Nat}{V W:World}{q:Sl}{q2 q3:Sl},V.heap[b]? =some (.cells (outL o q q2 q3).toArray 27 (0,0))->Ext V W->CellsAt W b (0+2) (rgL o.r):=fun{b V W q q2 q3} h e i v hv=>by
  match i,hv with
  | 0,hv=>cases hv;exact boxAt h 2 e
  | 1,hv=>cases hv;exact boxAt h 3 e
  | 2,hv=>cases hv;exact boxAt h 4 e
  | 3,hv=>cases hv;exact boxAt h 5 e
 refine⟨o.code,boxAt k1 0 x4,o.code,boxAt k3 0 (Ch.refl _ _),IfB.yes (by simp) ⟨o.at',boxAt k1 1 x4,o.at',boxAt k3 1 (Ch.refl _ _),IfB.yes (by simp) ⟨o.r,regs k1 x4,o.r,regs k3 (Ch.refl _ _),_,eqRg o.r o.r,IfB.yes (by simp) ⟨tr,boxAt k1 6 x4,ur,boxAt k3 6 (Ch.refl _ _),?_⟩⟩⟩⟩
 refine(c40 (ho.rr.ext e4).rd (hp.rr.ext e4).rd h1).use ?_
 rintro _ w15 ⟨rfl,e15⟩
 refine⟨_,rfl,IfB.yes (by simp) ⟨tw,boxAt k1 7 (x4.trans e15),uw,boxAt k3 7 e15,(c40 (ho.ww.ext (e4.trans e15)).rd (hp.ww.ext (e4.trans e15)).rd h2).use ?_⟩⟩
 rintro _ w20 ⟨rfl,e20⟩
 have E20:=(e4.trans e15).trans e20
 refine⟨_,rfl,IfB.yes (by simp) ⟨th,boxAt k1 8 ((x4.trans e15).trans e20),uh,boxAt k3 8 (e15.trans e20),(c41 (ho.cc.ext E20).rd (hp.cc.ext E20).rd h3).use ?_⟩⟩
 rintro _ w25 ⟨rfl,e25⟩
 exact⟨_,rfl,by simp,E20.trans e25⟩
def appQ(P:List (List Pr)):List ChD->List (List Pr)
 | []=>P
 | x::l=>appQ (if x.2.1=true then delQ P x.1 else if 0<=x.1/\x.1<=999 then putP P x.1 x.2.2 else P) l
theorem appQ_snoc:∀(l:List ChD)(P:List (List Pr))(x:ChD),appQ P (l++[x])=if x.2.1=true then delQ (appQ P l) x.1 else if 0<=x.1/\x.1<=999 then putP (appQ P l) x.1 x.2.2 else appQ P l
 | [],_,_=>rfl
 | y::l,P,x=>appQ_snoc l _ x
theorem appQ_one{P:List (List Pr)}(hI:Inv P)(x:ChD):Inv (if x.2.1=true then delQ P x.1 else if 0<=x.1/\x.1<=999 then putP P x.1 x.2.2 else P)/\
  stP (if x.2.1=true then delQ P x.1 else if 0<=x.1/\x.1<=999 then putP P x.1 x.2.2 else P)=if 0<=x.1/\x.1<=999 then updM (stP P) x.1 (if x.2.1=true then none else some x.2.2) else stP P:=by
 by_cases hg:x.2.1=true
 ·rw[if_pos hg]
  refine⟨delQ_inv' hI _,?_⟩
  by_cases hk:0<=x.1/\x.1<=999
  ·rw[if_pos hk,if_pos hg,stP_del hI]
  ·rw[if_neg hk];unfold delQ;rw[if_neg hk]
 ·rw[if_neg hg]
  by_cases hk:0<=x.1/\x.1<=999
  ·rw[if_pos hk,if_pos hk,if_neg hg]
   exact⟨putP_inv hI hk,stP_put hI hk _⟩
  ·rw[if_neg hk,if_neg hk];exact⟨hI,rfl⟩
theorem appQ_ok:∀(l:List ChD){P:List (List Pr)},Inv P->Inv (appQ P l)/\stP (appQ P l)=appM (stP P) l
 | [],_,hI=>⟨hI,rfl⟩
 | x::l,P,hI=>by
  obtain⟨h1,h2⟩:=appQ_one hI x
  obtain⟨h3,h4⟩:=appQ_ok l h1
  refine⟨h3,h4.trans ?_⟩
  rw[h2];rfl
theorem c24{A:Nat->Prop}{w:World}{bS:Nat}{P:List (List Pr)}{t:Sl}{l:List ChD}(h:StA A w bS P)(hI:Inv P)(ht:Rd w t 3 (l.flatMap chL))(hl:l.length<=1000000)(hd:0<t.n->∀i∈blk t,¬A i):
  Cw 24 #[.pointer (some ⟨bS,0,none⟩),slV t] w fun v w'=>v=.tuple #[]/\StA (New A w) w' bS (appQ P l)/\Ch A w w':=by
 have hn:=rdN chL_len (by omega) ht
 refine F24_ok _ t w _ ⟨fun n x W=>∃i:Nat,i<=l.length/\n+i=l.length/\x=(i:Int)/\StA (New A w) W bS (appQ P (l.take i))/\Ch A w W,⟨l.length,0,Nat.zero_le _,rfl,rfl,h.mono fun _ _ h=>.inl h,Ch.refl _ _⟩,?_⟩
 rintro n _ W g ⟨i,hi,hni,rfl,hS,hC⟩
 unfold F24j1
 refine IfB.dec (fun hlt=>?_) fun hge=>?_
 ·have hi':i<l.length:=by omega
  have hx:l[i]? =some l[i]:=List.getElem?_eq_getElem hi'
  have htk:=take_succ_get hx
  generalize l[i]=x at hx htk
  obtain⟨pb,po,hp,hc⟩:=(ht.ch hC (hd (by omega))).elem (i:=i) (by omega) (by omega) (flatGet chL_len hx)
  refine⟨pb,po,hp,⟨by omega,hlt⟩,x,by rw[Int.toNat_natCast];exact hc,fun b11 w12 a12=>⟨rfl,store_all a12.new rfl (chL_one x) fun w13 h13=>?_⟩⟩
  have e13:Ext W w13:=Ext.fresh a12 h13
  have hIi:=(appQ_ok (l.take i) hI).1
  have hsW:=hC.size
  have hi1:IntKind.i64.wrap ((i:Int)+1)=((i+1:Nat):Int):=by rw[wrap_of (by omega) (by omega)];rfl
  have k13:w13.heap[b11]? =some (.cells (chL x).toArray _ (0,0)):=h13.new
  have mono:∀ {V:World}{Q:List (List Pr)},StA (New (New A w) w13) V bS Q->StA (New A w) V bS Q:=fun h=>h.mono fun j _ hj=>hj.elim id fun h=>.inr (by have:=e13.size;omega)
  have chn:∀ {V:World},Ch (New A w) w13 V->Ch A w V:=fun hc'=>(hC.then e13 fun _ _ h=>h.elim).then hc' fun j hj h=>h.elim id fun h=>by omega
  refine⟨x.2.1,boxAt k13 1 (Ch.refl _ _),?_⟩
  cases hg:x.2.1 with
  | true=>
   refine IfB.yes rfl ⟨x.1,boxAt k13 0 (Ch.refl _ _),(c48 (hS.ext e13) hIi x.1).use ?_⟩
   rintro _ w17 ⟨rfl,hS17,hc17⟩
   refine⟨_,rfl,rfl,n-1,by omega,i+1,hi',by omega,hi1,?_,chn hc17⟩
   rw[htk,appQ_snoc,if_pos hg]
   exact mono hS17
  | false=>
   refine IfB.no rfl ⟨x.1,boxAt k13 0 (Ch.refl _ _),x.2.2,boxAt k13 2 (Ch.refl _ _),(c17 (hS.ext e13) hIi x.1 x.2.2).use ?_⟩
   rintro _ w23 ⟨rfl,hS23,hc23⟩
   refine⟨_,rfl,rfl,n-1,by omega,i+1,hi',by omega,hi1,?_,chn hc23⟩
   rw[htk,appQ_snoc,if_neg (by rw[hg];simp)]
   exact mono hS23
 ·have hi':i=l.length:=by omega
  subst hi'
  rw[List.take_length] at hS
  exact⟨rfl,hS,hC⟩
set_option maxRecDepth 10000
section
variable {w55:World} {bN b26 b29 b31 bR bW b45:Nat} {st0:Int->Option Int} {s:PS} {x:InsD} {args:List Int} {foot:List SpTD} {ta:Sl} {asked:Bool}
end
set_option maxRecDepth 20000
theorem MapR.lt{w:World}{b:Nat}{bs:List Bool}{vs:List Int}(h:MapR w b bs vs):b<w.heap.size:=by
 obtain⟨⟨T,h1⟩,_,_⟩:=h
 exact heap_lt h1
section
variable {n0:Nat} {w37:World} {bN b26 b29 b31 b5:Nat} {st0:Int->Option Int} {s:PS} {cs5:List Value} {T5:TypeId}
end
set_option maxRecDepth 100000
theorem F6_ok(t0:Sl)(t1:Sl)(w:World)(R:RV)(h:Cx 8 #[] w fun v1 w2=>∃t3:Bool,v1=Value.bool t3/\IfB (!t3) (R (Value.bool false) w2) (IfB (decide (100<(t0.n:Int))) (R (Value.bool true) w2) (IfB (decide (100<(t1.n:Int))) (R (Value.bool true) w2) (Cx 13 #[Qy t0] w2 fun v4 w5=>∃(p6:Option Addr),v4=Value.pointer p6/\Cx 19 #[Qy t0] w5 fun v7 w8=>∃(p9:Option Addr),v7=Value.pointer p9/\Cx 24 #[Value.pointer p6,Qy t1] w8 fun v10 w11=>∃y12:Unit,v10=Value.tuple #[]/\Cx 25 #[Value.pointer p9,Qy t1] w11 fun v13 w14=>∃y15:Unit,v13=Value.tuple #[]/\Qu' 22 #[Value.pointer p6,Qz 0,Qz 999] w14 fun s18 w17=>Qu' 23 #[Value.pointer p9] w17 fun s21 w20=>Qv' 21 #[Qy s18,Qy s21] w20 fun t24 w23=>R (Value.bool t24) w23)))):Cw 6 #[Qy t0,Qy t1] w R:=
 ckF Tryz.func6 .nil h (by kernel_rfl) (by kernel_rfl)
def F8(w:World)(R:RV):Prop:=AllocP w (Obj.cells #[Qz 0,Qz 0] 64) fun b1 w2=>#[Qz (-1:Int),Qz 5].size=2/\StoreP w2 b1 0 [Qz (-1:Int),Qz 5] fun w3=>∃(x4:Int×Int),CellsAt w3 b1 0 [Qz x4.1,Qz x4.2]/\∃(x5:Int×Int),CellsAt w3 b1 0 [Qz x5.1,Qz x5.2]/\2*9<=16777216/\AllocP w3 (Obj.cells #[Qz 2,Qz 0,Qz 0,Qz 0,Qz x4.1,Qz x4.2,Qz 0,Qz 0,Qz 0,Qz 1,Qz 1,Qz 0,Qz 0,Qz x5.1,Qz x5.2,Qz 0,Qz 0,Qz 0] 66) fun b6 w7=>AllocP w7 (Obj.cells #[Value.slice none 0 0] 69) fun b8 w9=>Cx 14 #[Value.agg #[Value.slice (some ⟨b6,0,none⟩) 2 2,Value.slice none 0 0],Value.slice none 0 0,Value.agg #[Qz 7,Qz 0,Qz 0,Qz 0],Value.pointer (some ⟨b8,0,none⟩),Value.bool false] w9 fun v10 w11=>∃(x12:Int×Int×Int×Int×Int×Int×Sl×Sl×Sl),v10=Value.agg (lC27 x12).toArray/\AllocP w11 (Obj.cells #[Qz 0,Qz 0,Qz 0,Qz 0,Qz 0,Qz 0,Value.slice none 0 0,Value.slice none 0 0,Value.slice none 0 0] 27) fun b13 w14=>(lC27 x12).toArray.size=9/\StoreP w14 b13 0 (lC27 x12) fun w15=>1*2<=16777216/\AllocP w15 (Obj.cells #[Qz 5,Qz 5] 71) fun b16 w17=>∃(x18:Int×Int×Int×Int×Int×Int×Sl×Sl×Sl),CellsAt w17 b13 0 (lC27 x18)/\1*3<=16777216/\AllocP w17 (Obj.cells #[Qz 5,Value.bool false,Qz 7] 47) fun b19 w20=>Qv' 18 #[Value.agg (lC27 x18).toArray,Value.agg #[Qz 0,Qz 0,Qz 7,Qz 7,Qz 0,Qz 0,Value.slice (some ⟨b16,0,none⟩) 1 1,Value.slice (some ⟨b16,0,none⟩) 1 1,Value.slice (some ⟨b19,0,none⟩) 1 1]] w20 fun t23 w22=>R (Value.bool t23) w22
theorem F8_ok(w:World)(R:RV)(h:F8 w R):Cw 8 #[] w R:=
 call_of tbOk mixed en8 Tryz.func8 rfl .nil (by kernel_rfl) (Nat.le_of_ble_eq_true (by kernel_rfl)) (Eq.mp (α:=F8 w R) (by kernel_rfl) h)
abbrev tySpn:Ty:=.pair tyI tyI
abbrev tyChg:Ty:=.pair tyI (.pair .bool tyI)
section
variable {A:Nat->Prop} {w:World}
theorem rep_all{e:Ty}{f:e.den->List Value}{Q:e.den->Prop}{l:List e.den}{cs:List Value}(hz:0<e.sz)(h:rep A w (.sl e) l cs)(hp:∀x c,rep A w e x c->c=f x/\Q x):
  ∃s:Sl,cs=[slV s]/\Rd w s e.sz (l.flatMap f)/\s.n=l.length/\(∀x∈l,Q x)/\(0<s.n->∀i∈blk s,i<w.heap.size):=by
 obtain⟨s,rfl,h2,h3,h4,h5⟩:=rep_plain (f:=f) h fun x _ c hc=>(hp x c hc).1
 refine⟨s,rfl,h2,h3,fun x hx=>?_,fun h0=>rep_blk_lt h hz h0⟩
 obtain⟨t,ht,_,_,_,_,css,h6,h7,h8⟩:=h
 obtain⟨i,hi,rfl⟩:=List.getElem_of_mem hx
 exact(hp _ _ (h7 i _ _ (List.getElem?_eq_getElem (by omega)) (List.getElem?_eq_getElem hi))).2
theorem i64_of{n:Int}(h:IntKind.i64.min<=n/\n<=IntKind.i64.max):I64 n:=⟨h.1,h.2⟩
theorem rep_pr{x:Pr}{cs:List Value}(h:rep A w tySpn x cs):cs=prV x/\I64 x.2:=by
 obtain⟨c,d,rfl,⟨rfl,_⟩,rfl,h⟩:=h;exact⟨rfl,i64_of h⟩
theorem rep_chg{x:ChD}{cs:List Value}(h:rep A w tyChg x cs):cs=chL x/\I64 x.2.2:=by
 obtain⟨c,d,rfl,⟨rfl,_⟩,e,f,rfl,h,rfl,h2⟩:=h
 have h:e=[.bool x.2.1]:=h
 subst h;exact⟨rfl,i64_of h2⟩
end
theorem stScan{A:Nat->Prop}{w:World}{b:Nat}{P:List (List Pr)}(hS:StA A w b P)(hI:Inv P):
  Cw 22 #[.pointer (some ⟨b,0,none⟩),iv 0,iv 999] w fun v w'=>∃t,v=slV t/\OwS w' t 2 (prs (pairsL (stP P) 1000))/\Ext w w'/\∀j∈blk t,w.heap.size<=j:=by
 obtain⟨s,ps,hS,hP,_⟩:=hS
 have hl:ps.length<=1000000:=by have:=hI.plen;rw[<-hP,List.length_map] at this;omega
 have h:=c22 (w:=w) (src:=some (b,s,ps)) ⟨hS,hl⟩ (by rw[show Src.fl (some (b,s,ps))=flatS ps from rfl,flatS_eq hP];exact hI.flen) 0 999
 rw[show Src.fl (some (b,s,ps))=flatS ps from rfl,flatS_eq hP,scanS_all (fun y hy=>(hI.rng y hy).2),List.filter_eq_self.2 (fun x hx=>decide_eq_true (hI.rng x hx).1)] at h
 have e:P.flatten=pairsL (stP P) 1000:=srt_ext hI.sorted (pairsL_srt _ _) fun x=>by
  rw[mem_pairsL,stP_iff hI]
  exact⟨fun hx=>⟨by have:=hI.rng x hx;omega,hx⟩,fun hx=>hx.2⟩
 rw[<-e]
 exact h
theorem scanPairs{A:Nat->Prop}{w:World}{bS bM:Nat}{P:List (List Pr)}{bs:List Bool}{vs:List Int}(hS:StA A w bS P)(hI:Inv P)(hM:MapR w bM bs vs)(he:stP P=stR bs vs){R:RV}(hR:∀w',Ext w w'->R (.bool true) w'):
  Cx 22 #[.pointer (some ⟨bS,0,none⟩),iv 0,iv 999] w fun v w36=>∃s37:Sl,v=slV s37/\Cx 23 #[.pointer (some ⟨bM,0,none⟩)] w36 fun v38 w39=>∃s40:Sl,v38=slV s40/\Cx 21 #[slV s37,slV s40] w39 fun v41 w42=>∃t:Bool,v41=.bool t/\R (.bool t) w42:=by
 refine(stScan hS hI).use ?_
 rintro _ w36 ⟨t,rfl,ho,e1,_⟩
 refine⟨t,rfl,(c23 (hM.ext e1)).use ?_⟩
 rintro _ w39 ⟨u,rfl,hu,e2,_⟩
 refine⟨u,rfl,(c21 (ho.ext e2).rd hu.rd (by have:=pairsL_len (stP P) 1000;omega)).use ?_⟩
 rintro _ w42 ⟨rfl,e3⟩
 rw[he]
 exact⟨_,rfl,by rw[decide_eq_true rfl];exact hR _ ((e1.trans e2).trans e3)⟩
abbrev keyA:KeyD:=(-1,5)
abbrev codeA:List InsD:=[(2,0,0,0,keyA,(0,0),0),(1,1,0,0,keyA,(0,0),0)]
theorem codeA_ok:RightP codeA [] []:=by
 refine⟨⟨by decide,by simp⟩,.inr ⟨by decide,by decide,by decide,by decide,fun x hx=>?_⟩,by decide,by decide,by decide,by simp⟩
 simp at hx
 rcases hx with rfl|rfl<;>constructor<;>simp[KeyOk]
theorem aliveOut{mr mw:Int->Prop}(hr:∀k,mr k)(hw:∀k,mw k){o:OutD}(h:IsOut (RightP codeA [] []) (stP []) mr mw [] codeA (7,0,0,0) o):o=⟨0,0,(7,7,0,0),[(5,5)],[(5,5)],[(5,false,7)]⟩:=by
 have h1:=h.2 codeA_ok
 have kA:keyAt keyA []=5:=rfl
 have s1:stepI (stP []) mr mw [] (2,0,0,0,keyA,(0,0),0) (ps0 (7,0,0,0))=.inr ⟨(7,0,0,0),fun _=>False,fun j=>False\/j=5,fun j=>if j=5 then some (false,7) else none⟩:=by
  unfold stepI
  rw[if_neg (by decide),if_pos rfl,show keyAt (InsD.K (2,0,0,0,keyA,(0,0),0)) []=5 from rfl,if_pos (bq_iff.2 (hw 5))]
  rfl
 have s2:stepI (stP []) mr mw [] (1,1,0,0,keyA,(0,0),0) ⟨(7,0,0,0),fun _=>False,fun j=>False\/j=5,fun j=>if j=5 then some (false,7) else none⟩=.inr ⟨(7,7,0,0),fun j=>False\/j=5,fun j=>False\/j=5,fun j=>if j=5 then some (false,7) else none⟩:=by
  unfold stepI
  rw[if_pos rfl,show keyAt (InsD.K (1,1,0,0,keyA,(0,0),0)) []=5 from rfl,if_pos (bq_iff.2 (hr 5))]
  rfl
 simp only[runI,s1,s2] at h1
 refine h1.uniq ⟨rfl,rfl,rfl,⟨by simp,by simp[mayS]⟩,fun k=>?_,⟨by simp,by simp[mayS]⟩,fun k=>?_,by simp,fun c=>?_⟩
 ·simp[hasS,mayS];omega
 ·simp[hasS,mayS];omega
 ·obtain⟨k,g,v⟩:=c
  dsimp only
  by_cases e:k=5
  ·subst e;simp[eq_comm]
  ·simp[e]
theorem c8(w:World):Cw 8 #[] w fun v w'=>v=.bool true/\Ext w w':=by
 refine F8_ok w _ fun b1 w2 a2=>⟨rfl,store_all a2.new rfl (by intro v hv;simp at hv;rcases hv with rfl|rfl<;>rfl) fun w3 h3=>?_⟩
 have e3:Ext w w3:=Ext.fresh a2 h3
 refine⟨keyA,boxAll h3.new (Ch.refl _ _),keyA,boxAll h3.new (Ch.refl _ _),by decide,fun b6 w7 a7 b8 w9 a9=>?_⟩
 have x9:Ext w7 w9:=a9.ch _
 have E9:Ext w w9:=(e3.trans (a7.ch _)).trans x9
 have hcode:Rd w9 ⟨some ⟨b6,0,none⟩,2,2⟩ 9 (codeA.flatMap insC):=((OwS.new (cs:=codeA.flatMap insC) (n:=2) (sz:=9) a7 rfl).ext x9).rd
 have hS:StA (fun i=>i<w9.heap.size) w9 b8 []:=by
  refine⟨⟨none,0,0⟩,[],⟨⟨_,a9.new⟩,.nil _ _,by simp,by simp,by simp,by simp[blk]⟩,rfl,?_⟩
  have p9:=a9.here;have z9:=a9.size
  rintro j (rfl|h|⟨x,hx,h⟩)
  ·omega
  ·simp[blk] at h
  ·simp at hx
 refine(c14 (foot:=[]) (args:=[]) (r:=(7,0,0,0)) (tf:=⟨none,0,0⟩) (ta:=⟨none,0,0⟩) hcode (OwS.nil _ _).rd (OwS.nil _ _).rd hS Inv.nil (fun k v h=>by rw[stP_nil] at h;cases h) ⟨⟨by decide,by decide⟩,⟨by decide,by decide⟩,⟨by decide,by decide⟩,⟨by decide,by decide⟩⟩ (fun x hx=>by simp at hx;rcases hx with rfl|rfl<;>exact⟨by decide,by decide⟩)).use ?_
 rintro _ w11 ⟨tr,tw,th,o,rfl,ho,hO,e11⟩
 have ho:=aliveOut (fun _=>.inl rfl) (fun _=>.inl rfl) ho
 subst ho
 refine⟨_,rfl,fun b13 w14 a14=>⟨rfl,store_all a14.new rfl (outL_one _ tr tw th) fun w15 h15=>⟨by decide,fun b16 w17 a17=>?_⟩⟩⟩
 have e15:Ext w11 w15:=Ext.fresh a14 h15
 have e17:Ext w15 w17:=a17.ch _
 refine⟨_,boxAll h15.new e17,by decide,fun b19 w20 a20=>?_⟩
 have e20:Ext w17 w20:=a20.ch _
 have E20:Ext w11 w20:=(e15.trans e17).trans e20
 have h5:OwS w20 ⟨some ⟨b16,0,none⟩,1,1⟩ 2 ([((5:Int),(5:Int))].flatMap sv):=(OwS.new (cs:=[((5:Int),(5:Int))].flatMap sv) (n:=1) (sz:=2) a17 rfl).ext e20
 have h7:OwS w20 ⟨some ⟨b19,0,none⟩,1,1⟩ 3 ([((5:Int),false,(7:Int))].flatMap chL):=OwS.new (cs:=[((5:Int),false,(7:Int))].flatMap chL) (n:=1) (sz:=3) a20 rfl
 refine(c18 (m:=0) (p:=⟨0,0,(7,7,0,0),[(5,5)],[(5,5)],[(5,false,7)]⟩) (hO.ext E20) ⟨h5,h5,h7,fun _ _=>Nat.zero_le _,fun _ _=>Nat.zero_le _,fun _ _=>Nat.zero_le _⟩ (by decide) (by decide) (by decide) rfl).use ?_
 rintro _ w22 ⟨rfl,e22⟩
 exact⟨true,rfl,rfl,((E9.trans e11).trans E20).trans e22⟩
theorem stepApplies(w:World){l:List tySpn.den}{c:Value}(h0:rep (fun _=>True) w (.sl tySpn) l [c]){l1:List tyChg.den}{c1:Value}(h1:rep (fun _=>True) w (.sl tyChg) l1 [c1]):
  Cw 6 #[c,c1] w fun v w'=>v=.bool true/\Ext w w':=by
 obtain⟨t,e0,hl,n0,_⟩:=rep_all (e:=tySpn) (f:=prV) (by decide) h0 fun _ _=>rep_pr
 obtain⟨u,e1,hc,n1,_,hu⟩:=rep_all (e:=tyChg) (f:=chL) (by decide) h1 fun _ _=>rep_chg
 simp only[List.cons.injEq,and_true] at e0 e1
 subst e0;subst e1
 refine F6_ok t u w _ ((c8 w).use ?_)
 rintro _ w2 ⟨rfl,e2⟩
 refine⟨true,rfl,IfB.no rfl (IfB.dec (fun _=>⟨rfl,e2⟩) fun q1=>IfB.dec (fun _=>⟨rfl,e2⟩) fun q2=>(c13 (xs:=l) (hl.ext e2) (by omega)).use ?_)⟩
 rintro _ w5 ⟨bS,rfl,hS,e5⟩
 have hI:Inv (putL [] l):=putL_inv Inv.nil
 refine⟨_,rfl,(c19 (l:=l) (hl.ext (e2.trans e5)) (by omega)).use ?_⟩
 rintro _ w8 ⟨bM,bs,vs,rfl,hM,hst,kM,e8⟩
 have hS8:StA (fun i=>w2.heap.size<=i/\i<w5.heap.size) w8 bS (putL [] l):=(hS.mono fun i hi h=>⟨h,hi⟩).ext e8
 have z2:=e2.size
 have old:0<u.n->∀i∈blk u,i<w2.heap.size:=fun h i hi=>by have:=hu h i hi;omega
 refine⟨_,rfl,(c24 (l:=l1) hS8 hI (hc.ext ((e2.trans e5).trans e8)) (by omega) fun h0 i hi=>by have:=old h0 i hi;omega).use ?_⟩
 rintro _ w11 ⟨rfl,hS11,hC11⟩
 have hlt:=hM.lt
 obtain⟨hI',hst'⟩:=appQ_ok l1 hI
 have E11:Ext w2 w11:=(e5.trans e8).chN hC11 fun i h=>by omega
 refine⟨(),rfl,(c25 (hM.ch hC11 fun h=>by omega) (hc.ext (e2.trans E11)) (by omega) fun h0 hb=>by have:=old h0 _ hb;have:=e5.size;omega).use ?_⟩
 rintro _ w14 ⟨rfl,bs',vs',hM',hst2,hC14⟩
 have s11:=hC11.size
 have hS14:StA (fun i=>i≠bM) w14 bS (appQ (putL [] l) l1):=((hS11.mono (B:=fun i=>i≠bM) fun i hi h=>by
  rcases h with h|h
  ·omega
  ·omega)).ch hC14 fun i hi h=>h
 refine⟨(),rfl,scanPairs (R:=fun v w'=>v=.bool true/\Ext w w') hS14 hI' hM' ?_ fun w' e=>⟨rfl,((e2.trans E11).chN hC14 fun i h=>by have:=e5.size;omega).trans e⟩⟩
 rw[hst',hst2,stP_of _ _ Inv.nil,hst,stP_nil]
end Go.Proofs.YtoahfpabpdjkkaaGreat.Gx
namespace Go.Proofs.YtoahfpabpdjkkaaGreat.stepApplies
open Go.ChangeShapes Go.WideShapes Go.ChangeAt Go.RowKit
open Go.ChangeMaps (open_string shut_string)
set_option linter.unusedVariables false
theorem own:ownKnob Tryz.prog.godebug=none:=by kernel_rfl
set_option maxRecDepth 100000 in
theorem lifted(os:Os)(started:os.Started)(H:Type)(enc:TypeId×Value->H):
  ReturnsInHanded {} Tryz.checked os 6 .any (Rows.stepAppliesSpec.pre6 enc Tryz.prog Tryz.f6 Rows.stepAppliesRow.domain false) (Rows.stepAppliesSpec.post enc Tryz.prog Tryz.f6 false true false false):=by
 refine returnsInHanded_of_change (C:=Tryz.checked) own started (by kernel_rfl) Tryz.func6
  (ChangeSpec.witness6 (enc:=enc) (C:=Tryz.checked) false ⟨#[],#[.slice none 0 0,.slice none 0 0],[]⟩ 8 (by kernel_rfl) (by kernel_rfl) (by kernel_rfl) (by kernel_rfl)) ?_
 intro W base args ds gs before hval0 hW hcnd _
 have hval:∀(j:Nat) t v,Tryz.f6.params[j]? =some t->args[j]? =some v->Value.okWide Tryz.prog W .any base t v:=hval0
 have hW':=hW
 have hlt:=hW.lt
 obtain⟨p,q,hA0,hV,rfl,hfz,hnd⟩:=hW
 have hA:DataW.TrodAll enc Tryz.prog W 0 (fun _=>true) true Tryz.f6.params.toList args.toList ds p:=hA0
 have hpar:Tryz.f6.params=#[38,25]:=rfl
 rw[hpar] at hA hval
 obtain⟨v0,vs0,d0,ds0,p0,q0,hargs,rfl,rfl,h0,r0⟩:=trodAll_cons hA
 obtain⟨v1,vs1,d1,ds1,p1,q1,rfl,rfl,rfl,h1,r1⟩:=trodAll_cons r0
 obtain⟨rfl,rfl,rfl⟩:=trodAll_nil r1
 obtain rfl:args=#[v0,v1]:=by cases args;simp_all
 obtain⟨rfl,rfl⟩:=trodVars_none hV
 clear hA0 hval0
 obtain⟨x0,e0⟩:=Gx.open_arg (d:=12) (ty:=(.sl (.pair (.int .i64) (.int .i64)))) (by kernel_rfl) h0
 obtain⟨c0,g0⟩:∃c,v0.cells.toList=[c]:=List.length_eq_one_iff.1 (Gx.rep_len e0)
 have f0:v0=c0:=Gx.val_of_cells (hval 0 38 v0 rfl rfl) (fun fs n e=>by rw[Tryz.underlying38];exact⟨by simp,by simp⟩) g0
 rw[g0] at e0
 obtain⟨x1,e1⟩:=Gx.open_arg (d:=12) (ty:=(.sl (.pair (.int .i64) (.pair .bool (.int .i64))))) (by kernel_rfl) h1
 obtain⟨c1,g1⟩:∃c,v1.cells.toList=[c]:=List.length_eq_one_iff.1 (Gx.rep_len e1)
 have f1:v1=c1:=Gx.val_of_cells (hval 1 25 v1 rfl rfl) (fun fs n e=>by rw[Tryz.underlying25];exact⟨by simp,by simp⟩) g1
 rw[g1] at e1
 have call:Calls Tryz.prog 6 #[v0,v1] W fun e w'=>e=.returned (.bool true)/\Below W.heap.size W w':=by
  rw[f0,f1]
  refine(Gx.stepApplies W e0 e1).calls.mono ?_
  rintro e w' ⟨v,rfl,rfl,hx⟩
  exact⟨rfl,hx.below⟩
 refine call.mono fun e W' ⟨he,hg⟩=>?_
 subst he
 have b1:∀sp:Nat->Bool,(∀x∈p1,sp x.block=true)->DataW.Trod enc Tryz.prog W' 0 sp true 25 v1 d1 p1:=fun sp hsp=>Gx.trod_keep (by kernel_rfl) (by kernel_rfl) (by decide+kernel) h1 hg (fun x hx=>hlt x (by simp[hx])) hsp
 have b0:∀sp:Nat->Bool,(∀x∈p0,sp x.block=true)->DataW.Trod enc Tryz.prog W' 0 sp true 38 v0 d0 p0:=fun sp hsp=>Gx.trod_keep (by kernel_rfl) (by kernel_rfl) (by decide+kernel) h0 hg (fun x hx=>hlt x (by simp[hx])) hsp
 exact⟨_,rfl,Gx.post_of_below (pa:=(p0++(p1++[]))) (pv:=[]) hW' hg (fun _ _ _=>(trodAll_cons_mk (shut_bool Tryz.underlying4 _) trodAll_mk0)) (fun sp hsp=>by rw[hpar];exact(trodAll_cons_mk (b0 sp fun x hx=>hsp x (by simp[hx])) (trodAll_cons_mk (b1 sp fun x hx=>hsp x (by simp[hx])) trodAll_mk0))) (fun _ _=>rfl) (by simp)
  (ok_one (by kernel_rfl) rfl (okWide_bool_mk Tryz.underlying4 _))⟩
set_option maxRecDepth 100000
theorem ft1:(laidOutB Tryz.checked.prog&&mapsRowed Tryz.checked.prog)=true:=by kernel_rfl
theorem ft2:(Rows.stepAppliesRow.inPlace == Tryz.checked.prog.inPlace 6)=true:=by kernel_rfl
theorem ft3:(Rows.stepAppliesRow.unfollowed == Tryz.checked.prog.unfollowed 6)=true:=by kernel_rfl
theorem ft4:(Rows.stepAppliesRow.named == Tryz.checked.prog.varsNamed 6)=true:=by kernel_rfl
theorem ft6:((Tryz.checked.prog.stops == [])&&(Tryz.checked.prog.stopKnobs == []))=true:=by kernel_rfl
theorem ft7:(Rows.stepAppliesRow.plainKeys == Tryz.checked.prog.plainKeys)=true:=by kernel_rfl
theorem ft8:Tryz.checked.prog.stopsHeard=true:=by kernel_rfl
theorem ft9:(Tryz.checked.prog.mayEnter&&((Rows.stepAppliesRow.lifted == Tryz.checked.prog.liftsFinal)&&(Tryz.checked.prog.make == some Rows.stepAppliesRow.make)))=true:=by kernel_rfl
theorem ft5:(Rows.stepAppliesRow.recurses == Tryz.checked.prog.recurses 6)=true:=by
 have h:Tryz.checked.prog.unfollowed 6=true:=by have:=ft3;rw[beq_iff_eq] at this;exact this.symm
 unfold Program.recurses;rw[h];rfl
theorem facts:joinedFacts Tryz.checked.prog 6 Tryz.f6 Rows.stepAppliesSpec Rows.stepAppliesRow=true:=by
 obtain⟨h1,h2⟩:=Bool.and_eq_true_iff.1 ft1
 obtain⟨h3,h4⟩:=Bool.and_eq_true_iff.1 ft6
 obtain⟨h5,h6⟩:=Bool.and_eq_true_iff.1 ft9
 obtain⟨h7,h8⟩:=Bool.and_eq_true_iff.1 h6
 unfold joinedFacts
 rw[h1,h2,ft2,ft3,ft4,ft5,h3,h4,ft7,ft8,h5,h7,h8]
 kernel_rfl
theorem over:Rows.stepAppliesRow.holds Tryz.pinned (OpenSpec.ofChange Rows.stepAppliesSpec):=
 OpenClaim.holds_of_wide 6 Tryz.f6 rfl rfl rfl rfl rfl rfl rfl ⟨rfl,rfl,rfl,rfl,rfl⟩ rfl rfl rfl rfl rfl (by kernel_rfl) Tryz.func6 facts
  (of_decide_eq_true (by kernel_rfl)) (by unfold Func.isWrapper;first|(rw[if_pos (by decide+kernel)];kernel_rfl)|(rw[if_neg (by decide+kernel)];exact⟨rfl,rfl⟩))
  (fun os started H enc _=>lifted os started H enc)
theorem proved:Rows.StepAppliesSaid:=
 over
#print axioms proved
end Go.Proofs.YtoahfpabpdjkkaaGreat.stepApplies
