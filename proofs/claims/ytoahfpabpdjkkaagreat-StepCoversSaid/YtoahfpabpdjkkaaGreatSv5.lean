/- gimmallaw13.StepCovers returns true for all arguments, and leaves what was there as it was. No condition beyond the statement. -/
/- Merged by pack.py: StpP, GxNQ, GxLK, IntK, GxN, DepA, GxNR, DepD, ClsA, GxOG, RefA, CatB, RefB, KeyE, GxPF, GxP, GxPG, GxPI, StpA, StpB, StpC, DepB, StpD, StpE, PagesE, PagesF, PagesL, GxPE, RefS, RefU, RefV, RefW, GxPH, StpL, StpQ, StpR, StCov. -/
import Derived.Test.YtoahfpabpdjkkaaGreatSv1
import Derived.Test.YtoahfpabpdjkkaaGreatSv2
import Derived.Test.YtoahfpabpdjkkaaGreatSv3
import Derived.Test.YtoahfpabpdjkkaaGreatSv4
import Derived.RecoverIn
import Derived.Test.YtoahfpabpdjkkaaGreatRows
import Derived.WalkKit
import Derived.ProofKit
import Derived.OpenShut
import Derived.ShutString
import Derived.Below
import Derived.Carry
namespace Go.Proofs.YtoahfpabpdjkkaaGreat.Gx
open Go
set_option linter.unusedSimpArgs false
set_option linter.unusedVariables false
abbrev Rg:=Int×Int×Int×Int
abbrev rgL(r:Rg):List Value:=[.int .i64 r.1,.int .i64 r.2.1,.int .i64 r.2.2.1,.int .i64 r.2.2.2]
def rgG(r:Rg)(a:Int):Int:=if a=0 then r.1 else if a=1 then r.2.1 else if a=2 then r.2.2.1 else r.2.2.2
def rgS(r:Rg)(a v:Int):Rg:=if a=0 then (v,r.2) else if a=1 then (r.1,v,r.2.2) else if a=2 then (r.1,r.2.1,v,r.2.2.2) else (r.1,r.2.1,r.2.2.1,v)
theorem in4{a:Int}(h:0<=a/\a<=3):a=0\/a=1\/a=2\/a=3:=by omega
def I64(n:Int):Prop:= -9223372036854775808<=n/\n<=9223372036854775807
def RgOk(r:Rg):Prop:=I64 r.1/\I64 r.2.1/\I64 r.2.2.1/\I64 r.2.2.2
theorem RgOk.get{r:Rg}(h:RgOk r)(a:Int):I64 (rgG r a):=by
 unfold rgG
 split
 ·exact h.1
 split
 ·exact h.2.1
 split
 ·exact h.2.2.1
 ·exact h.2.2.2
theorem RgOk.set{r:Rg}{a v:Int}(h:RgOk r)(hv:I64 v):RgOk (rgS r a v):=by
 obtain⟨h1,h2,h3,h4⟩:=h
 unfold rgS
 split
 ·exact⟨hv,h2,h3,h4⟩
 split
 ·exact⟨h1,hv,h3,h4⟩
 split
 ·exact⟨h1,h2,hv,h4⟩
 ·exact⟨h1,h2,h3,hv⟩
abbrev ChV:=Bool×Int
structure PS where
 r:Rg
 rd:Int->Prop
 wr:Int->Prop
 ch:Int->Option ChV
def nowV(st:Int->Option Int)(ch:Int->Option ChV)(k:Int):Option Int:=match ch k with
 | some (true,_)=>none
 | some (false,v)=>some v
 | none=>st k
def cntV(st:Int->Option Int)(ch:Int->Option ChV)(lo hi:Int):Int:=(((ranI lo (hi+1-lo).toNat).filter fun q=>(nowV st ch q).isSome).length:Nat)
noncomputable def stepI(st:Int->Option Int)(mr mw:Int->Prop)(args:List Int)(x:InsD)(s:PS):Int ⊕ PS:=
 if x.1=1 then (if bq (mr (keyAt x.K args))=true then .inr { s with r:=rgS s.r x.a ((nowV st s.ch (keyAt x.K args)).getD 0),rd:=fun j=>s.rd j\/j=keyAt x.K args } else .inl 9)
 else if x.1=2 then (if bq (mw (keyAt x.K args))=true then .inr { s with wr:=fun j=>s.wr j\/j=keyAt x.K args,ch:=fun j=>if j=keyAt x.K args then some (false,rgG s.r x.a) else s.ch j } else .inl 9)
 else if x.1=3 then (if bq (mw (keyAt x.K args))=true then .inr { s with wr:=fun j=>s.wr j\/j=keyAt x.K args,ch:=fun j=>if j=keyAt x.K args then some (true,0) else s.ch j } else .inl 9)
 else if x.1=4 then (if bq (∀q,keyAt x.K args<=q->q<=keyAt x.L args->mr q)=true then .inr { s with r:=rgS s.r x.a (cntV st s.ch (keyAt x.K args) (keyAt x.L args)),rd:=fun j=>s.rd j\/(keyAt x.K args<=j/\j<=keyAt x.L args) } else .inl 9)
 else if x.1=5 then .inr { s with r:=rgS s.r x.a x.X }
 else if x.1=6 then (if -9223372036854775808<=rgG s.r x.b+rgG s.r x.c/\rgG s.r x.b+rgG s.r x.c<=9223372036854775807 then .inr { s with r:=rgS s.r x.a (rgG s.r x.b+rgG s.r x.c) } else .inl 8)
 else if x.1=7 then (if -9223372036854775808<=rgG s.r x.b-rgG s.r x.c/\rgG s.r x.b-rgG s.r x.c<=9223372036854775807 then .inr { s with r:=rgS s.r x.a (rgG s.r x.b-rgG s.r x.c) } else .inl 8)
 else (if rgG s.r x.a<x.X then .inl 7 else .inr s)
noncomputable def runI(st:Int->Option Int)(mr mw:Int->Prop)(args:List Int):List InsD->Nat->PS->(Int×Nat) ⊕ PS
 | [],_,s=>.inr s
 | x::l,i,s=>match stepI st mr mw args x s with
  | .inl e=>.inl (e,i)
  | .inr s'=>runI st mr mw args l (i+1) s'
section
variable {st:Int->Option Int} {mr mw:Int->Prop} {args:List Int}
theorem runI_app:∀(l m:List InsD)(i:Nat)(s:PS),runI st mr mw args (l++m) i s=match runI st mr mw args l i s with
  | .inl e=>.inl e
  | .inr s'=>runI st mr mw args m (i+l.length) s'
 | [],m,i,s=>by simp[runI]
 | x::l,m,i,s=>by
  simp only[List.cons_append,runI]
  cases stepI st mr mw args x s with
  | inl e=>rfl
  | inr s'=>
   simp only
   rw[runI_app l m (i+1) s',List.length_cons,show i+1+l.length=i+(l.length+1) by omega]
theorem runI_next{l:List InsD}{i:Nat}{x:InsD}{s0 s s':PS}(hx:l[i]? =some x)(h:runI st mr mw args (l.take i) 0 s0=.inr s)(hs:stepI st mr mw args x s=.inr s'):runI st mr mw args (l.take (i+1)) 0 s0=.inr s':=by
 rw[take_succ_get hx,runI_app,h]
 simp[runI,hs]
theorem runI_fail{l:List InsD}{i:Nat}{x:InsD}{s0 s:PS}{e:Int}(hx:l[i]? =some x)(h:runI st mr mw args (l.take i) 0 s0=.inr s)(hs:stepI st mr mw args x s=.inl e):runI st mr mw args l 0 s0=.inl (e,i):=by
 have hl:=(List.getElem?_eq_some_iff.1 hx).1
 have e1:l=l.take (i+1)++l.drop (i+1):=(List.take_append_drop _ _).symm
 rw[e1,runI_app,take_succ_get hx,runI_app,h]
 simp[runI,hs,Nat.min_eq_left (Nat.le_of_lt hl)]
end
abbrev ChD:=Int×Bool×Int
structure OutD where
 code:Int
 at':Int
 r:Rg
 rds:List Spn
 wrs:List Spn
 chs:List ChD
structure Done(s:PS)(o:OutD):Prop where
 code:o.code=0
 at0:o.at'=0
 r:o.r=s.r
 nr:NormS o.rds
 hr:∀k,hasS o.rds k↔s.rd k
 nw:NormS o.wrs
 hw:∀k,hasS o.wrs k↔s.wr k
 srt:(o.chs.map (·.1)).Pairwise (· < ·)
 mem:∀c:ChD,c∈o.chs↔s.ch c.1=some c.2
def ps0(r:Rg):PS:=⟨r,fun _=>False,fun _=>False,fun _=>none⟩
def IsOut(ok:Prop)(st:Int->Option Int)(mr mw:Int->Prop)(args:List Int)(code:List InsD)(r:Rg)(o:OutD):Prop:=
 (¬ok->o=⟨1,0,r,[],[],[]⟩)/\(ok->match runI st mr mw args code 0 (ps0 r) with
  | .inl e=>o=⟨e.1,e.2,r,[],[],[]⟩
  | .inr s=>Done s o)
theorem srt1_ext:∀ {a b:List ChD},(a.map (·.1)).Pairwise (· < ·)->(b.map (·.1)).Pairwise (· < ·)->(∀c,c∈a↔c∈b)->a=b
 | [],[],_,_,_=>rfl
 | [],y::b,_,_,h=>by have:=(h y).2 (List.mem_cons_self ..);simp at this
 | x::a,[],_,_,h=>by have:=(h x).1 (List.mem_cons_self ..);simp at this
 | x::a,y::b,ha,hb,h=>by
  simp only[List.map_cons,List.pairwise_cons,List.mem_map] at ha hb
  have lt1:∀z∈a,x.1<z.1:=fun z hz=>ha.1 _ ⟨z,hz,rfl⟩
  have lt2:∀z∈b,y.1<z.1:=fun z hz=>hb.1 _ ⟨z,hz,rfl⟩
  have e:x=y:=by
   rcases List.mem_cons.1 ((h x).1 (List.mem_cons_self ..)) with e|e
   ·exact e
   ·rcases List.mem_cons.1 ((h y).2 (List.mem_cons_self ..)) with e'|e'
    ·exact e'.symm
    ·have:=lt1 _ e';have:=lt2 _ e;omega
  subst e
  congr 1
  refine srt1_ext ha.2 hb.2 fun c=>⟨fun hc=>?_,fun hc=>?_⟩
  ·rcases List.mem_cons.1 ((h c).1 (List.mem_cons_of_mem _ hc)) with e|e
   ·subst e;have:=lt1 _ hc;omega
   ·exact e
  ·rcases List.mem_cons.1 ((h c).2 (List.mem_cons_of_mem _ hc)) with e|e
   ·subst e;have:=lt2 _ hc;omega
   ·exact e
theorem Done.uniq{s:PS}{o p:OutD}(h:Done s o)(k:Done s p):o=p:=by
 have e1:=normS_ext h.nr k.nr fun j=>(h.hr j).trans (k.hr j).symm
 have e2:=normS_ext h.nw k.nw fun j=>(h.hw j).trans (k.hw j).symm
 have e3:=srt1_ext h.srt k.srt fun c=>(h.mem c).trans (k.mem c).symm
 obtain⟨a1,a2,a3,a4,a5,a6⟩:=o
 obtain⟨b1,b2,b3,b4,b5,b6⟩:=p
 have h1:=h.code;have h2:=h.at0;have h3:=h.r;have k1:=k.code;have k2:=k.at0;have k3:=k.r
 simp only at*
 subst h1 h2 h3 k1 k2 k3 e1 e2 e3
 rfl
theorem IsOut.uniq{ok:Prop}{st:Int->Option Int}{mr mw:Int->Prop}{args:List Int}{code:List InsD}{r:Rg}{o p:OutD}(h:IsOut ok st mr mw args code r o)(k:IsOut ok st mr mw args code r p):o=p:=by
 by_cases hok:ok
 ·have h1:=h.2 hok
  have k1:=k.2 hok
  cases hr:runI st mr mw args code 0 (ps0 r) with
  | inl e=>rw[hr] at h1 k1;exact h1.trans k1.symm
  | inr s=>rw[hr] at h1 k1;exact h1.uniq k1
 ·exact(h.1 hok).trans (k.1 hok).symm
structure PsOk(s:PS):Prop where
 r:RgOk s.r
 rd:∀k,s.rd k->0<=k/\k<=999
 wr:∀k,s.wr k↔s.ch k≠none
 wk:∀k,s.wr k->0<=k/\k<=999
 gone:∀k v,s.ch k=some (true,v)->v=0
 val:∀k v,s.ch k=some (false,v)->I64 v
theorem ps0_ok{r:Rg}(h:RgOk r):PsOk (ps0 r):=⟨h,fun _ h=>h.elim,fun k=>⟨fun h=>h.elim,fun h=>absurd rfl h⟩,fun _ h=>h.elim,fun _ _ h=>(by cases h),fun _ _ h=>(by cases h)⟩
theorem stepI_ok{st:Int->Option Int}{mr mw:Int->Prop}{args:List Int}{x:InsD}{s s':PS}(hs:PsOk s)(hst:∀k v,st k=some v->I64 v)(hx:InsOk x args.length)(hX:I64 x.X)(ha:ArgsOk args)(h:stepI st mr mw args x s=.inr s'):PsOk s':=by
 have now:∀k,I64 ((nowV st s.ch k).getD 0):=fun k=>by
  have z:I64 0:=⟨by decide,by decide⟩
  unfold nowV
  cases hc:s.ch k with
  | none=>cases hv:st k with
   | none=>exact z
   | some v=>exact hst _ _ hv
  | some c=>obtain⟨g,v⟩:=c;cases g with
   | true=>exact z
   | false=>exact hs.val _ _ hc
 have kr:x.1<=4->0<=keyAt x.K args/\keyAt x.K args<=999:=fun h=>keyAt_range (hx.ko h) ha
 have lr:x.1=4->0<=keyAt x.L args/\keyAt x.L args<=999:=fun h=>keyAt_range (hx.lo h) ha
 unfold stepI at h
 split at h
 ·rename_i h1
  split at h<;>cases h
  exact⟨hs.r.set (now _),fun k hk=>hk.elim (hs.rd k) fun e=>e ▸ kr (by omega),hs.wr,hs.wk,hs.gone,hs.val⟩
 split at h
 ·rename_i h1
  split at h<;>cases h
  refine⟨hs.r,hs.rd,fun k=>?_,fun k hk=>hk.elim (hs.wk k) fun e=>e ▸ kr (by omega),fun k v h=>?_,fun k v h=>?_⟩
  ·dsimp only;by_cases e:k=keyAt x.K args
   ·simp[e]
   ·simp[e,hs.wr]
  ·dsimp only at h;split at h
   ·cases h
   ·exact hs.gone _ _ h
  ·dsimp only at h;split at h
   ·cases h;exact hs.r.get _
   ·exact hs.val _ _ h
 split at h
 ·rename_i h1
  split at h<;>cases h
  refine⟨hs.r,hs.rd,fun k=>?_,fun k hk=>hk.elim (hs.wk k) fun e=>e ▸ kr (by omega),fun k v h=>?_,fun k v h=>?_⟩
  ·dsimp only;by_cases e:k=keyAt x.K args
   ·simp[e]
   ·simp[e,hs.wr]
  ·dsimp only at h;split at h
   ·cases h;rfl
   ·exact hs.gone _ _ h
  ·dsimp only at h;split at h
   ·cases h
   ·exact hs.val _ _ h
 split at h
 ·rename_i h1
  have hk:=kr (by omega)
  have hl:=lr h1
  split at h<;>cases h
  refine⟨hs.r.set ?_,fun k hk'=>hk'.elim (hs.rd k) fun e=>by omega,hs.wr,hs.wk,hs.gone,hs.val⟩
  have:(((ranI (keyAt x.K args) (keyAt x.L args+1-keyAt x.K args).toNat).filter fun q=>(nowV st s.ch q).isSome).length)<=(keyAt x.L args+1-keyAt x.K args).toNat:=Nat.le_trans (List.length_filter_le _ _) (by rw[ranI_len];exact Nat.le_refl _)
  unfold cntV I64
  omega
 split at h
 ·cases h;exact⟨hs.r.set hX,hs.rd,hs.wr,hs.wk,hs.gone,hs.val⟩
 split at h
 ·split at h<;>cases h
  rename_i hv
  exact⟨hs.r.set hv,hs.rd,hs.wr,hs.wk,hs.gone,hs.val⟩
 split at h
 ·split at h<;>cases h
  rename_i hv
  exact⟨hs.r.set hv,hs.rd,hs.wr,hs.wk,hs.gone,hs.val⟩
 split at h<;>cases h
 exact hs
def stP(P:List (List Pr))(k:Int):Option Int:=if 0<=k/\k<=999/\hasP P k=true then some (valP P k) else none
set_option maxRecDepth 100000
section
variable {β:Type} {enc:β->Value}
end
def encB(b:Bool):Value:=.bool b
def F9j3(t0:Sl)(b1:Nat)(y3:Nat->Int->World->Prop)(b5:Nat)(n6:Int)(y26:Nat->Int->World->Prop)(b28:Nat)(n29:Int)(w30:World):Prop:=Qx t0.1 n6 (t0.2:Int) fun b33 b34=>Qi w30 b33 (b34+n6.toNat*2+1) fun n35=>IfB (decide (n29<=n35)) ((0<=n29/\n29<((1000:Nat):Int))/\#[Value.bool true].size=1/\StoreP w30 b1 (0+n29.toNat) [Value.bool true] fun w36=>([]:List Df)=[]/\∃b37:Nat,b37<b28/\y26 b37 (IntKind.i64.wrap (n29+1)) w36) (([]:List Df)=[]/\∃b38:Nat,b38<b5/\y3 b38 (IntKind.i64.wrap (n6+1)) w30)
def F9j2(t0:Sl)(b1:Nat)(y3:Nat->Int->World->Prop)(b5:Nat)(n6:Int)(w12:World):Prop:=Qx t0.1 n6 (t0.2:Int) fun b15 b16=>Qi w12 b15 (b16+n6.toNat*2+0) fun n17=>IfB (decide (n17<0)) (([]:List Df)=[]/\∃b18:Nat,b18<b5/\y3 b18 (IntKind.i64.wrap (n6+1)) w12) (Qx t0.1 n6 (t0.2:Int) fun b19 b20=>Qi w12 b19 (b20+n6.toNat*2+1) fun n21=>IfB (decide (999<n21)) (([]:List Df)=[]/\∃b22:Nat,b22<b5/\y3 b22 (IntKind.i64.wrap (n6+1)) w12) (Qx t0.1 n6 (t0.2:Int) fun b23 b24=>Qi w12 b23 (b24+n6.toNat*2+0) fun n25=>Ql (α:=Int) n25 w12 fun y26 b28 n29 w30=>(F9j3 t0 b1 y3 b5 n6 y26 b28 n29 w30)))
theorem F9_ok(t0:Sl)(w:World)(R:RV)(h:AllocP w (Obj.cells (Array.replicate 1000 (Value.bool false)) 73) fun b1 w2=>Ql (α:=Int) 0 w2 fun y3 b5 n6 w7=>∃(y10:Unit->World->Prop),IfB (decide (n6<(t0.n:Int))) (([]:List Df)=[]/\y10 PUnit.unit w7) (R (Value.pointer (some ⟨b1,0,none⟩)) w7)/\∀(y11:Unit)(w12:World)(y13:Nat->Value),y10 y11 w12->(F9j2 t0 b1 y3 b5 n6 w12)):Cw 9 #[Qy t0] w R:=
 ckF Tryz.func9 (nd (nd (.node (nd (.loop [(4,oi)] (rg [4,41]) (.join [] [6,7,8,9] .nil (.node (nd (nd (.loop [(5,oi)] (rg [5,5,31,41]) .nil))) .nil)))) .nil))) h (by kernel_rfl) (by kernel_rfl)
abbrev st1000(b:Nat):Sl:=⟨some ⟨b,0,none⟩,1000,1000⟩
def SetP(w:World)(b:Nat)(Q:Nat->Prop):Prop:=∃bs:List Bool,OwS w (st1000 b) 1 (bs.map encB)/\bs.length=1000/\∀k,k<1000->(bs[k]? =some true↔Q k)
theorem SetP.ext{w w':World}{b:Nat}{Q:Nat->Prop}(h:SetP w b Q)(e:Ext w w'):SetP w' b Q:=by
 obtain⟨bs,h1,h2⟩:=h
 exact⟨bs,h1.ext e,h2⟩
theorem SetP.iff{w:World}{b:Nat}{Q Q':Nat->Prop}(h:SetP w b Q)(hq:∀k,k<1000->(Q' k↔Q k)):SetP w b Q':=by
 obtain⟨bs,h1,h2,h3⟩:=h
 exact⟨bs,h1,h2,fun k hk=>(h3 k hk).trans (hq k hk).symm⟩
theorem SetP.get{w:World}{b:Nat}{Q:Nat->Prop}(h:SetP w b Q){k:Nat}(hk:k<1000):∃r,w.cell? ⟨b,0+k,none⟩=some (.bool r)/\(r=true↔Q k):=by
 obtain⟨bs,h1,h2,h3⟩:=h
 have hx:bs[k]? =some (bs[k]'(by omega)):=List.getElem?_eq_getElem (by omega)
 obtain⟨b',hp,hc⟩:=h1.elem1 (i:=k) (v:=encB (bs[k]'(by omega))) (by rw[List.getElem?_map,hx];rfl)
 cases hp
 refine⟨bs[k]'(by omega),by rw[Nat.zero_add];exact hc,?_⟩
 rw[<-h3 k hk,hx];simp
theorem SetP.put{w:World}{b:Nat}{Q:Nat->Prop}(h:SetP w b Q){k:Nat}(hk:k<1000){K:World->Prop}(hK:∀w',SetP w' b (fun k'=>Q k'\/k'=k)->Ch (fun i=>i=b) w w'->K w'):StoreP w b (0+k) [.bool true] K:=by
 obtain⟨bs,h1,h2,h3⟩:=h
 rw[Nat.zero_add]
 refine h1.store (vs:=[.bool true]) rfl (by simp;omega) (by intro v hv;rw[List.mem_singleton.1 hv];rfl) fun w' ho hC=>hK w' ⟨bs.set k true,?_,by rw[List.length_set];exact h2,fun k' hk'=>?_⟩ hC
 ·have e:(bs.map encB).take k++[.bool true]++(bs.map encB).drop (k+1)=(bs.set k true).map encB:=by
   rw[List.set_eq_take_append_cons_drop,if_pos (by omega),List.map_append,List.map_cons,List.map_take,List.map_drop]
   simp[encB]
  rw[<-e];exact ho
 ·rw[List.getElem?_set]
  by_cases e:k=k'
  ·subst e;simp[h2,hk]
  ·rw[if_neg e,h3 k' hk'];simp[Ne.symm e]
theorem c9{w:World}{t:Sl}{xs:List Spn}(h:Rd w t 2 (xs.flatMap sv))(hl:xs.length<=1000000):
  Cw 9 #[slV t] w fun v w'=>∃b,v=.pointer (some ⟨b,0,none⟩)/\SetP w' b (fun k=>hasS xs k)/\w.heap.size<=b/\Ext w w':=by
 have hn:=rdN sv_len (by omega) h
 refine F9_ok t w _ fun b1 w2 a2=>?_
 have e2:Ext w w2:=a2.ch _
 have p2:=a2.here
 have hS0:SetP w2 b1 (fun k=>hasS (xs.take 0) k):=by
  refine⟨List.replicate 1000 false,OwS.new (w:=w) (T:=73) ?_ (by rw[List.length_map,List.length_replicate]),by rw[List.length_replicate],fun k hk=>?_⟩
  ·have:((List.replicate 1000 false).map encB).toArray=Array.replicate 1000 (Value.bool false):=by rw[List.map_replicate,List.toArray_replicate];rfl
   rw[this];exact a2
  ·rw[List.getElem?_replicate,if_pos hk];simp[hasS]
 refine⟨fun m x W=>∃i:Nat,i<=xs.length/\m+i=xs.length/\x=(i:Int)/\SetP W b1 (fun k=>hasS (xs.take i) k)/\Ch (fun j=>j=b1) w2 W,⟨xs.length,0,Nat.zero_le _,rfl,rfl,hS0,Ch.refl _ _⟩,?_⟩
 rintro m _ W g ⟨i,hi,hmi,rfl,hS,hC⟩
 have E:Ext w W:=e2.chN hC fun j e=>by omega
 refine⟨fun _ w12=>w12=W/\i<xs.length,IfB.dec (fun hlt=>⟨rfl,rfl,by omega⟩) fun hge=>?_,?_⟩
 ·have hi':i=xs.length:=by omega
  subst hi'
  rw[List.take_length] at hS
  exact⟨b1,rfl,hS,by omega,E⟩
 rintro _ _ g ⟨rfl,hi'⟩
 have hx:xs[i]? =some xs[i]:=List.getElem?_eq_getElem hi'
 have htk:=take_succ_get hx
 generalize xs[i]=s at hx htk
 obtain⟨a,o,hp,hc⟩:=(h.ext E).elem (i:=i) (by omega) (by omega) (flatGet sv_len hx)
 have hb:(0:Int)<=(i:Int)/\(i:Int)<(t.n:Int):=⟨by omega,by omega⟩
 have hi1:IntKind.i64.wrap ((i:Int)+1)=((i+1:Nat):Int):=by rw[wrap_of (by omega) (by omega)];rfl
 have skip:(s.1<0\/999<s.2)->SetP _ b1 (fun k=>hasS (xs.take (i+1)) k):=fun hs=>hS.iff fun k hk=>by
  rw[htk,hasS_append,hasS_one]
  unfold mayS
  constructor
  ·rintro(h|h)
   ·exact h
   ·omega
  ·exact .inl
 unfold F9j2
 refine⟨a,o,hp,hb,s.1,by rw[Int.toNat_natCast];exact hc.fst,IfB.dec (fun h1=>⟨rfl,m-1,by omega,i+1,hi',by omega,hi1,skip (.inl h1),hC⟩) fun h1=>⟨a,o,hp,hb,s.2,by rw[Int.toNat_natCast];exact hc.snd,IfB.dec (fun h2=>⟨rfl,m-1,by omega,i+1,hi',by omega,hi1,skip (.inr h2),hC⟩) fun h2=>?_⟩⟩
 refine⟨a,o,hp,hb,s.1,by rw[Int.toNat_natCast];exact hc.fst,fun n x W'=>(s.1<=x/\(x<=s.2+1\/x=s.1))/\n=(s.2+1-x).toNat/\SetP W' b1 (fun k=>hasS (xs.take i) k\/(s.1<=(k:Int)/\(k:Int)<x))/\Ch (fun j=>j=b1) w2 W',
  ⟨_,⟨by omega,.inr rfl⟩,rfl,hS.iff fun k hk=>⟨fun h=>h.elim id fun h=>by omega,.inl⟩,hC⟩,?_⟩
 rintro n x W' g ⟨⟨hx1,hx2⟩,rfl,hS',hC'⟩
 have E':Ext w W':=e2.chN hC' fun j e=>by omega
 obtain⟨a',o',hp',hc'⟩:=(h.ext E').elem (i:=i) (by omega) (by omega) (flatGet sv_len hx)
 unfold F9j3
 refine⟨a',o',hp',hb,s.2,by rw[Int.toNat_natCast];exact hc'.snd,IfB.dec (fun h3=>⟨⟨by omega,by omega⟩,rfl,hS'.put (k:=x.toNat) (by omega) fun w3 hS3 hC3=>⟨rfl,(s.2+1-(x+1)).toNat,by omega,?_,?_,?_,hC'.trans hC3⟩⟩) fun h3=>⟨rfl,m-1,by omega,i+1,hi',by omega,hi1,?_,hC'⟩⟩
 ·rw[wrap_of (by omega) (by omega)];omega
 ·rw[wrap_of (by omega) (by omega)]
 ·rw[wrap_of (by omega) (by omega)]
  exact hS3.iff fun k hk=>by
   rw[or_assoc]
   exact or_congr Iff.rfl (by omega)
 ·refine hS'.iff fun k hk=>?_
  rw[htk,hasS_append,hasS_one]
  refine or_congr Iff.rfl ?_
  unfold mayS;omega
theorem c31{w:World}{t u s1 s2:Sl}{l:List SpTD}{args:List Int}{xs ys:List Spn}(h:Rd w t 5 (l.flatMap spTC))(ha:Rd w u 1 (args.map iv))(hx:Rd w s1 2 (xs.flatMap sv))(hy:Rd w s2 2 (ys.flatMap sv))(hxl:xs.length<=1000000)(hyl:ys.length<=1000000):
  Cw 31 #[slV t,slV u,slV s1,slV s2] w fun v w'=>∃r,v=.bool r/\(r=true↔(ArgsOk args/\FootOk l args.length)/\(∀k,hasS xs k->hasS (footR l args) k)/\∀k,hasS ys k->hasS (footW l args) k)/\Ext w w':=by
 refine F31_ok t u s1 s2 w _ ((c54 h ha).use ?_)
 rintro _ w2 ⟨t1,t2,r,os1,os2,rfl,hr,h0,⟨hN1,hk1,ho1,hl1⟩,⟨hN2,hk2,ho2,hl2⟩,e2,_,_⟩
 refine⟨(t1,t2,r),rfl,IfB.intro (fun h1=>?_) fun h1=>⟨false,rfl,⟨fun h=>(by cases h),fun h=>?_⟩,e2⟩⟩
 ·have h1:r=true:=h1
  refine(c55 (hx.ext e2) ho1.rd hxl (by omega)).use ?_
  rintro _ w5 ⟨r5,rfl,hr5,e5⟩
  have i5:r5=true↔∀k,hasS xs k->hasS (footR l args) k:=hr5.trans ⟨fun h k hk=>(hk1 h1 k).1 (h k hk),fun h k hk=>(hk1 h1 k).2 (h k hk)⟩
  refine⟨r5,rfl,IfB.intro (fun h5=>(c55 ((hy.ext e2).ext e5) (ho2.ext e5).rd hyl (by omega)).use ?_) fun h5=>⟨false,rfl,⟨fun h=>(by cases h),fun h=>?_⟩,e2.trans e5⟩⟩
  ·rintro _ w8 ⟨r8,rfl,hr8,e8⟩
   exact⟨r8,rfl,r8,rfl,⟨fun h=>⟨hr.1 h1,i5.1 h5,fun k hk=>(hk2 h1 k).1 (hr8.1 h k hk)⟩,fun h=>hr8.2 fun k hk=>(hk2 h1 k).2 (h.2.2 k hk)⟩,(e2.trans e5).trans e8⟩
  ·rw[i5.2 h.2.1] at h5;cases h5
 ·have h1:r=false:=h1
  rw[hr.2 h.1] at h1;cases h1
theorem eqSpn(x y:Spn):EqAt Tryz.prog 71 (.agg #[.int .i64 x.1,.int .i64 x.2]) (.agg #[.int .i64 y.1,.int .i64 y.2]) (x == y):=by
 have h:=eqAt_struct tbOk (d:=2) (by decide) (t:=71) (xs:=#[.int .i64 x.1,.int .i64 x.2]) (ys:=#[.int .i64 y.1,.int .i64 y.2]) (b:=(x.1 == y.1)&&((x.2 == y.2)&&true)) (by kernel_rfl) (by kernel_rfl)
 have e:(x == y)=((x.1 == y.1)&&((x.2 == y.2)&&true)):=by rw[Bool.and_true];rfl
 rw[e];exact h
theorem c40{w:World}{s t:Sl}{xs ys:List Spn}(hs:Rd w s 2 (xs.flatMap sv))(ht:Rd w t 2 (ys.flatMap sv))(hxl:xs.length<=1000000):
  Cw 40 #[slV s,slV t] w fun v w'=>v=.bool (decide (xs=ys))/\Ext w w':=by
 have hn:=rdN sv_len (by omega) hs
 have hm:=rdN sv_len (by omega) ht
 refine F40_ok s t w _ (IfB.intro (fun hne=>⟨?_,Ch.refl _ _⟩) fun heq=>?_)
 ·have:¬xs=ys:=fun e=>by
   subst e
   have:s.n=t.n:=by omega
   rw[show ((s.2:Int) != (t.2:Int))=((s.n:Int) != (t.n:Int)) from rfl,this] at hne
   simp at hne
  rw[decide_eq_false this]
 have hl:xs.length=ys.length:=by
  have:(s.n:Int)=(t.n:Int):=by simpa using heq
  omega
 refine⟨fun n x W=>∃i:Nat,i<=xs.length/\n+i=xs.length/\x=(i:Int)/\xs.take i=ys.take i/\Ext w W,⟨xs.length,0,Nat.zero_le _,rfl,rfl,rfl,Ch.refl _ _⟩,?_⟩
 rintro n _ W g ⟨i,hi,hni,rfl,he,hE⟩
 unfold F40j1
 refine IfB.dec (fun hlt=>?_) fun hge=>?_
 ·have hi':i<xs.length:=by omega
  have hx:xs[i]? =some xs[i]:=List.getElem?_eq_getElem hi'
  have hy:ys[i]? =some ys[i]:=List.getElem?_eq_getElem (by omega)
  have tx:=take_succ_get hx
  have ty:=take_succ_get hy
  generalize xs[i]=x at hx tx
  generalize ys[i]=y at hy ty
  have hEd:Ext w W.drew:=hE.trans (extDrew _)
  obtain⟨a,o,hp,hc⟩:=(hs.ext hEd).elem (i:=i) (by omega) (by omega) (flatGet sv_len hx)
  obtain⟨a',o',hp',hc'⟩:=(ht.ext hEd).elem (i:=i) (by omega) (by omega) (flatGet sv_len hy)
  refine⟨a,o,hp,⟨by omega,by omega⟩,x,by rw[Int.toNat_natCast];exact hc,a',o',hp',⟨by omega,by omega⟩,y,by rw[Int.toNat_natCast];exact hc',_,eqSpn x y,IfB.intro (fun hb=>?_) fun hb=>?_⟩
  ·refine⟨?_,hEd⟩
   have hne:¬xs=ys:=fun e=>by
    subst e
    rw[hx] at hy;cases hy
    simp at hb
   rw[decide_eq_false hne]
  ·have e:x=y:=by simpa using hb
   subst e
   exact⟨rfl,n-1,by omega,i+1,hi',by omega,by rw[wrap_of (by omega) (by omega)];rfl,by rw[tx,ty,he],hEd⟩
 ·have hi':i=xs.length:=by omega
  subst hi'
  have e:xs=ys:=by rw[List.take_length,hl,List.take_length] at he;exact he
  exact⟨by rw[decide_eq_true e],hE⟩
theorem c34{w:World}{u:Sl}{args:List Int}{k:KeyD}(ha:Rd w u 1 (args.map iv))(hk:KeyOk k args.length)(hargs:ArgsOk args):
  Cw 34 #[keyV k,slV u] w fun v w'=>v=iv (keyAt k args)/\Ext w w':=by
 have hn:=rdI ha
 have h2:=hk.2
 refine F34_ok k u w _ fun b1 w2 a2=>?_
 have e2:Ext w w2:=a2.ch _
 have ed:=extDrew w2
 have q:=fun{W:World} (j:Nat) (e:Ext w2 W)=>boxAt (cs:=keyC k) a2.new j e
 refine⟨k.1,q 0 (Ch.refl _ _),IfB.dec (fun h1=>⟨k.2,q 1 (Ch.refl _ _),by unfold keyAt;rw[if_pos h1],e2⟩) fun h1=>?_⟩
 have hi:k.1.toNat<args.length:=by omega
 have hx:args[k.1.toNat]? =some args[k.1.toNat]:=List.getElem?_eq_getElem hi
 have hr:=hargs.2 _ (List.getElem_mem hi)
 obtain⟨pb,po,hp,hc⟩:=rdI_get (ha.ext (e2.trans ed)) hx
 refine⟨k.2,q 1 ed,k.1,q 0 ed,pb,po,hp,⟨by omega,by omega⟩,_,hc,?_,e2.trans ed⟩
 unfold keyAt
 rw[if_neg h1,List.getD_eq_getElem?_getD,hx,Option.getD_some,wrap_of (by omega) (by omega)]
theorem c16{w:World}{t u:Sl}{l:List SpTD}{args:List Int}(h:Rd w t 5 (l.flatMap spTC))(ha:Rd w u 1 (args.map iv))(hf:FootOk l args.length)(hargs:ArgsOk args)(wr:Bool):
  Cw 16 #[slV t,slV u,.bool wr] w fun v w'=>∃b,v=.pointer (some ⟨b,0,none⟩)/\SetP w' b (fun k=>hasS (footS (fun s=>s.2.2 || !wr) l args) k)/\w.heap.size<=b/\Ext w w':=by
 have hn:=rdN spTC_len (by omega) h
 have hl4:=hf.l4
 obtain⟨q,hq⟩:∃q:SpTD->Bool,q=fun s=>s.2.2 || !wr:=⟨_,rfl⟩
 rw[<-hq]
 refine F16_ok t u wr w _ ⟨fun m x W=>∃(i:Nat)(so:Sl),i<=l.length/\m+i=l.length/\x=(so,(i:Int))/\OwS W so 2 ((footS q (l.take i) args).flatMap sv)/\Ext w W/\∀j∈blk so,w.heap.size<=j,⟨l.length,0,⟨none,0,0⟩,Nat.zero_le _,rfl,rfl,.nil _ _,Ch.refl _ _,by simp[blk]⟩,?_⟩
 rintro m _ W g ⟨i,so,hi,hmi,rfl,hO,hE,hb⟩
 have hfl:(footS q (l.take i) args).length<=i:=by
  unfold footS
  rw[List.length_map]
  exact Nat.le_trans (List.length_filter_le _ _) (by rw[List.length_take];omega)
 have hon:=owsN sv_len (by omega) hO
 unfold F16j1
 refine IfB.dec (fun hlt=>?_) fun hge=>?_
 ·have hi':i<l.length:=by dsimp only at hlt;omega
  have hx:l[i]? =some l[i]:=List.getElem?_eq_getElem hi'
  have hxm:l[i]∈l:=List.getElem_mem hi'
  have htk:=take_succ_get hx
  generalize l[i]=s at hx hxm htk
  obtain⟨b,o,hp,hc⟩:=(h.ext hE).elem (i:=i) (by omega) (by omega) (flatGet spTC_len hx)
  have hbn:(0:Int)<=(i:Int)/\(i:Int)<(t.n:Int):=⟨by omega,hlt⟩
  have hw1:IntKind.i64.wrap ((i:Int)+1)=((i+1:Nat):Int):=by rw[wrap_of (by omega) (by omega)];rfl
  have take1:q s=true->F16k1 t (so,(i:Int)) W u m (fun m x W=>∃(i:Nat)(so:Sl),i<=l.length/\m+i=l.length/\x=(so,(i:Int))/\OwS W so 2 ((footS q (l.take i) args).flatMap sv)/\Ext w W/\∀j∈blk so,w.heap.size<=j):=fun hqs=>by
   unfold F16k1
   have ed:=extDrew W
   obtain⟨b,o,hp,hc⟩:=(h.ext (hE.trans ed)).elem (i:=i) (by omega) (by omega) (flatGet spTC_len hx)
   have hlo:∀ {V:World},CellsAt V b (o+i*5) (spTC s)->CellsAt V b (o+i*5+0) (keyC s.1)/\CellsAt V b (o+i*5+2) (keyC s.2.1):=fun hc=>⟨fun j v hv=>by
    match j,hv with
    | 0,hv=>exact hc 0 v hv
    | 1,hv=>exact hc 1 v hv,fun j v hv=>by
    match j,hv with
    | 0,hv=>exact hc 2 v hv
    | 1,hv=>exact hc 3 v hv⟩
   refine⟨b,o,hp,hbn,s.1,by dsimp only;rw[Int.toNat_natCast];exact(hlo hc).1,b,o,hp,hbn,s.2.1,by dsimp only;rw[Int.toNat_natCast];exact(hlo hc).2,(c34 (ha.ext (hE.trans ed)) (hf.all s hxm).1 hargs).use ?_⟩
   rintro _ w18 ⟨rfl,e18⟩
   obtain⟨b',o',hp',hc'⟩:=(h.ext ((hE.trans ed).trans e18)).elem (i:=i) (by omega) (by omega) (flatGet spTC_len hx)
   rw[hp] at hp';cases hp'
   refine⟨_,rfl,by dsimp only;rw[Int.toNat_natCast];exact(hlo hc').2,(c34 (ha.ext ((hE.trans ed).trans e18)) (hf.all s hxm).2 hargs).use ?_⟩
   rintro _ w21 ⟨rfl,e21⟩
   refine⟨_,rfl,by decide,fun b23 w24 a24=>?_⟩
   have e24:Ext W w24:=((ed.trans e18).trans e21).trans (a24.ch _)
   refine(hO.ext e24).lit (new:=[iv (keyAt s.1 args),iv (keyAt s.2.1 args)]) (T':=71) a24.new rfl (by intro v hv;simp at hv;rcases hv with rfl|rfl<;>rfl) rfl rfl (by omega) (by decide) fun s' w' ho' hn' hC' hbk=>⟨(by trivial),m-1,by omega,i+1,s',hi',by omega,by dsimp only;rw[hw1],?_,(hE.trans e24).chN hC' hb,fun j hj=>?_⟩
   ·unfold footS at ho' ⊢
    rw[htk,List.filter_append,List.map_append,List.flatMap_append]
    have:[s].filter q=[s]:=by simp[hqs]
    rw[this]
    simp only[List.map_cons,List.map_nil,List.flatMap_cons,List.flatMap_nil,List.append_nil]
    exact ho'
   ·rcases hbk j hj with h|h
    ·exact hb j h
    ·have:=hE.size;have:=e24.size;omega
  refine⟨b,o,hp,hbn,s.2.2,by dsimp only;rw[Int.toNat_natCast];exact hc 4 _ rfl,IfB.intro (fun h1=>take1 (by rw[hq];simp[h1])) fun h1=>IfB.intro (fun h2=>take1 (by rw[hq];simp[h2])) fun h2=>⟨(by trivial),m-1,by omega,i+1,so,hi',by omega,by dsimp only;rw[hw1],?_,hE,hb⟩⟩
  unfold footS at hO ⊢
  have hqs:q s=false:=by rw[hq];dsimp only;rw[show s.2.2=false from h1,h2];rfl
  rw[htk,List.filter_append]
  have:[s].filter q=[]:=by simp[hqs]
  rw[this,List.append_nil]
  exact hO
 ·have hi':i=l.length:=by dsimp only at hge;omega
  subst hi'
  rw[List.take_length] at hO hfl
  refine(c9 hO.rd (by omega)).use ?_
  rintro _ w49 ⟨b,rfl,hS,hb',e49⟩
  exact⟨_,rfl,b,rfl,hS,by have:=hE.size;omega,hE.trans e49⟩
set_option maxRecDepth 20000 in
theorem c15{w:World}{b1 b2:Nat}{Q1 Q2:Nat->Prop}(h1:SetP w b1 Q1)(h2:SetP w b2 Q2):
  Cw 15 #[.pointer (some ⟨b1,0,none⟩),.pointer (some ⟨b2,0,none⟩)] w fun v w'=>∃r,v=.bool r/\(r=true↔∀k,k<1000->Q1 k->Q2 k)/\w=w':=by
 refine F15_ok _ _ w _ ?_
 unfold F15
 refine⟨fun m x W=>∃i:Nat,i<=1000/\m+i=1000/\x=(i:Int)/\w=W/\∀k,k<i->Q1 k->Q2 k,?_,?_⟩
 ·exact⟨1000,0,by omega,by omega,by omega,Eq.refl w,fun k hk=>by omega⟩
 rintro m _ _ g ⟨i,hi,hmi,rfl,rfl,hall⟩
 unfold F15j1
 refine IfB.dec (fun hlt=>?_) fun hge=>⟨true,rfl,⟨fun _ k hk=>hall k (by omega),fun _=>rfl⟩,rfl⟩
 have hi':i<1000:=by omega
 obtain⟨r1,c1,hr1⟩:=h1.get hi'
 obtain⟨r2,c2,hr2⟩:=h2.get hi'
 have hb:(0:Int)<=(i:Int)/\(i:Int)<((1000:Nat):Int):=⟨by omega,by omega⟩
 have next:(Q1 i->Q2 i)->([]:List Df)=[]/\∃b14:Nat,b14<m/\∃i':Nat,i'<=1000/\b14+i'=1000/\IntKind.i64.wrap ((i:Int)+1)=(i':Int)/\w=w/\∀k,k<i'->Q1 k->Q2 k:=fun h=>⟨rfl,m-1,by omega,i+1,hi',by omega,by rw[wrap_of (by omega) (by omega)];rfl,rfl,fun k hk=>by
  by_cases e:k=i
  ·subst e;exact h
  ·exact hall k (by omega)⟩
 refine⟨b1,0,rfl,hb,r1,by rw[Int.toNat_natCast];exact c1,IfB.intro (fun t1=>⟨b2,0,rfl,hb,r2,by rw[Int.toNat_natCast];exact c2,IfB.intro (fun t2=>⟨false,rfl,⟨fun h=>(by cases h),fun h=>?_⟩,rfl⟩) fun t2=>next fun _=>hr2.1 (by simpa using t2)⟩) fun t1=>next fun h=>by rw[hr1.2 h] at t1;cases t1⟩
 have t2:r2=false:=by simpa using t2
 rw[hr2.2 (h i hi' (hr1.1 t1))] at t2;cases t2
theorem F28_ok(t0:Sl×Sl)(t1:Sl)(w:World)(R:RV)(h:AllocP w (Obj.cells #[Qy t0.fst,Qy t0.snd] 36) fun b1 w2=>Cx 51 #[Value.agg #[Qz (-1:Int),Qz 0],Qy t1] w2 fun v3 w4=>∃(x5:Int×Bool),v3=Value.tuple #[Qz x5.1,Value.bool x5.2]/\IfB x5.2 (Qs w4 b1 (0+0) fun s6=>IfB ((s6.2:Int) == 0) (Qs w4 b1 (0+1) fun s7=>Qv' 53 #[Qy s7,Qz (t1.2:Int)] w4 fun t10 w9=>R (Value.bool t10) w9) (Qs w4 b1 (0+0) fun s11=>Qv' 52 #[Qy s11,Qz (t1.2:Int)] w4 fun t14 w13=>IfB t14 (Qs w13 b1 (0+1) fun s15=>Qv' 53 #[Qy s15,Qz (t1.2:Int)] w13 fun t18 w17=>R (Value.bool t18) w17) (R (Value.bool false) w13))) (R (Value.bool false) w4)):Cw 28 #[Value.agg #[Qy t0.fst,Qy t0.snd],Qy t1] w R:=
 ckF Tryz.func28 .nil h (by kernel_rfl) (by kernel_rfl)
theorem F30_ok(t0:Sl)(t1:Sl)(t2:Nat)(t3:Nat)(t4:Nat)(w:World)(R:RV)(h:∃t1_1:Bool,w.cell? ⟨t2,0,none⟩=some (Value.bool t1_1)/\IfB (!t1_1) (R (Value.bool true) w) (∃s2:Sl,w.cell? ⟨t3,0+1,none⟩=some (Qy s2)/\∃s3:Sl,w.cell? ⟨t4,0,none⟩=some (Qy s3)/\Cx 31 #[Qy s2,Qy s3,Qy t0,Qy t1] w fun v4 w5=>∃t6:Bool,v4=Value.bool t6/\R (Value.bool t6) w5)):Cw 30 #[Qy t0,Qy t1,Value.pointer (some ⟨t2,0,none⟩),Value.pointer (some ⟨t3,0,none⟩),Value.pointer (some ⟨t4,0,none⟩)] w R:=
 ckF Tryz.func30 .nil h (by kernel_rfl) (by kernel_rfl)
theorem F103_ok(t0:Option Addr)(t1:Int×Int)(w:World)(R:RV)(h:AllocP w (Obj.cells #[Qz t1.1,Qz t1.2] 64) fun b1 w2=>∃(x3:Int×Int),CellsAt w2.drew b1 0 [Qz x3.1,Qz x3.2]/\∃b4:Nat,∃b5:Nat,t0=some ⟨b4,b5,none⟩/\Qs w2.drew b4 (b5+0) fun s6=>Cx 51 #[Value.agg #[Qz x3.1,Qz x3.2],Qy s6] w2.drew fun v7 w8=>∃(x9:Int×Bool),v7=Value.tuple #[Qz x9.1,Value.bool x9.2]/\R (Qz x9.1) w8):Cw 103 #[Value.pointer t0,Value.agg #[Qz t1.1,Qz t1.2]] w R:=
 ckF Tryz.func103 (nd (.node (.draw (sts [0,1,2,3,4] (.ac 5 [] (sts [6,7,8,9,10] .fin) .non))) .nil)) h (by kernel_rfl) (by kernel_rfl)
theorem F106_ok(t0:Option Addr)(t1:Int)(w:World)(R:RV)(h:∃b1:Nat,∃b2:Nat,t0=some ⟨b1,b2,none⟩/\∃(p3:Option Nat),w.cell? ⟨b1,b2+9,none⟩=some (Value.map p3)/\MapGetP (TypeDesc.int IntKind.i64) w (Value.map p3) (Qz t1) (Value.agg #[Qz 0,Value.bool false,Qz 0]) fun(v4:Value) (t5:Bool)=>∃(x6:Int×Bool×Int),v4=(.agg (lC47 x6).toArray)/\AllocP w (Obj.cells #[Qz 0,Value.bool false,Qz 0] 47) fun b7 w8=>(lC47 x6).toArray.size=3/\StoreP w8 b7 0 (lC47 x6) fun w9=>IfB t5 (Qi w9.drew b7 (0+2) fun n10=>Qb w9.drew b7 (0+1) fun t11=>R (Value.tuple #[Qz n10,Value.bool !t11]) w9.drew) (∃b12:Nat,∃b13:Nat,t0=some ⟨b12,b13,none⟩/\∃(p14:Option Addr),w9.cell? ⟨b12,b13+5,none⟩=some (Value.pointer p14)/\Cx 26 #[Value.pointer p14,Qz t1] w9 fun v15 w16=>∃(x17:Int×Int),v15=Value.tuple #[Qz x17.1,Qz x17.2]/\R (Value.tuple #[Qz x17.1,Value.bool (x17.2 == 0)]) w16)):Cw 106 #[Value.pointer t0,Qz t1] w R:=
 ckF Tryz.func106 (nd (.node (nd (nd (.node (.node (.draw (sts [0,1,2,3,4,5,6] .fin)) .nil) .nil))) .nil)) h (by kernel_rfl) (by kernel_rfl)
theorem F60_ok(t0:Option Addr)(t1:Int×Int×Int×Int×Int×Int×Int×Int×Int)(w:World)(R:RV)(h:AllocP w (Obj.cells (lC66 t1).toArray 66) fun b1 w2=>Qi w2.drew b1 (0+1) fun n3=>Qi w2.drew b1 (0+8) fun n4=>Qx t0 n3 ((4:Nat):Int) fun b5 b6=>#[Qz n4].size=1/\StoreP w2.drew b5 (b6+1+n3.toNat) [Qz n4] fun w7=>R (Value.tuple #[]) w7):Cw 60 #[Value.pointer t0,(.agg (lC66 t1).toArray)] w R:=
 ckF Tryz.func60 (nd (.draw (sts [0,1,2,3,4,5,6,7] (.ac 8 [] .fin .non)))) h (by kernel_rfl) (by kernel_rfl)
def F33k1(w28:World)(b12:Nat)(b1:Nat)(R:RV):Prop:=∃(x48:Int×Int×Int×Int×Int×Int×Sl×Sl×Sl),CellsAt w28 b12 0 (lC27 x48)/\(lC27 x48).toArray.size=9/\StoreP w28 b1 0 (lC27 x48) fun w49=>∃(x50:Int×Int×Int×Int×Int×Int×Sl×Sl×Sl),CellsAt w49 b1 0 (lC27 x50)/\R (Value.agg (lC27 x50).toArray) w49
def F33j1(t0:Option Addr)(R:RV)(b1:Nat)(b12:Nat)(s23:Sl)(y24:Nat->Int->World->Prop)(b26:Nat)(n27:Int)(w28:World):Prop:=IfB (decide (n27<(s23.n:Int))) (Qx s23.1 n27 (s23.2:Int) fun b31 b32=>Qi w28 b31 (b32+n27.toNat) fun n33=>Qs w28.drew b12 (0+8) fun s34=>∃b35:Nat,∃b36:Nat,t0=some ⟨b35,b36,none⟩/\∃(p37:Option Nat),w28.drew.cell? ⟨b35,b36+9,none⟩=some (Value.map p37)/\MapGetP (TypeDesc.int IntKind.i64) w28.drew (Value.map p37) (Qz n33) (Value.agg #[Qz 0,Value.bool false,Qz 0]) fun(v38:Value) (t39:Bool)=>∃(x40:Int×Bool×Int),v38=(.agg (lC47 x40).toArray)/\w28.drew.cell? ⟨b12,0+8,none⟩=some (Qy s34)/\1*3<=16777216/\AllocP w28.drew (Obj.cells (lC47 x40).toArray 47) fun b41 w42=>w42.cell? ⟨b12,0+8,none⟩=some (Qy s34)/\∃(l43:List Value),ReadC w42 (some ⟨b41,0,none⟩) (1*3) l43/\AppendP tt47 47 w42 s34.1 s34.2 s34.3 1 l43 fun s44 w45=>#[Qy s44].size=1/\StoreP w45 b12 (0+8) [Qy s44] fun w46=>([]:List Df)=[]/\∃b47:Nat,b47<b26/\y24 b47 (IntKind.i64.wrap (n27+1)) w46) (F33k1 w28 b12 b1 R)
theorem F33_ok(t0:Option Addr)(w:World)(R:RV)(h:AllocP w (Obj.cells #[Qz 0,Qz 0,Qz 0,Qz 0,Qz 0,Qz 0,Value.slice none 0 0,Value.slice none 0 0,Value.slice none 0 0] 27) fun b1 w2=>∃b3:Nat,∃b4:Nat,t0=some ⟨b3,b4,none⟩/\∃(x5:Int×Int×Int×Int),CellsAt w2.drew b3 (b4+1) [Qz x5.1,Qz x5.snd.1,Qz x5.snd.snd.1,Qz x5.snd.snd.2]/\∃b6:Nat,∃b7:Nat,t0=some ⟨b6,b7,none⟩/\Qs w2.drew b6 (b7+7) fun s8=>∃b9:Nat,∃b10:Nat,t0=some ⟨b9,b10,none⟩/\Qs w2.drew b9 (b10+8) fun s11=>AllocP w2.drew (Obj.cells #[Qz 0,Qz 0,Qz 0,Qz 0,Qz 0,Qz 0,Value.slice none 0 0,Value.slice none 0 0,Value.slice none 0 0] 27) fun b12 w13=>w13.cell? ⟨b9,b10+8,none⟩=some (Qy s11)/\w13.cell? ⟨b6,b7+7,none⟩=some (Qy s8)/\CellsAt w13 b3 (b4+1) [Qz x5.1,Qz x5.snd.1,Qz x5.snd.snd.1,Qz x5.snd.snd.2]/\#[Qz 0,Qz 0,Qz x5.1,Qz x5.snd.1,Qz x5.snd.snd.1,Qz x5.snd.snd.2,Qy s8,Qy s11,Value.slice none 0 0].size=9/\StoreP w13 b12 0 [Qz 0,Qz 0,Qz x5.1,Qz x5.snd.1,Qz x5.snd.snd.1,Qz x5.snd.snd.2,Qy s8,Qy s11,Value.slice none 0 0] fun w14=>∃b15:Nat,∃b16:Nat,t0=some ⟨b15,b16,none⟩/\∃(p17:Option Nat),w14.cell? ⟨b15,b16+9,none⟩=some (Value.map p17)/\Cx 65 #[Value.map p17] w14 fun v18 w19=>∃(x20:Nat×Array Value),v18=Value.func (Fn.func x20.1) #[] x20.2/\Qu' 64 #[Value.func (Fn.func x20.1) #[] x20.2] w19 fun s23 w22=>Ql (α:=Int) 0 w22 fun y24 b26 n27 w28=>(F33j1 t0 R b1 b12 s23 y24 b26 n27 w28)):Cw 33 #[Value.pointer t0] w R:=
 ckF Tryz.func33 (nd (.node (.draw (sts [0,1,2,3,4,5,6,7,8,9,10,11,12] (.ac 13 (rg [0,12]) (.ac 14 [] .fin .non) .non))) (.node (nd (.loop [(26,oi)] (rg [5,5,26,41]) (nd (nd (.node (nd (.draw (sts [0,1,2,3,4,5,6] (.ac 7 [1,0] (.ac 8 [1,0] (.ac 9 [] (.st 10 (.ac 11 [] .fin .non)) .non) .non) .non)))) .nil))))) .nil))) h (by kernel_rfl) (by kernel_rfl)
def F32(w:World)(R:RV):Prop:=AllocP w (Obj.cells #[Value.nilFunc,Value.nilFunc,Value.nilFunc,Value.nilFunc,Value.nilFunc,Value.nilFunc,Value.nilFunc,Value.nilFunc,Value.nilFunc] 85) fun b1 w2=>#[Value.nilFunc,Value.func (Fn.func 56) #[] #[],Value.func (Fn.func 57) #[] #[],Value.func (Fn.func 58) #[] #[],Value.func (Fn.func 59) #[] #[],Value.func (Fn.func 60) #[] #[],Value.func (Fn.func 61) #[] #[],Value.func (Fn.func 62) #[] #[],Value.func (Fn.func 63) #[] #[]].size=9/\StoreP w2 b1 0 [Value.nilFunc,Value.func (Fn.func 56) #[] #[],Value.func (Fn.func 57) #[] #[],Value.func (Fn.func 58) #[] #[],Value.func (Fn.func 59) #[] #[],Value.func (Fn.func 60) #[] #[],Value.func (Fn.func 61) #[] #[],Value.func (Fn.func 62) #[] #[],Value.func (Fn.func 63) #[] #[]] fun w3=>∃(l4:List Value),CellsN w3 b1 0 9 l4/\R (Value.agg { toList:=l4 }) w3
theorem F32_ok(w:World)(R:RV)(h:F32 w R):Cw 32 #[] w R:=
 call_of tbOk mixed en32 Tryz.func32 rfl .nil (by kernel_rfl) (Nat.le_of_ble_eq_true (by kernel_rfl)) (Eq.mp (α:=F32 w R) (by kernel_rfl) h)
theorem F65_ok(t0:Option Nat)(w:World)(R:RV)(h:AllocP w (Obj.cells #[Value.map t0] 80) fun b1 w2=>R (Value.func (Fn.func 113) #[] #[Value.pointer (some ⟨b1,0,none⟩)]) w2):Cw 65 #[Value.map t0] w R:=
 ckF Tryz.func65 .nil h (by kernel_rfl) (by kernel_rfl)
def F113(t0:Nat)(t1:Nat)(w:World)(R:RV):Prop:=∃(p1:Option Nat),w.cell? ⟨t1,0,none⟩=some (Value.map p1)/\MapItP w (Value.map p1) fun b2 w3=>Ql (α:=Unit) PUnit.unit w3 fun y4 b6 y7 w8=>NextP w8 b2 (fun w11=>R (Value.tuple #[]) w11) fun(v12 v13:Value) (w14:World)=>EntryP w14 b2 fun(v15 v16:Value)=>YW Tryz.prog t0 #[v15] w14 fun(t17:Bool) (w18:World)=>IfB (!t17) (R (Value.tuple #[]) w18) (([]:List Df)=[]/\∃b19:Nat,b19<b6/\y4 b19 PUnit.unit w18)
theorem F113_ok(t0:Nat)(t1:Nat)(w:World)(R:RV)(h:F113 t0 t1 w R):Cw 113 #[Value.func (Fn.yield t0) #[] #[],Value.pointer (some ⟨t1,0,none⟩)] w R:=
 ckF Tryz.func113 (nd (.loop [] (rg [3,3,6,13]) .nil)) h (by kernel_rfl) (by kernel_rfl)
def CP(P:Program)(f:FuncId)(args:Array Value)(w:World)(R:RV)(S:List PanicEntry->World->Prop):Prop:=
 Entr P f/\CallsIn Fence.wide 0 P f args w fun e w'=>(∃v,e=.returned v/\R v w')\/∃ch,e=.panicked ch/\S ch w'
def CXS(P:Program)(f:FuncId)(args:Array Value)(w:World)(R:RV)(S:List PanicEntry->World->Prop):Prop:=CX P f args w R\/CP P f args w R S
def opS(P:Program)(tb:Tab)(S:List PanicEntry->World->Prop)(o:Oper)(ρ:Operand->Value)(w:World)(K:RV):Prop:=
 match o.op with
 | .call c=>match c.callee with
  | .value g=>match ρ g with
   | .func (.func f) first captured=>CXS P f (appL first.toList (appL (mapL ρ c.args.toList) captured.toList)).toArray w (fun v w'=>TypedO tb o.type v fun v=>K v w') S
   | _=>opx P tb o ρ w K
  | .builtin .panic=>match mapL ρ c.args.toList with
   | [.iface t v]=>S [{ v:=.iface t v,recovered:=false }] w
   | _=>False
  | _=>opx P tb o ρ w K
 | .panic x=>match ρ x with
  | .iface t v=>S [{ v:=.iface t v,recovered:=false }] w
  | _=>False
 | .typeAssert x _ T ok=>match ok,ρ x,tb T with
  | true,.iface t v,some ti=>match ti.kd with
   | .struct _=>t=T/\K (.tuple #[v,.bool true]) w
   | _=>False
  | _,_,_=>False
 | _=>opx P tb o ρ w K
section
variable {P:Program} {tb:Tab} {ρ:Operand->Value} {w:World} {K:RV} {S:List PanicEntry->World->Prop}
theorem opS_sound(hT:tb.Ok P){o:Oper}{a:Act}(ha:a.eval=ρ){r:Option Nat}{next:Act->World->Prop}{Q:Exit->Act->World->Prop}
  (h:opS P tb S o ρ w K)(hn:∀v w',K v w'->next (a.put o.dst v) w')(hs:∀ch w',S ch w'->Q (.panic ch) a w'):o.wpIn (fz r) 0 P a w next Q:=by
 have plain:opx P tb o ρ w K->o.wpIn (fz r) 0 P a w next Q:=fun h=>opx_sound hT ha h hn
 obtain⟨dst,op,ty,pos,after,guard⟩:=o
 cases op with
 | call c=>
  obtain⟨callee,args,argTypes⟩:=c
  cases callee with
  | value g=>
   simp only[opS] at h
   split at h
   ·rename_i f first cap hg
    have ea:(appL first.toList (appL (mapL ρ args.toList) cap.toList)).toArray=first++args.map ρ++cap:=by
     apply Array.toList_inj.1;simp[appL_eq,mapL_eq]
    rw[ea] at h
    have hres:(execOp ρ { dst,op:=.call ⟨.value g,args,argTypes⟩,type:=ty,pos,after,guard }).run P w=(callFunc f (first++args.map ρ++cap)).run P w:=by
     simp[execOp,resolve,hg,Deferred.ofValue,invoke]
    refine wpIn_of_upon (by simp) ?_
    rw[ha,hres]
    rcases h with (h|⟨v,w',hr,hK⟩)|h
    ·rw[h.1]
     refine⟨fz_depth r,?_⟩
     refine fz_callsIn.2 (h.2.mono ?_)
     rintro e w' ⟨v,rfl,hK⟩
     exact hn _ _ hK.out
    ·rw[hr]
     exact hn _ _ hK.out
    ·rw[h.1]
     refine⟨fz_depth r,?_⟩
     refine fz_callsIn.2 (h.2.mono ?_)
     rintro e w' (⟨v,rfl,hK⟩|⟨ch,rfl,hS⟩)
     ·exact hn _ _ hK.out
     ·exact hs _ _ hS
   ·exact plain h
  | builtin b=>
   cases b with
   | panic=>
    simp only[opS] at h
    split at h
    ·rename_i t v hg
     refine wpIn_of_upon (by simp) ?_
     rw[ha]
     have hargs:args.map ρ=#[.iface t v]:=by
      apply Array.toList_inj.1
      rw[mapL_eq] at hg
      simpa using hg
     have hres:(execOp ρ { dst,op:=.call ⟨.builtin .panic,args,argTypes⟩,type:=ty,pos,after,guard }).run P w=.halt (.panic (.iface t v)) w:=by
      simp only[execOp,resolve,hargs]
      rfl
     rw[hres]
     exact hs _ _ h
    ·exact h.elim
   | _=>exact plain h
  | invoke _ _=>exact plain h
 | panic x=>
  simp only[opS] at h
  split at h
  ·rename_i t v hg
   refine wpIn_of_upon (by simp) ?_
   rw[ha]
   have hres:(execOp ρ { dst,op:=.panic x,type:=ty,pos,after,guard }).run P w=.halt (.panic (.iface t v)) w:=by
    simp only[execOp,hg]
    rfl
   rw[hres]
   exact hs _ _ h
  ·exact h.elim
 | typeAssert x xT T ok=>
  simp only[opS] at h
  split at h
  case h_2=>exact h.elim
  rename_i t v ti hg ht
  split at h
  case h_2=>exact h.elim
  rename_i fs hk
  obtain⟨rfl,h⟩:=h
  obtain⟨d,hd,hkd⟩:=(hT _ _ ht).desc
  rw[hk] at hkd
  obtain⟨fs',rfl,_⟩:=kd_struct hkd
  refine wpIn_of_upon (by simp) ?_
  rw[ha]
  have hres:(execOp ρ { dst,op:=.typeAssert x xT t true,type:=ty,pos,after,guard }).run P w=.ok (.value (.tuple #[v,.bool true])) w:=by
   simp[execOp,Instr.typeAssert,hg,run_underlying_of hd]
  rw[hres]
  exact hn _ _ h
 | _=>exact plain h
end
def dfr(f:Fr)(o:Oper):Option Deferred:=match o.op with
 | .defer c=>match c.callee with
  | .value g=>match ev f g with
   | .func fn first captured=>some { target:=.fn fn captured,args:=(appL first.toList (mapL (ev f) c.args.toList)).toArray }
   | _=>none
  | _=>none
 | _=>none
theorem dfr_sound{P:Program}{f:Fr}{o:Oper}{d:Deferred}{a:Act}{ds:List Df}{N:Nat}(hd:dfr f o=some d)(hR:Rel N a f ds){r:Option Nat}(hr:r=none){next:Act->World->Prop}{Q:Exit->Act->World->Prop}{w:World}
  (h:next ({ a with defers:=d::a.defers }.put o.dst undef) w):o.wpIn (fz r) 0 P a w next Q:=by
 obtain⟨dst,op,ty,pos,after,guard⟩:=o
 cases op with
 | defer c=>
  obtain⟨callee,args,argTypes⟩:=c
  cases callee with
  | value g=>
   simp only[dfr] at hd
   split at hd
   case h_2=>cases hd
   rename_i fn first cap hv
   cases hd
   subst hr
   refine⟨fun f _=>fz_fn none f,?_⟩
   change Oper.uponIn _ _ _ _ _ _ _ ((Oper.semAt none _ _).run P w)
   rw[Oper.semAt_none]
   have e1:a.eval g=.func fn first cap:=by rw[hR.eval];exact hv
   have hres:(execOp a.eval { dst,op:=.defer ⟨.value g,args,argTypes⟩,type:=ty,pos,after,guard }).run P w=.ok (.defer { target:=.fn fn cap,args:=first++args.map a.eval }) w:=by
    simp[execOp,resolve,e1,Deferred.ofValue]
   rw[hres]
   have ea:(appL first.toList (mapL (ev f) args.toList)).toArray=first++args.map a.eval:=by
    rw[hR.eval];apply Array.toList_inj.1;simp only[appL_eq,mapL_eq,Array.toList_append,Array.toList_map]
   rw[ea] at h
   exact h
  | builtin b=>cases hd
  | invoke _ _=>cases hd
 | _=>cases hd
def exlS(P:Program)(tb:Tab)(r:Option Nat)(S:Fr->List Df->List PanicEntry->World->Prop)(ops:Array Oper):Nat->List Oper->Fr->List Df->World->(Fr->List Df->World->Prop)->Prop
 | _,[],f,ds,w,K=>K f ds w
 | i,o::rest,f,ds,w,K=>
  match wantB ops f o with
  | true=>match dfr f o with
   | some d=>match r with
    | none=>exlS P tb r S ops (Nat.succ i) rest (put f o.dst undef) (.fn d::ds) w K
    | some _=>False
   | none=>opS P tb (S f ds) o (ev f) w fun v w'=>spl (srcB ops.toList i) v fun v=>exlS P tb r S ops (Nat.succ i) rest (put f o.dst v) ds w' K
  | false=>exlS P tb r S ops (Nat.succ i) rest (put f o.dst undef) ds w K
theorem exlS_sound{P:Program}{tb:Tab}{S:Fr->List Df->List PanicEntry->World->Prop}(hT:tb.Ok P){N:Nat}{ops:Array Oper}(hd:dstOk N ops.toList=true){r:Option Nat}{K:Fr->List Df->World->Prop}{Q:Exit->Act->World->Prop}{f₀:Fr}:
  ∀(l:List Oper)(i:Nat)(f:Fr)(ds:List Df)(a:Act)(w:World),(∀j,l[j]? =ops[i+j]?)->exlS P tb r S ops i l f ds w K->Rel N a f ds->AgreeOff (dsts ops.toList) f₀ f->
   (∀f' ds' a' w',Rel N a' f' ds'->AgreeOff (dsts ops.toList) f₀ f'->K f' ds' w'->Q .normal a' w')->(∀f' ds' a' ch w',Rel N a' f' ds'->AgreeOff (dsts ops.toList) f₀ f'->S f' ds' ch w'->Q (.panic ch) a' w')->wpOpsIn (fz r) 0 P ops Q (List.range' i l.length) a w
 | [],i,f,ds,a,w,_,h,hR,hA,hK,hS=>hK f ds a w hR hA h
 | o::rest,i,f,ds,a,w,hl,h,hR,hA,hK,hS=>by
  have h0:ops[i]? =some o:=by simpa using (hl 0).symm
  have hmem:o∈ops.toList:=Array.mem_toList_iff.2 (Array.mem_of_getElem? h0)
  have hdst:=dstOk.of hd hmem
  have hin:∀e,o.dst=some e->e∈dsts ops.toList:=fun e he=>List.mem_filterMap.2 ⟨o,hmem,he⟩
  have hl':∀j,rest[j]? =ops[i+1+j]? :=fun j=>by have:=hl (j+1);simpa [Nat.add_assoc,Nat.add_comm 1 j] using this
  simp only[List.length_cons,List.range'_succ,wpOpsIn,h0,wantB_eq hd hR]
  unfold exlS at h
  cases hw:wantB ops f o with
  | true=>
   rw[hw] at h
   simp only[if_true]
   dsimp only at h
   cases hdf:dfr f o with
   | none=>
    rw[hdf] at h
    refine opS_sound hT hR.eval h (fun v w' hv=>?_) fun ch w' hc=>hS f ds a ch w' hR hA hc
    exact exlS_sound hT hd rest (i+1) _ _ _ _ hl' hv.out (hR.put hdst v) (hA.trans (AgreeOff.put hin v)) hK hS
   | some d=>
    rw[hdf] at h
    cases hr:r with
    | some _=>rw[hr] at h;exact h.elim
    | none=>
     subst hr
     dsimp only at h
     refine dfr_sound hdf hR rfl ?_
     have hR':Rel N { a with defers:=d::a.defers } f (.fn d::ds):=⟨hR.size,hR.val,by simp[hR.defers,mark]⟩
     exact exlS_sound hT hd rest (i+1) _ _ _ _ hl' h (hR'.put hdst undef) (hA.trans (AgreeOff.put hin undef)) hK hS
  | false=>
   rw[hw] at h
   simp only[Bool.false_eq_true,if_false]
   exact⟨fun f _=>fz_fn r f,exlS_sound hT hd rest (i+1) _ _ _ _ hl' h (hR.put hdst undef) (hA.trans (AgreeOff.put hin undef)) hK hS⟩
def exqS(P:Program)(tb:Tab)(S:List PanicEntry->World->Prop)(ops:Array Oper):Pl->Pend->Fr->World->(Fr->World->Prop)->Prop
 | .fin,_,f,w,K=>K f w
 | .non,_,_,_,_=>True
 | .st i p,pend,f,w,K=>match nth ops.toList i with
  | some o=>match wantB ops f o with
   | true=>match o.op with
    | .load T a=>LoadP tb w T (ev f a) fun v=>spl (srcB ops.toList i) v fun v=>exqS P tb S ops p ((i,loadF tb T (ev f a) v)::pend) (put f o.dst v) w K
    | op=>pux P tb op (ev f) fun v=>spl (srcB ops.toList i) v fun v=>exqS P tb S ops p pend (put f o.dst v) w K
   | false=>exqS P tb S ops p pend (put f o.dst undef) w K
  | none=>False
 | .ac i keep p q,pend,f,w,K=>match q with
  | .non=>match nth ops.toList i with
   | some o=>match wantB ops f o with
    | true=>opS P tb S o (ev f) w fun v w'=>spl (srcB ops.toList i) v fun v=>pendK keep w' pend (exqS P tb S ops p pend (put f o.dst v) w' K)
    | false=>pendK keep w pend (exqS P tb S ops p pend (put f o.dst undef) w K)
   | none=>False
  | q=>(match nth ops.toList i with
   | some o=>match wantB ops f o with
    | true=>opS P tb S o (ev f) w fun v w'=>spl (srcB ops.toList i) v fun v=>pendK keep w' pend (exqS P tb S ops p pend (put f o.dst v) w' K)
    | false=>pendK keep w pend (exqS P tb S ops p pend (put f o.dst undef) w K)
   | none=>False)/\exqS P tb S ops q pend f w K
section
variable {P:Program} {tb:Tab} {ops:Array Oper} {r:Option Nat} {Q:Act->World->Prop} {S:List PanicEntry->Act->World->Prop} {SP:List PanicEntry->World->Prop}
def ActS(P:Program)(tb:Tab)(SP:List PanicEntry->World->Prop)(ops:Array Oper)(keep:List Nat)(p:Pl)(pend:Pend)(f:Fr)(w:World)(K:Fr->World->Prop)(i:Nat):Prop:=
 match nth ops.toList i with
 | some o=>match wantB ops f o with
  | true=>opS P tb SP o (ev f) w fun v w'=>spl (srcB ops.toList i) v fun v=>pendK keep w' pend (exqS P tb SP ops p pend (put f o.dst v) w' K)
  | false=>pendK keep w pend (exqS P tb SP ops p pend (put f o.dst undef) w K)
 | none=>False
theorem exqS_ac{i:Nat}{keep:List Nat}{p q:Pl}{pend:Pend}{f:Fr}{w:World}{K:Fr->World->Prop}(h:exqS P tb SP ops (.ac i keep p q) pend f w K):
  ActS P tb SP ops keep p pend f w K i/\exqS P tb SP ops q pend f w K:=by
 cases q with
 | non=>exact⟨h,trivial⟩
 | fin=>exact h
 | st _ _=>exact h
 | ac _ _ _ _=>exact h
theorem exqS_sound(hT:tb.Ok P){N:Nat}(hd:dstOk N ops.toList=true)(hns:Region.noSelect ops=true)(hnd:noDefer ops=true)(hb:beforeIn ops=true)(hlt:edgesBack ops=true)
  {ds:List Df}{K:Fr->World->Prop}{f₀:Fr}(hSp:∀o∈ops.toList,∀ch a v w,S ch (Act.put a o.dst v) w->S ch a w){Rr:Act->Prop}(hRr:∀f a,Rel N a f ds->AgreeOff (dsts ops.toList) f₀ f->Rr a)(hSS:∀ch a w,Rr a->SP ch w->S ch a w)(hQ:∀f a w,Rel N a f ds->AgreeOff (dsts ops.toList) f₀ f->K f w->Q a w):
  ∀(pl:Pl)(n:Nat)(listed:Array Bool)(ld rs:List Nat)(pend:Pend)(f:Fr)(w:World)(a:Act),planOk tb ops pl n listed ld rs=true->exqS P tb SP ops pl pend f w K->Rel N a f ds->AgreeOff (dsts ops.toList) f₀ f->
   HeadInv .any ops ops.size listed->InvP tb ops listed pend w->(∀q∈pend,q.1∈ld)->
   (pl.isNon=false->rs=Region.ready .any ops listed->wpH P tb ops r Q S pend n listed a w)/\
   ((∃i k p q,pl=.ac i k p q)\/pl=.non->(∀i∈rs,i∈Region.ready .any ops listed)->∀m,n=m+1->∀i∈rs,wpOpIn (fz r) 0 P ops (Q0 Q S) i (wpH P tb ops r Q S pend m (listed.setIfInBounds i true)) a w)
 | .fin,n,listed,ld,rs,pend,f,w,a,hp,h,hR,hA,hH,hI,_=>by
  refine⟨fun _ hrs=>?_,fun hc=>by rcases hc with ⟨_,_,_,_,h⟩|h<;>cases h⟩
  simp only[planOk,List.isEmpty_iff] at hp
  cases n with
  | zero=>exact⟨hI,hp,hQ f a w hR hA h⟩
  | succ n=>exact⟨hI,fun _=>hQ f a w hR hA h,fun i hi=>by rw[hp] at hi;cases hi⟩
 | .non,n,listed,ld,rs,pend,f,w,a,hp,h,hR,hA,hH,hI,_=>by
  refine⟨fun h=>by simp[Pl.isNon] at h,fun _ _ m _ i hi=>?_⟩
  simp only[planOk,List.isEmpty_iff] at hp
  rw[hp] at hi;cases hi
 | .st i p,n,listed,ld,rs,pend,f,w,a,hp,h,hR,hA,hH,hI,hld=>by
  refine⟨fun _ hrs=>?_,fun hc=>by rcases hc with ⟨_,_,_,_,h⟩|h<;>cases h⟩
  cases n with
  | zero=>simp[planOk] at hp
  | succ n=>
   simp only[planOk,Bool.and_eq_true,decide_eq_true_eq,Bool.not_eq_true'] at hp
   obtain⟨⟨⟨hfind,hfree⟩,hnon⟩,hp⟩:=hp
   have hst:stillB tb ops i=true:=List.find?_some hfind
   have hir:i∈Region.ready .any ops listed:=List.mem_of_find?_eq_some hfind
   simp only[exqS] at h
   split at h
   case h_2=>exact h.elim
   rename_i o ho
   rw[nth_eq,Array.getElem?_toList] at ho
   have hmem:o∈ops.toList:=Array.mem_toList_iff.2 (Array.mem_of_getElem? ho)
   have hdst:=dstOk.of hd hmem
   have hin:∀e,o.dst=some e->e∈dsts ops.toList:=fun e he=>List.mem_filterMap.2 ⟨o,hmem,he⟩
   have hlti:i<ops.size:=(Array.getElem?_eq_some_iff.1 ho).1
   have hH':=hH.set hir hlti
   have hwant:=wantB_eq hd hR o
   have hfs:=Region.free_spec ho hfree
   have fin:∀(v:Value)(pend':Pend),(∀q∈pend,q∈pend')->(∀q∈pend',q.1∈i::ld)->exqS P tb SP ops p pend' (put f o.dst v) w K->
     (∀listed' w',HeadInv .any ops ops.size listed'->i∈Region.ready .any ops listed'->InvP tb ops listed' pend' w'->YieldsV P ops o v a w')->InvP tb ops listed pend' w->
     wpH P tb ops r Q S pend (n+1) listed a w:=fun v pend' hs hl' hx hy hI'=>
    wpH_first hns (noDefer_spec hnd) hs ho hst (hSp o hmem) n listed a w hH hfs hir (fun l' a' w' a1 a2 a3 a4=>a4 w' (hy l' w' a1 a2 a3)) hI'
     ((exqS_sound hT hd hns hnd hb hlt hSp hRr hSS hQ p n _ (i::ld) _ pend' _ w _ hp hx (hR.put hdst v) (hA.trans (AgreeOff.put hin v)) hH' (fun q hq hn=>hI' q hq (by rw[needB_set hst] at hn;exact hn)) hl').1 hnon rfl)
   split at h
   ·rename_i hwt
    rw[hwt] at hwant
    split at h
    ·rename_i T p' hop
     unfold LoadP at h
     split at h
     case h_2=>exact h.elim
     rename_i ti b off hti hpt
     obtain⟨x,hx,h⟩:=h
     have h:=h.out
     refine fin _ _ (fun q hq=>List.mem_cons_of_mem _ hq) (fun q hq=>?_) h (fun listed' w' a1 a2 a3=>.inl ⟨hwant,?_⟩) (fun q hq hn=>?_)
     ·rcases List.mem_cons.1 hq with rfl|hq
      ·exact List.mem_cons_self ..
      ·exact List.mem_cons_of_mem _ (hld q hq)
     ·have hF:=a3 (i,_) (List.mem_cons_self ..) (needB_of hb (edgesBack_spec hlt) a1 hlti (mem_ready.1 a2).1)
      have hF':LdF w' ti b off (ti.sh.enc x):=by simpa only[loadF,hti,hpt] using hF
      have:=loadVar_of (P:=P) (hT _ _ hti) hF'
      rw[hR.eval]
      simp[execOp,hop,Instr.loadAt,hpt,Instr.sureAddr,this]
     ·rcases List.mem_cons.1 hq with rfl|hq
      ·simpa only[loadF,hti,hpt] using hx
      ·exact hI q hq hn
    ·rename_i op hno
     obtain⟨v,hv,hY⟩:=pux_sound hT (ty:=o.type) h
     refine fin v pend (fun q hq=>hq) (fun q hq=>List.mem_cons_of_mem _ (hld q hq)) hv.out (fun listed' w' _ _ _=>.inl ⟨hwant,?_⟩) hI
     rw[hR.eval]
     exact hY w' o.dst o.pos o.after o.guard
   ·rename_i hwf
    rw[hwf] at hwant
    exact fin undef pend (fun q hq=>hq) (fun q hq=>List.mem_cons_of_mem _ (hld q hq)) h (fun listed' w' _ _ _=>.inr ⟨hwant,rfl⟩) hI
 | .ac i keep p q,n,listed,ld,rs,pend,f,w,a,hp,h,hR,hA,hH,hI,hld=>by
  cases n with
  | zero=>simp[planOk] at hp
  | succ n=>
   cases rs with
   | nil=>simp[planOk] at hp
   | cons r0 rs=>
    simp only[planOk,Bool.and_eq_true,decide_eq_true_eq,Bool.not_eq_true'] at hp
    obtain⟨⟨⟨⟨⟨hfind,hri⟩,hkeep⟩,hnon⟩,hp1⟩,hp2⟩:=hp
    have hri:=Nat.eq_of_beq_eq_true hri
    subst hri
    obtain⟨hact,hq⟩:=exqS_ac h
    have hB:(∀i∈r0::rs,i∈Region.ready .any ops listed)->∀i∈r0::rs,wpOpIn (fz r) 0 P ops (Q0 Q S) i (wpH P tb ops r Q S pend n (listed.setIfInBounds i true)) a w:=by
     intro hsub i hi
     have hcase:i=r0\/i∈rs:=List.mem_cons.1 hi
     by_cases hir0:i=r0
     ·subst hir0
      unfold ActS at hact
      split at hact
      case h_2=>exact hact.elim
      rename_i o ho
      rw[nth_eq,Array.getElem?_toList] at ho
      have hmem:o∈ops.toList:=Array.mem_toList_iff.2 (Array.mem_of_getElem? ho)
      have hdst:=dstOk.of hd hmem
      have hin:∀e,o.dst=some e->e∈dsts ops.toList:=fun e he=>List.mem_filterMap.2 ⟨o,hmem,he⟩
      have hH':=hH.set (hsub i hi) (Array.getElem?_eq_some_iff.1 ho).1
      have hwant:=wantB_eq hd hR o
      have hkp:∀q∈pend,needB tb ops (listed.setIfInBounds i true) q.1=true->inL q.1 keep=true:=fun q hq hn=>by
       have:=List.all_eq_true.1 hkeep q.1 (hld q hq)
       rw[hn] at this
       simpa using this
      unfold wpOpIn
      simp only[ho]
      rw[hwant]
      split at hact
      ·rename_i hwt
       rw[hwt]
       simp only[if_true]
       refine opS_sound hT hR.eval hact (fun v w' hv=>?_) fun ch w' hc=>hSS ch a w' (hRr f a hR hA) hc
       obtain⟨hI',hx⟩:=pendK_out hkp hv.out
       exact(exqS_sound hT hd hns hnd hb hlt hSp hRr hSS hQ p n _ ld _ pend _ w' _ hp1 hx (hR.put hdst v) (hA.trans (AgreeOff.put hin v)) hH' hI' hld).1 hnon rfl
      ·rename_i hwf
       rw[hwf]
       simp only[Bool.false_eq_true,if_false]
       obtain⟨hI',hx⟩:=pendK_out hkp hact
       exact⟨fun f _=>fz_fn r f,(exqS_sound hT hd hns hnd hb hlt hSp hRr hSS hQ p n _ ld _ pend _ w _ hp1 hx (hR.put hdst undef) (hA.trans (AgreeOff.put hin undef)) hH' hI' hld).1 hnon rfl⟩
     ·have hi':i∈rs:=hcase.resolve_left hir0
      have ih:=(exqS_sound hT hd hns hnd hb hlt hSp hRr hSS hQ q (n+1) listed ld rs pend f w a hp2 hq hR hA hH hI hld).2
      refine ih ?_ (fun i hi=>hsub i (List.mem_cons_of_mem _ hi)) n rfl i hi'
      cases q with
      | non=>exact .inr rfl
      | ac i k p q=>exact .inl ⟨i,k,p,q,rfl⟩
      | fin=>
       simp only[planOk,List.isEmpty_iff] at hp2
       have:=hsub i hi
       rw[hp2] at this;cases this
      | st j p'=>
       simp only[planOk,Bool.and_eq_true,decide_eq_true_eq] at hp2
       rw[hp2.1.1.1] at hfind
       cases hfind
    refine⟨fun _ hrs=>⟨hI,fun h0=>(by rw[<-hrs] at h0;cases h0),fun i hi=>?_⟩,fun _ hsub m hm i hi=>?_⟩
    ·rw[<-hrs] at hi
     exact hB (fun i hi=>by rw[<-hrs];exact hi) i hi
    ·cases hm
     exact hB hsub i hi
def dstN:List Oper->List Nat
 | []=>[]
 | o::l=>match o.dst with
  | some d=>d::dstN l
  | none=>dstN l
theorem dstN_eq:∀l:List Oper,dstN l=dsts l
 | []=>rfl
 | o::l=>by
  unfold dstN dsts
  rw[List.filterMap_cons]
  cases o.dst with
  | none=>exact dstN_eq l
  | some d=>exact congrArg (d::·) (dstN_eq l)
structure InRg(N:Nat)(f:Fr)(l:List Nat)(ds:List Df)(a:Act):Prop where
 size:a.tmps.size=N
 defers:a.defers=ds.map mark
 off:∀t,t∉l->a.tmps.getD t undef=f t
theorem InRg.put{N:Nat}{f:Fr}{l:List Nat}{ds:List Df}{a:Act}{d:Option Nat}{v:Value}(hd:∀e,d=some e->e∈l)(h:InRg N f l ds (a.put d v)):InRg N f l ds a:=by
 cases d with
 | none=>exact h
 | some d=>
  refine⟨by have:=h.size;simpa [Act.put] using this,h.defers,fun t ht=>?_⟩
  have:=h.off t ht
  have hne:d≠t:=fun e=>ht (e ▸ hd d rfl)
  simpa [Act.put,Array.getD_eq_getD_getElem?,Array.getElem?_setIfInBounds_ne hne] using this
theorem InRg.of{N:Nat}{f f':Fr}{l:List Nat}{ds:List Df}{a:Act}(h:Rel N a f' ds)(hA:AgreeOff l f f'):InRg N f l ds a:=
 ⟨h.size,h.defers,fun t ht=>(h.val t).trans (hA t ht)⟩
theorem InRg.rel{N:Nat}{f:Fr}{l:List Nat}{ds:List Df}{a:Act}(h:InRg N f l ds a):Rel N a (ovr f (fun t=>a.tmps.getD t undef) l []) ds:=by
 refine⟨h.size,fun t=>?_,h.defers⟩
 simp only[ovr,lk]
 split
 ·rfl
 ·rename_i hi
  exact h.off t fun hm=>by rw[inL_iff.2 hm] at hi;cases hi
theorem ovr_off(f g:Fr)(l:List Nat):AgreeOff l f (ovr f g l []):=fun t ht=>by
 simp only[ovr,lk]
 split
 ·rename_i hi;exact(ht (inL_iff.1 hi)).elim
 ·rfl
end
def exS(P:Program)(tb:Tab)(N:Nat)(r:Option Nat):Code->An->Post->Fr->List Df->World->Prop
 | .skip,_,Q,f,ds,w=>Q .normal f ds w
 | .ret,_,Q,f,ds,w=>Q .ret f ds w
 | .exit id,_,Q,f,ds,w=>Q (.exit id) f ds w
 | .seq x y,an,Q,f,ds,w=>match an with
  | .join car wr a b=>∃M:carDen car->World->Prop,exS P tb N r x a (thenQ (fun f' ds' w'=>ds'=ds/\Nx car f' fun s=>M s w') Q) f ds w/\
    ∀s w' g,M s w'->exS P tb N r y b Q (ovr f g wr (carEnc car s)) ds w'
  | an=>exS P tb N r x an.l (thenQ (fun f' ds' w'=>exS P tb N r y an.r Q f' ds' w') Q) f ds w
 | .cond c x y,an,Q,f,ds,w=>match ev f c with
  | .bool b=>IfB b (exS P tb N r x an.l Q f ds w) (exS P tb N r y an.r Q f ds w)
  | _=>False
 | .block id c,an,Q,f,ds,w=>exS P tb N r c an (blockQ id Q) f ds w
 | .scope c,an,Q,f,ds,w=>exS P tb N r c an (scopeQ Q) f ds w
 | .label _,_,Q,f,ds,w=>Q .normal f ds w
 | .loop c,an,Q,f,ds,w=>match an with
  | .loop car wr a=>∃I:Nat->carDen car->World->Prop,(Nx car f fun s=>∃n,I n s w)/\
    ∀n s w' g,I n s w'->exS P tb N r c a (thenQ (fun f' ds' w''=>ds'=ds/\Nx car f' fun s'=>∃m,m<n/\I m s' w'') Q) (ovr f g wr (carEnc car s)) ds w'
  | _=>False
 | .region _ ops draw,an,Q,f,ds,w=>match draw with
  | false=>exlS P tb r (fun f' ds' ch w'=>Q (.panic ch) f' ds' w') ops 0 ops.toList f ds w fun f' ds' w'=>Q .normal f' ds' w'
  | true=>match an with
   | .draw p=>exqS P tb (fun ch w'=>∀g,Q (.panic ch) (ovr f g (dstN ops.toList) []) ds w') ops p [] f w.drew fun f' w'=>Q .normal f' ds w'
   | _=>False
 | .rangeFunc g ps assign body,an,Q,f,ds,w=>match an with
  | .rng car a=>Nx car f fun s=>∀g',RangeP P tb N r a g ps assign body (frC g' (carEnc car s)) ds w (fun ds' w'=>Q .normal (frC g' (carEnc car s)) ds' w')
    (fun ds' w'=>Q .ret (frC g' (carEnc car s)) ds' w') (fun id ds' w'=>Q (.exit id) (frC g' (carEnc car s)) ds' w')
  | _=>False
 | _,_,_,_,_,_=>False
section
variable {P:Program} {tb:Tab} {N:Nat} {r:Option Nat}
theorem exS_sound(hT:tb.Ok P)(hm:P.follows .mixedOrders=true):∀(c:Code)(an:An)(Q:Post)(f:Fr)(ds:List Df)(w:World),okC tb N c an=true->exS P tb N r c an Q f ds w->
  Wp P N r c (fun e f' ds' w'=>AgreeOff (wrs c) f f'/\Q e f' ds' w') f ds w
 | .skip,an,Q,f,ds,w,_,h=>fun a hR=>wpIn_skip ⟨f,ds,hR,AgreeOff.refl _ _,h⟩
 | .ret,an,Q,f,ds,w,_,h=>fun a hR=>wpIn_ret ⟨f,ds,hR,AgreeOff.refl _ _,h⟩
 | .exit id,an,Q,f,ds,w,_,h=>fun a hR=>wpIn_exit ⟨f,ds,hR,AgreeOff.refl _ _,h⟩
 | .seq x y,an,Q,f,ds,w,hok,h=>by
  intro a hR
  refine wpIn_seq ?_
  have plain:okC tb N x an.l=true->okC tb N y an.r=true->exS P tb N r x an.l (thenQ (fun f' ds' w'=>exS P tb N r y an.r Q f' ds' w') Q) f ds w->
    x.wpIn (fz r) 0 P (Exit.then (y.wpIn (fz r) 0 P fun e a' w'=>∃f' ds',Rel N a' f' ds'/\AgreeOff (wrs (.seq x y)) f f'/\Q e f' ds' w') fun e a' w'=>∃f' ds',Rel N a' f' ds'/\AgreeOff (wrs (.seq x y)) f f'/\Q e f' ds' w') a w:=by
   intro h1 h2 h
   refine wpIn_mono (exS_sound hT hm x an.l _ f ds w h1 h a hR) ?_
   rintro e a₁ w₁ ⟨f₁,ds₁,hR₁,hA₁,hQ₁⟩
   have hA₁':AgreeOff (wrs (.seq x y)) f f₁:=hA₁.mono fun t ht=>List.mem_append_left _ ht
   cases e with
   | normal=>
    refine wpIn_mono (exS_sound hT hm y an.r _ f₁ ds₁ w₁ h2 hQ₁ a₁ hR₁) ?_
    rintro e a₂ w₂ ⟨f₂,ds₂,hR₂,hA₂,hQ₂⟩
    exact⟨f₂,ds₂,hR₂,hA₁'.trans (hA₂.mono fun t ht=>List.mem_append_right _ ht),hQ₂⟩
   | _=>exact⟨f₁,ds₁,hR₁,hA₁',hQ₁⟩
  cases an with
  | join car wr a' b'=>
   simp only[okC,Bool.and_eq_true] at hok
   obtain⟨⟨h1,h2⟩,h3⟩:=hok
   simp only[exS] at h
   obtain⟨M,hx,hy⟩:=h
   refine wpIn_mono (exS_sound hT hm x a' _ f ds w h1 hx a hR) ?_
   rintro e a₁ w₁ ⟨f₁,ds₁,hR₁,hA₁,hQ₁⟩
   have hA₁':AgreeOff (wrs (.seq x y)) f f₁:=hA₁.mono fun t ht=>List.mem_append_left _ ht
   cases e with
   | normal=>
    obtain⟨rfl,hN⟩:=hQ₁
    obtain⟨hc,hM⟩:=hN.out
    have h4:=hy _ _ f₁ hM
    rw[ovr_eq (hA₁.mono (subL_mem h3)) hc] at h4
    refine wpIn_mono (exS_sound hT hm y b' _ f₁ ds₁ w₁ h2 h4 a₁ hR₁) ?_
    rintro e a₂ w₂ ⟨f₂,ds₂,hR₂,hA₂,hQ₂⟩
    exact⟨f₂,ds₂,hR₂,hA₁'.trans (hA₂.mono fun t ht=>List.mem_append_right _ ht),hQ₂⟩
   | _=>exact⟨f₁,ds₁,hR₁,hA₁',hQ₁⟩
  | nil=>
   simp only[okC,Bool.and_eq_true] at hok
   exact plain hok.1 hok.2 h
  | node a' b'=>
   simp only[okC,Bool.and_eq_true] at hok
   exact plain hok.1 hok.2 h
  | loop car wr a'=>
   simp only[okC,Bool.and_eq_true] at hok
   exact plain hok.1 hok.2 h
  | draw _=>
   simp only[okC,Bool.and_eq_true] at hok
   exact plain hok.1 hok.2 h
  | rng _ _=>
   simp only[okC,Bool.and_eq_true] at hok
   exact plain hok.1 hok.2 h
 | .cond c x y,an,Q,f,ds,w,hok,h=>by
  intro a hR
  simp only[okC,Bool.and_eq_true] at hok
  simp only[exS] at h
  split at h
  case h_2=>exact h.elim
  rename_i b hb
  have he:a.eval c=.bool b:=by rw[hR.eval];exact hb
  rcases h.cases with ⟨rfl,h⟩|⟨rfl,h⟩
  ·refine wpIn_cond he (wpIn_mono (exS_sound hT hm x an.l _ f ds w hok.1 h a hR) ?_)
   rintro e a₁ w₁ ⟨f₁,ds₁,hR₁,hA₁,hQ₁⟩
   exact⟨f₁,ds₁,hR₁,hA₁.mono fun t ht=>List.mem_append_left _ ht,hQ₁⟩
  ·refine wpIn_cond he (wpIn_mono (exS_sound hT hm y an.r _ f ds w hok.2 h a hR) ?_)
   rintro e a₁ w₁ ⟨f₁,ds₁,hR₁,hA₁,hQ₁⟩
   exact⟨f₁,ds₁,hR₁,hA₁.mono fun t ht=>List.mem_append_right _ ht,hQ₁⟩
 | .block id c,an,Q,f,ds,w,hok,h=>by
  intro a hR
  refine wpIn_block (wpIn_mono (exS_sound hT hm c an _ f ds w hok h a hR) ?_)
  rintro e a₁ w₁ ⟨f₁,ds₁,hR₁,hA₁,hQ₁⟩
  cases e with
  | exit i=>
   simp only[Exit.inBlock]
   simp only[blockQ] at hQ₁
   by_cases hi:i=id
   ·subst hi
    rw[if_pos rfl]
    rw[show Nat.beq i i=true from Nat.beq_refl i] at hQ₁
    exact⟨f₁,ds₁,hR₁,hA₁,hQ₁⟩
   ·rw[if_neg hi]
    have hb:Nat.beq i id=false:=by
     cases hb:Nat.beq i id with
     | false=>rfl
     | true=>exact(hi (Nat.eq_of_beq_eq_true hb)).elim
    rw[hb] at hQ₁
    exact⟨f₁,ds₁,hR₁,hA₁,hQ₁⟩
  | _=>exact⟨f₁,ds₁,hR₁,hA₁,hQ₁⟩
 | .loop c,an,Q,f,ds,w,hok,h=>by
  intro a hR
  cases an with
  | loop car wr an'=>
   simp only[okC,Bool.and_eq_true] at hok
   obtain⟨h1,h3⟩:=hok
   simp only[exS] at h
   obtain⟨I,h0,hstep⟩:=h
   obtain⟨hc0,hI0⟩:=h0.out
   let fr:Act->Fr:=fun a t=>a.tmps.getD t undef
   have hfr:∀ {a f' ds'},Rel N a f' ds'->fr a=f':=fun h=>funext h.val
   refine wpIn_loop (fun a' w'=>Rel N a' (fr a') ds/\AgreeOff (wrs c) f (fr a')/\carChk car (fr a')=true/\∃n,I n (carDec car (fr a')) w') (fun a' w'=>leastN fun n=>I n (carDec car (fr a')) w')
    ⟨by rw[hfr hR];exact hR,by rw[hfr hR];exact AgreeOff.refl _ _,by rw[hfr hR];exact hc0,by rw[hfr hR];exact hI0⟩ ?_
   rintro a' w' ⟨hR',hA',hc',hI'⟩
   have h4:=hstep _ _ _ (fr a') (leastN_is hI')
   rw[ovr_eq (hA'.mono (subL_mem h3)) hc'] at h4
   refine wpIn_mono (exS_sound hT hm c an' _ (fr a') ds w' h1 h4 a' hR') ?_
   rintro e a₁ w₁ ⟨f₁,ds₁,hR₁,hA₁,hQ₁⟩
   cases e with
   | normal=>
    obtain⟨rfl,hN⟩:=hQ₁
    obtain⟨hc₁,m,hμ,hI₁⟩:=hN.out
    refine⟨⟨by rw[hfr hR₁];exact hR₁,by rw[hfr hR₁];exact hA'.trans hA₁,by rw[hfr hR₁];exact hc₁,m,by rw[hfr hR₁];exact hI₁⟩,?_⟩
    rw[hfr hR₁]
    exact Nat.lt_of_le_of_lt (leastN_le hI₁) hμ
   | _=>exact⟨f₁,ds₁,hR₁,hA'.trans hA₁,hQ₁⟩
  | nil=>exact h.elim
  | node _ _=>exact h.elim
  | join _ _ _ _=>exact h.elim
  | draw _=>exact h.elim
  | rng _ _=>exact h.elim
 | .region id ops draw,an,Q,f,ds,w,hok,h=>by
  intro a hR
  cases draw with
  | false=>
   refine wpIn_region ?_
   rw[List.range_eq_range']
   have:=exlS_sound (r:=r) hT hok ops.toList 0 f ds a w (by simp) h hR (AgreeOff.refl _ _) (Q:=fun e a' w'=>∃f' ds',Rel N a' f' ds'/\AgreeOff (wrs (.region id ops false)) f f'/\Q e f' ds' w')
    (fun f' ds' a' w' hR' hA' hK=>⟨f',ds',hR',hA',hK⟩) (fun f' ds' a' ch w' hR' hA' hS=>⟨f',ds',hR',hA',hS⟩)
   rw[Array.length_toList] at this
   exact this
  | true=>
   simp only[okC,Bool.and_eq_true] at hok
   obtain⟨⟨⟨⟨⟨h1,h2⟩,h3⟩,h4⟩,h5⟩,h6⟩:=hok
   cases an with
   | draw p=>
    simp only[Bool.and_eq_true,Bool.not_eq_true'] at h6
    refine wpIn_region_any hm ?_
    have inv0:HeadInv .any ops ops.size (Array.replicate ops.size false):=
     ⟨by simp,fun j oj _ hl=>(by rw[getD_replicate_false] at hl;cases hl),fun t h h'=>absurd h' (Nat.not_lt.2 h)⟩
    have hin:∀o∈ops.toList,∀e,o.dst=some e->e∈dsts ops.toList:=fun o ho e he=>List.mem_filterMap.2 ⟨o,ho,he⟩
    have:=(exqS_sound (r:=r) (S:=fun ch a' w'=>InRg N f (dsts ops.toList) ds a'/\∀g,Q (.panic ch) (ovr f g (dsts ops.toList) []) ds w') (SP:=fun ch w'=>∀g,Q (.panic ch) (ovr f g (dstN ops.toList) []) ds w')
     (Q:=fun a' w'=>∃f' ds',Rel N a' f' ds'/\AgreeOff (wrs (.region id ops true)) f f'/\Q .normal f' ds' w') hT h1 h2 h3 h4 h5 (f₀:=f)
     (fun o ho ch a v w h=>⟨h.1.put (hin o ho),h.2⟩) (Rr:=fun a'=>InRg N f (dsts ops.toList) ds a') (fun f' a' hR' hA'=>InRg.of hR' hA') (fun ch a' w' h hS=>⟨h,by rw[dstN_eq] at hS;exact hS⟩)
     (fun f' a' w' hR' hA' hK=>⟨f',ds,hR',hA',hK⟩) p ops.size _ [] _ [] f _ a h6.2 h hR (AgreeOff.refl _ _) inv0 (fun q hq=>by simp at hq) (fun q hq=>by simp at hq)).1 h6.1 rfl
    have:=wpH_any (Q':=fun e a' w'=>∃f' ds',Rel N a' f' ds'/\AgreeOff (wrs (.region id ops true)) f f'/\Q e f' ds' w') (fun a w h=>h) ops.size _ a _ this
    exact wpAnyIn_weak (fun a w h=>h) (fun ch a w h=>⟨_,ds,h.1.rel,ovr_off _ _ _,h.2 _⟩) _ _ _ _ this
   | nil=>exact h.elim
   | node _ _=>exact h.elim
   | loop _ _ _=>exact h.elim
   | join _ _ _ _=>exact h.elim
   | rng _ _=>exact h.elim
 | .rangeFunc g ps assign body,an,Q,f,ds,w,_,h=>by
  intro a hR
  cases an with
  | rng car an'=>
   simp only[exS] at h
   obtain⟨hc,h⟩:=h.out
   have h:=h f
   rw[frC_eq hc] at h
   refine wpIn_mono (h a hR) ?_
   rintro e a₁ w₁ ⟨f₁,ds₁,hR₁,hQ₁⟩
   cases e with
   | normal=>obtain⟨rfl,hQ₁⟩:=hQ₁;exact⟨f₁,ds₁,hR₁,AgreeOff.refl _ _,hQ₁⟩
   | ret=>obtain⟨rfl,hQ₁⟩:=hQ₁;exact⟨f₁,ds₁,hR₁,AgreeOff.refl _ _,hQ₁⟩
   | exit id=>obtain⟨rfl,hQ₁⟩:=hQ₁;exact⟨f₁,ds₁,hR₁,AgreeOff.refl _ _,hQ₁⟩
   | goto _=>exact hQ₁.elim
   | panic _=>exact hQ₁.elim
   | outgrown=>exact hQ₁.elim
  | nil=>exact h.elim
  | node _ _=>exact h.elim
  | loop _ _ _=>exact h.elim
  | join _ _ _ _=>exact h.elim
  | draw _=>exact h.elim
 | .scope c,an,Q,f,ds,w,hok,h=>by
  intro a hR
  refine wpIn_scope' (wpIn_mono (exS_sound hT hm c an _ f ds w hok h a hR) ?_)
  rintro e a₁ w₁ ⟨f₁,ds₁,hR₁,hA₁,hQ₁⟩
  cases e with
  | goto _=>exact hQ₁.elim
  | normal=>exact⟨f₁,ds₁,hR₁,hA₁,hQ₁⟩
  | exit _=>exact⟨f₁,ds₁,hR₁,hA₁,hQ₁⟩
  | ret=>exact⟨f₁,ds₁,hR₁,hA₁,hQ₁⟩
  | panic _=>exact⟨f₁,ds₁,hR₁,hA₁,hQ₁⟩
  | outgrown=>exact⟨f₁,ds₁,hR₁,hA₁,hQ₁⟩
 | .label _,_,_,f,ds,w,_,h=>fun a hR=>wpIn_label ⟨f,ds,hR,AgreeOff.refl _ _,h⟩
 | .goto _,_,_,_,_,_,_,h=>h.elim
 | .refuse _,_,_,_,_,_,_,h=>h.elim
theorem LeavesInM.mono{fn:Func}{tmps:Array Value}{R R':Ending->World->Prop}(hR:∀e w,R e w->R' e w):∀ {ds:List Deferred}{u:FrameMode}{w:World},LeavesInM Fence.wide 0 P fn tmps R ds u w->LeavesInM Fence.wide 0 P fn tmps R' ds u w:=by
 intro ds
 induction ds with
 | nil=>
  intro u w h
  cases u with
  | returning=>obtain⟨v,h1,h2⟩:=h;exact⟨v,h1,hR _ _ h2⟩
  | panicking ch=>exact hR _ _ h
  | run=>exact h.elim
 | cons D ds ih=>
  intro u w h
  obtain⟨h0,h⟩:=h
  rcases h with ⟨r,w',h1,h2,h3⟩|⟨hn,fv,cap,f,args,h1,h2,h3,h4⟩
  ·exact⟨h0,.inl ⟨r,w',h1,h2,ih h3⟩⟩
  ·refine⟨h0,.inr ⟨hn,fv,cap,f,args,h1,h2,h3,h4.mono fun e u' w' h=>?_⟩⟩
   cases e with
   | returned v=>exact ih h
   | panicked ch=>exact ih h
   | outgrown=>exact hR _ _ h
theorem rel0{N:Nat}{args:Array Value}(hsz:args.size<=N):Rel N { tmps:=args++Array.replicate (N-args.size) undef,defers:=[] } (argFr 0 args.toList) []:=by
 refine⟨by simp;omega,fun t=>?_,rfl⟩
 rw[argFr_get]
 simp only[Nat.not_lt_zero,if_false,Nat.sub_zero]
 rw[Array.getD_eq_getD_getElem?,Array.getElem?_append]
 split
 ·rename_i ht;simp[ht]
 ·rename_i ht
  have:args.toList.getD t undef=undef:=by simp[List.getD,Nat.not_lt.1 ht]
  rw[this,Array.getElem?_replicate]
  split<;>rfl
def retS(tb:Tab)(rs:List ResultVar)(R:RV)(S:List PanicEntry->World->Prop):Post
 | .panic ch,_,ds,w=>ds=[]/\S ch w
 | e,f,ds,w=>retQ tb rs R e f ds w
theorem call_ofS(hT:tb.Ok P)(hm:P.follows .mixedOrders=true){f:FuncId}{fn:Func}{c:Code}{args:Array Value}{w:World}{R:RV}{S:List PanicEntry->World->Prop}
  (hE:Entr P f)(hf:P.funcs[f]? =some fn)(hb:fn.body=some c)(an:An)(hok:okC tb fn.ntmps c an=true)(hsz:args.size<=fn.ntmps)
  (h:exS P tb fn.ntmps none c an (retS tb fn.results.toList R S) (argFr 0 args.toList) [] w):CP P f args w R S:=by
 refine⟨hE,callsIn_of_wp_marks hf hb trivial ?_⟩
 have hR:=rel0 hsz
 have:=exS_sound hT hm c an _ _ _ w hok h _ hR
 refine wpIn_mono this ?_
 rintro e a' w' ⟨f',ds',hR',_,hQ⟩
 have weak:=fun{ds:List Deferred} {u:FrameMode} {w:World} {tmps:Array Value}=>LeavesInM.mono (P:=P) (fn:=fn) (ds:=ds) (u:=u) (w:=w) (tmps:=tmps) (R:=fun e w'=>∃v,e=.returned v/\R v w') (R':=fun e w'=>(∃v,e=.returned v/\R v w')\/∃ch,e=.panicked ch/\S ch w') fun _ _ h=>.inl h
 cases e with
 | normal=>simp only[bodyPostM,hR'.defers];exact weak (leaves_of hT a'.tmps hR'.val ds' w' hQ)
 | ret=>simp only[bodyPostM,hR'.defers];exact weak (leaves_of hT a'.tmps hR'.val ds' w' hQ)
 | exit _=>exact hQ.elim
 | goto _=>exact hQ.elim
 | panic ch=>
  obtain⟨rfl,hS⟩:=hQ
  simp only[bodyPostM,hR'.defers]
  exact .inr ⟨ch,rfl,hS⟩
 | outgrown=>exact hQ.elim
theorem call_ofD(hT:tb.Ok P)(hm:P.follows .mixedOrders=true){f:FuncId}{fn:Func}{c:Code}{args:Array Value}{w:World}{R:Ending->World->Prop}
  (hf:P.funcs[f]? =some fn)(hb:fn.body=some c)(an:An)(hok:okC tb fn.ntmps c an=true)(hsz:args.size<=fn.ntmps)(Q:Post)
  (hQ:∀e f' ds w' tmps,(∀t,tmps.getD t undef=f' t)->Q e f' ds w'->match e with
   | .normal=>LeavesInM Fence.wide 0 P fn tmps R (ds.map mark) .returning w'
   | .ret=>LeavesInM Fence.wide 0 P fn tmps R (ds.map mark) .returning w'
   | .panic ch=>LeavesInM Fence.wide 0 P fn tmps R (ds.map mark) (.panicking ch) w'
   | _=>False)
  (h:exS P tb fn.ntmps none c an Q (argFr 0 args.toList) [] w):CallsIn Fence.wide 0 P f args w R:=by
 refine callsIn_of_wp_marks hf hb trivial ?_
 have hR:=rel0 hsz
 have:=exS_sound hT hm c an _ _ _ w hok h _ hR
 refine wpIn_mono this ?_
 rintro e a' w' ⟨f',ds',hR',_,hq⟩
 have h2:=hQ e f' ds' w' a'.tmps hR'.val hq
 cases e with
 | normal=>simp only[bodyPostM,hR'.defers];exact h2
 | ret=>simp only[bodyPostM,hR'.defers];exact h2
 | exit _=>exact h2.elim
 | goto _=>exact h2.elim
 | panic ch=>simp only[bodyPostM,hR'.defers];exact h2
 | outgrown=>exact h2.elim
def doorM:Option (List PanicEntry)->FrameMode
 | none=>.returning
 | some ch=>.panicking ch
def DoorOk(P:Program)(S:Deferred->Option (List PanicEntry)->World->(World->Prop)->Prop):Prop:=
 ∀d m w K(fn:Func) tmps R,S d m w K->(∀w',K w'->∃v,(results fn tmps).run P w'=.ok v w'/\R (.returned v) w')->LeavesInM Fence.wide 0 P fn tmps R [d] (doorM m) w
def retD(tb:Tab)(rs:List ResultVar)(S:Deferred->Option (List PanicEntry)->World->(World->Prop)->Prop)(R:RV):Post
 | .normal,f,ds,w=>match ds with
  | []=>resP tb f w rs fun vs=>R (tupV vs) w
  | [.fn d]=>S d none w fun w'=>resP tb f w' rs fun vs=>R (tupV vs) w'
  | _=>False
 | .ret,f,ds,w=>match ds with
  | []=>resP tb f w rs fun vs=>R (tupV vs) w
  | [.fn d]=>S d none w fun w'=>resP tb f w' rs fun vs=>R (tupV vs) w'
  | _=>False
 | .panic ch,f,ds,w=>match ds with
  | [.fn d]=>S d (some ch) w fun w'=>resP tb f w' rs fun vs=>R (tupV vs) w'
  | _=>False
 | _,_,_,_=>False
theorem call_ofDr(hT:tb.Ok P)(hm:P.follows .mixedOrders=true){f:FuncId}{fn:Func}{c:Code}{args:Array Value}{w:World}{R:RV}{S:Deferred->Option (List PanicEntry)->World->(World->Prop)->Prop}
  (hE:Entr P f)(hf:P.funcs[f]? =some fn)(hb:fn.body=some c)(an:An)(hok:okC tb fn.ntmps c an=true)(hsz:args.size<=fn.ntmps)(hS:DoorOk P S)
  (h:exS P tb fn.ntmps none c an (retD tb fn.results.toList S R) (argFr 0 args.toList) [] w):CW P f args w R:=by
 refine⟨hE,call_ofD hT hm hf hb an hok hsz _ ?_ h⟩
 have ret:∀ {f':Fr}{ds:List Df}{w':World}{tmps:Array Value},(∀t,tmps.getD t undef=f' t)->retD tb fn.results.toList S R .ret f' ds w'->LeavesInM Fence.wide 0 P fn tmps (fun e w'=>∃v,e=.returned v/\R v w') (ds.map mark) .returning w':=by
  intro f' ds w' tmps hv hq
  simp only[retD] at hq
  split at hq
  ·obtain⟨v,hK,hr⟩:=results_run (P:=P) hT hv (K:=fun v=>R v w') hq
   exact⟨v,hr,v,rfl,hK⟩
  ·refine hS _ none _ _ fn tmps _ hq fun w'' hk=>?_
   obtain⟨v,hK,hr⟩:=results_run (P:=P) hT hv (K:=fun v=>R v w'') hk
   exact⟨v,hr,v,rfl,hK⟩
  ·exact hq.elim
 intro e f' ds w' tmps hv hq
 cases e with
 | normal=>exact ret hv hq
 | ret=>exact ret hv hq
 | panic ch=>
  simp only[retD] at hq
  split at hq
  ·refine hS _ (some ch) _ _ fn tmps _ hq fun w'' hk=>?_
   obtain⟨v,hK,hr⟩:=results_run (P:=P) hT hv (K:=fun v=>R v w'') hk
   exact⟨v,hr,v,rfl,hK⟩
  ·exact hq.elim
 | exit _=>exact hq
 | goto _=>exact hq
 | outgrown=>exact hq
end
def F110(t0:Int)(w:World)(R:RV)(S:List PanicEntry->World->Prop):Prop:=([]:List Df)=[]/\S [{ v:=Value.iface 77 (Value.agg #[Qz t0]),recovered:=false }] w
theorem F110_ok(t0:Int)(w:World)(R:RV)(S:List PanicEntry->World->Prop)(h:F110 t0 w R S):CP Tryz.prog 110 #[Qz t0] w R S:=
 call_ofS tbOk mixed en110 Tryz.func110 rfl (.nil) (by kernel_rfl) (Nat.le_of_ble_eq_true (by kernel_rfl)) (Eq.mp (α:=F110 t0 w R S) (by kernel_rfl) h)
def F104(t0:Option Addr)(t1:Sl)(w:World)(R:RV)(S:List PanicEntry->World->Prop):Prop:=∃b1:Nat,∃b2:Nat,t0=some ⟨b1,b2,none⟩/\∃(x3:Nat×Array Value),w.cell? ⟨b1,b2+6,none⟩=some (Value.func (Fn.func x3.1) #[] x3.2)/\CXS Tryz.prog x3.1 { toList:=Qy t1::Value.slice none 0 0::x3.snd.1 } w (fun v4 w5=>∃t6:Bool,v4=Value.bool t6/\IfB (!t6) (CXS Tryz.prog 110 #[Qz 9] w5 (fun v7 w8=>∃y9:Unit,v7=Value.tuple #[]/\∃b10:Nat,∃b11:Nat,t0=some ⟨b10,b11,none⟩/\Qs w8 b10 (b11+7) fun s12=>CXS Tryz.prog 134 #[Qy s12,Qy t1] w8 (fun v13 w14=>∃s15:Sl,v13=Qy s15/\∃b16:Nat,∃b17:Nat,t0=some ⟨b16,b17,none⟩/\#[Qy s15].size=1/\StoreP w14 b16 (b17+7) [Qy s15] fun w18=>R (Value.tuple #[]) w18) fun(l19:List PanicEntry) (w20:World)=>([]:List Df)=[]/\S l19 w20) fun(l21:List PanicEntry) (w22:World)=>([]:List Df)=[]/\S l21 w22) (∃b23:Nat,∃b24:Nat,t0=some ⟨b23,b24,none⟩/\Qs w5 b23 (b24+7) fun s25=>CXS Tryz.prog 134 #[Qy s25,Qy t1] w5 (fun v26 w27=>∃s28:Sl,v26=Qy s28/\∃b29:Nat,∃b30:Nat,t0=some ⟨b29,b30,none⟩/\#[Qy s28].size=1/\StoreP w27 b29 (b30+7) [Qy s28] fun w31=>R (Value.tuple #[]) w31) fun(l32:List PanicEntry) (w33:World)=>([]:List Df)=[]/\S l32 w33)) fun(l34:List PanicEntry) (w35:World)=>([]:List Df)=[]/\S l34 w35
theorem F104_ok(t0:Option Addr)(t1:Sl)(w:World)(R:RV)(S:List PanicEntry->World->Prop)(h:F104 t0 t1 w R S):CP Tryz.prog 104 #[Value.pointer t0,Qy t1] w R S:=
 call_ofS tbOk mixed en104 Tryz.func104 rfl (.nil) (by kernel_rfl) (Nat.le_of_ble_eq_true (by kernel_rfl)) (Eq.mp (α:=F104 t0 t1 w R S) (by kernel_rfl) h)
def F107(t0:Option Addr)(t1:Int×Bool×Int)(w:World)(R:RV)(S:List PanicEntry->World->Prop):Prop:=AllocP w (Obj.cells (lC47 t1).toArray 47) fun b1 w2=>Qi w2 b1 (0+0) fun n3=>CXS Tryz.prog 105 #[Qz n3] w2 (fun v4 w5=>∃s6:Sl,v4=Qy s6/\∃b7:Nat,∃b8:Nat,t0=some ⟨b7,b8,none⟩/\∃(x9:Nat×Array Value),w5.cell? ⟨b7,b8+6,none⟩=some (Value.func (Fn.func x9.1) #[] x9.2)/\CXS Tryz.prog x9.1 { toList:=Value.slice none 0 0::Qy s6::x9.snd.1 } w5 (fun v10 w11=>∃t12:Bool,v10=Value.bool t12/\IfB (!t12) (CXS Tryz.prog 110 #[Qz 9] w11 (fun v13 w14=>∃y15:Unit,v13=Value.tuple #[]/\∃b16:Nat,∃b17:Nat,t0=some ⟨b16,b17,none⟩/\Qs w14 b16 (b17+8) fun s18=>CXS Tryz.prog 134 #[Qy s18,Qy s6] w14 (fun v19 w20=>∃s21:Sl,v19=Qy s21/\∃b22:Nat,∃b23:Nat,t0=some ⟨b22,b23,none⟩/\#[Qy s21].size=1/\StoreP w20 b22 (b23+8) [Qy s21] fun w24=>∃b25:Nat,∃b26:Nat,t0=some ⟨b25,b26,none⟩/\∃(p27:Option Nat),w24.drew.cell? ⟨b25,b26+9,none⟩=some (Value.map p27)/\Qi w24.drew b1 (0+0) fun n28=>∃(x29:Int×Bool×Int),CellsAt w24.drew b1 0 (lC47 x29)/\MapSetP (TypeDesc.int IntKind.i64) w24.drew (Value.map p27) (Qz n28) ((.agg (lC47 x29).toArray)) fun w30=>R (Value.tuple #[]) w30) fun(l31:List PanicEntry) (w32:World)=>([]:List Df)=[]/\S l31 w32) fun(l33:List PanicEntry) (w34:World)=>([]:List Df)=[]/\S l33 w34) (∃b35:Nat,∃b36:Nat,t0=some ⟨b35,b36,none⟩/\Qs w11 b35 (b36+8) fun s37=>CXS Tryz.prog 134 #[Qy s37,Qy s6] w11 (fun v38 w39=>∃s40:Sl,v38=Qy s40/\∃b41:Nat,∃b42:Nat,t0=some ⟨b41,b42,none⟩/\#[Qy s40].size=1/\StoreP w39 b41 (b42+8) [Qy s40] fun w43=>∃b44:Nat,∃b45:Nat,t0=some ⟨b44,b45,none⟩/\∃(p46:Option Nat),w43.drew.cell? ⟨b44,b45+9,none⟩=some (Value.map p46)/\Qi w43.drew b1 (0+0) fun n47=>∃(x48:Int×Bool×Int),CellsAt w43.drew b1 0 (lC47 x48)/\MapSetP (TypeDesc.int IntKind.i64) w43.drew (Value.map p46) (Qz n47) ((.agg (lC47 x48).toArray)) fun w49=>R (Value.tuple #[]) w49) fun(l50:List PanicEntry) (w51:World)=>([]:List Df)=[]/\S l50 w51)) fun(l52:List PanicEntry) (w53:World)=>([]:List Df)=[]/\S l52 w53) fun(l54:List PanicEntry) (w55:World)=>([]:List Df)=[]/\S l54 w55
theorem F107_ok(t0:Option Addr)(t1:Int×Bool×Int)(w:World)(R:RV)(S:List PanicEntry->World->Prop)(h:F107 t0 t1 w R S):CP Tryz.prog 107 #[Value.pointer t0,(.agg (lC47 t1).toArray)] w R S:=
 call_ofS tbOk mixed en107 Tryz.func107 rfl (.node (.nil) (.node (.nil) (.node (.nil) (.node (.nil) (.draw (.st 0 (.st 1 (.st 2 (.st 3 (.st 4 (.st 5 (.st 6 (.ac 7 [] (.fin) (.non)))))))))))))) (by kernel_rfl) (Nat.le_of_ble_eq_true (by kernel_rfl)) (Eq.mp (α:=F107 t0 t1 w R S) (by kernel_rfl) h)
def F56(t0:Option Addr)(t1:Int×Int×Int×Int×Int×Int×Int×Int×Int)(w:World)(R:RV)(S:List PanicEntry->World->Prop):Prop:=AllocP w (Obj.cells (lC66 t1).toArray 66) fun b1 w2=>∃(x3:Int×Int),CellsAt w2 b1 (0+4) [Qz x3.1,Qz x3.2]/\CXS Tryz.prog 103 #[Value.pointer t0,Value.agg #[Qz x3.1,Qz x3.2]] w2 (fun v4 w5=>∃n6:Int,v4=Qz n6/\CXS Tryz.prog 105 #[Qz n6] w5 (fun v7 w8=>∃s9:Sl,v7=Qy s9/\CXS Tryz.prog 104 #[Value.pointer t0,Qy s9] w8 (fun v10 w11=>∃y12:Unit,v10=Value.tuple #[]/\Qi w11.drew b1 (0+1) fun n13=>∃b14:Nat,∃b15:Nat,t0=some ⟨b14,b15,none⟩/\CXS Tryz.prog 106 #[Value.pointer t0,Qz n6] w11.drew (fun v16 w17=>∃(x18:Int×Bool),v16=Value.tuple #[Qz x18.1,Value.bool x18.2]/\w17.cell? ⟨b1,0+1,none⟩=some (Qz n13)/\(0<=n13/\n13<((4:Nat):Int))/\#[Qz x18.1].size=1/\StoreP w17 b14 (b15+1+n13.toNat) [Qz x18.1] fun w19=>R (Value.tuple #[]) w19) fun(l20:List PanicEntry) (w21:World)=>∀(y22:Nat->Value),([]:List Df)=[]/\S l20 w21) fun(l23:List PanicEntry) (w24:World)=>([]:List Df)=[]/\S l23 w24) fun(l25:List PanicEntry) (w26:World)=>([]:List Df)=[]/\S l25 w26) fun(l27:List PanicEntry) (w28:World)=>([]:List Df)=[]/\S l27 w28
theorem F56_ok(t0:Option Addr)(t1:Int×Int×Int×Int×Int×Int×Int×Int×Int)(w:World)(R:RV)(S:List PanicEntry->World->Prop)(h:F56 t0 t1 w R S):CP Tryz.prog 56 #[Value.pointer t0,(.agg (lC66 t1).toArray)] w R S:=
 call_ofS tbOk mixed en56 Tryz.func56 rfl (.node (.nil) (.node (.nil) (.node (.nil) (.draw (.st 0 (.st 1 (.st 2 (.st 3 (.st 4 (.st 9 (.st 10 (.ac 5 [10,9,2,1,0] (.st 6 (.st 7 (.st 8 (.st 11 (.ac 12 [8] (.fin) (.non)))))) (.non))))))))))))) (by kernel_rfl) (Nat.le_of_ble_eq_true (by kernel_rfl)) (Eq.mp (α:=F56 t0 t1 w R S) (by kernel_rfl) h)
def F57(t0:Option Addr)(t1:Int×Int×Int×Int×Int×Int×Int×Int×Int)(w:World)(R:RV)(S:List PanicEntry->World->Prop):Prop:=AllocP w (Obj.cells (lC66 t1).toArray 66) fun b1 w2=>∃(x3:Int×Int),CellsAt w2.drew b1 (0+4) [Qz x3.1,Qz x3.2]/\Qi w2.drew b1 (0+1) fun n4=>Qx t0 n4 ((4:Nat):Int) fun b5 b6=>Qi w2.drew b5 (b6+1+n4.toNat) fun n7=>CXS Tryz.prog 103 #[Value.pointer t0,Value.agg #[Qz x3.1,Qz x3.2]] w2.drew (fun v8 w9=>∃n10:Int,v8=Qz n10/\w9.cell? ⟨b5,b6+1+n4.toNat,none⟩=some (Qz n7)/\w9.cell? ⟨b1,0+1,none⟩=some (Qz n4)/\CXS Tryz.prog 107 #[Value.pointer t0,Value.agg #[Qz n10,Value.bool false,Qz n7]] w9 (fun v11 w12=>∃y13:Unit,v11=Value.tuple #[]/\R (Value.tuple #[]) w12) fun(l14:List PanicEntry) (w15:World)=>∀(y16:Nat->Value),([]:List Df)=[]/\S l14 w15) fun(l17:List PanicEntry) (w18:World)=>∀(y19:Nat->Value),([]:List Df)=[]/\S l17 w18
theorem F57_ok(t0:Option Addr)(t1:Int×Int×Int×Int×Int×Int×Int×Int×Int)(w:World)(R:RV)(S:List PanicEntry->World->Prop)(h:F57 t0 t1 w R S):CP Tryz.prog 57 #[Value.pointer t0,(.agg (lC66 t1).toArray)] w R S:=
 call_ofS tbOk mixed en57 Tryz.func57 rfl (.node (.nil) (.draw (.st 0 (.st 1 (.st 2 (.st 3 (.st 5 (.st 6 (.st 7 (.st 8 (.st 9 (.st 10 (.st 11 (.ac 4 [11,10,9,8,7,6,5,0] (.st 12 (.ac 13 [] (.fin) (.non))) (.non))))))))))))))) (by kernel_rfl) (Nat.le_of_ble_eq_true (by kernel_rfl)) (Eq.mp (α:=F57 t0 t1 w R S) (by kernel_rfl) h)
def F58(t0:Option Addr)(t1:Int×Int×Int×Int×Int×Int×Int×Int×Int)(w:World)(R:RV)(S:List PanicEntry->World->Prop):Prop:=AllocP w (Obj.cells (lC66 t1).toArray 66) fun b1 w2=>∃(x3:Int×Int),CellsAt w2 b1 (0+4) [Qz x3.1,Qz x3.2]/\CXS Tryz.prog 103 #[Value.pointer t0,Value.agg #[Qz x3.1,Qz x3.2]] w2 (fun v4 w5=>∃n6:Int,v4=Qz n6/\CXS Tryz.prog 107 #[Value.pointer t0,Value.agg #[Qz n6,Value.bool true,Qz 0]] w5 (fun v7 w8=>∃y9:Unit,v7=Value.tuple #[]/\R (Value.tuple #[]) w8) fun(l10:List PanicEntry) (w11:World)=>([]:List Df)=[]/\S l10 w11) fun(l12:List PanicEntry) (w13:World)=>([]:List Df)=[]/\S l12 w13
theorem F58_ok(t0:Option Addr)(t1:Int×Int×Int×Int×Int×Int×Int×Int×Int)(w:World)(R:RV)(S:List PanicEntry->World->Prop)(h:F58 t0 t1 w R S):CP Tryz.prog 58 #[Value.pointer t0,(.agg (lC66 t1).toArray)] w R S:=
 call_ofS tbOk mixed en58 Tryz.func58 rfl (.nil) (by kernel_rfl) (Nat.le_of_ble_eq_true (by kernel_rfl)) (Eq.mp (α:=F58 t0 t1 w R S) (by kernel_rfl) h)
def F59j1(t0:Option Addr)(R:RV)(S:List PanicEntry->World->Prop)(b1:Nat)(s21:Sl)(y22:Nat->Int×Int->World->Prop)(b24:Nat)(x25:Int×Int)(w26:World):Prop:=IfB (decide (x25.snd<(s21.n:Int))) (Qx s21.1 x25.2 (s21.2:Int) fun b29 b30=>Qi w26 b29 (b30+x25.2.toNat) fun n31=>CXS Tryz.prog 106 #[Value.pointer t0,Qz n31] w26 (fun v32 w33=>∃(x34:Int×Bool),v32=Value.tuple #[Qz x34.1,Value.bool x34.2]/\IfB x34.2 (([]:List Df)=[]/\∃b35:Nat,b35<b24/\y22 b35 (IntKind.i64.wrap (x25.1+1),IntKind.i64.wrap (x25.2+1)) w33) (([]:List Df)=[]/\∃b36:Nat,b36<b24/\y22 b36 (x25.1,IntKind.i64.wrap (x25.2+1)) w33)) fun(l37:List PanicEntry) (w38:World)=>([]:List Df)=[]/\S l37 w38) (Qi w26.drew b1 (0+1) fun n39=>Qx t0 n39 ((4:Nat):Int) fun b40 b41=>#[Qz x25.1].size=1/\StoreP w26.drew b40 (b41+1+n39.toNat) [Qz x25.1] fun w42=>R (Value.tuple #[]) w42)
def F59(t0:Option Addr)(t1:Int×Int×Int×Int×Int×Int×Int×Int×Int)(w:World)(R:RV)(S:List PanicEntry->World->Prop):Prop:=AllocP w (Obj.cells (lC66 t1).toArray 66) fun b1 w2=>∃(x3:Int×Int),CellsAt w2.drew b1 (0+4) [Qz x3.1,Qz x3.2]/\∃(x4:Int×Int),CellsAt w2.drew b1 (0+6) [Qz x4.1,Qz x4.2]/\CXS Tryz.prog 103 #[Value.pointer t0,Value.agg #[Qz x3.1,Qz x3.2]] w2.drew (fun v5 w6=>∃n7:Int,v5=Qz n7/\CellsAt w6 b1 (0+6) [Qz x4.1,Qz x4.2]/\CXS Tryz.prog 103 #[Value.pointer t0,Value.agg #[Qz x4.1,Qz x4.2]] w6 (fun v8 w9=>∃n10:Int,v8=Qz n10/\1*2<=16777216/\AllocP w9 (Obj.cells #[Qz n7,Qz n10] 71) fun b11 w12=>CXS Tryz.prog 108 #[Value.slice (some ⟨b11,0,none⟩) 1 1] w12 (fun v13 w14=>∃s15:Sl,v13=Qy s15/\CXS Tryz.prog 104 #[Value.pointer t0,Qy s15] w14 (fun v16 w17=>∃y18:Unit,v16=Value.tuple #[]/\CXS Tryz.prog 109 #[Qy s15] w17 (fun v19 w20=>∃s21:Sl,v19=Qy s21/\Ql (α:=Int×Int) (0,0) w20 fun y22 b24 x25 w26=>(F59j1 t0 R S b1 s21 y22 b24 x25 w26)) fun(l43:List PanicEntry) (w44:World)=>([]:List Df)=[]/\S l43 w44) fun(l45:List PanicEntry) (w46:World)=>([]:List Df)=[]/\S l45 w46) fun(l47:List PanicEntry) (w48:World)=>∀(y49:Nat->Value),([]:List Df)=[]/\S l47 w48) fun(l50:List PanicEntry) (w51:World)=>∀(y52:Nat->Value),([]:List Df)=[]/\S l50 w51) fun(l53:List PanicEntry) (w54:World)=>∀(y55:Nat->Value),([]:List Df)=[]/\S l53 w54
theorem F59_ok(t0:Option Addr)(t1:Int×Int×Int×Int×Int×Int×Int×Int×Int)(w:World)(R:RV)(S:List PanicEntry->World->Prop)(h:F59 t0 t1 w R S):CP Tryz.prog 59 #[Value.pointer t0,(.agg (lC66 t1).toArray)] w R S:=
 call_ofS tbOk mixed en59 Tryz.func59 rfl (.node (.nil) (.node (.draw (.st 0 (.st 1 (.st 2 (.st 4 (.st 5 (.st 6 (.ac 3 [6,5,4] (.ac 7 [] (.st 8 (.ac 9 [] (.ac 10 [] (.st 11 (.fin)) (.non)) (.non))) (.non)) (.non))))))))) (.node (.nil) (.node (.nil) (.node (.node (.nil) (.loop [(5,.one (.int .i64)),(27,.one (.int .i64))] [28,29,30,7,32,33,34,31,35,36,8,9,37,38,39,5,40,27] (.nil))) (.draw (.st 0 (.st 1 (.st 2 (.st 3 (.st 4 (.st 5 (.st 6 (.ac 7 [] (.fin) (.non))))))))))))))) (by kernel_rfl) (Nat.le_of_ble_eq_true (by kernel_rfl)) (Eq.mp (α:=F59 t0 t1 w R S) (by kernel_rfl) h)
def F61(t0:Option Addr)(t1:Int×Int×Int×Int×Int×Int×Int×Int×Int)(w:World)(R:RV)(S:List PanicEntry->World->Prop):Prop:=AllocP w (Obj.cells (lC66 t1).toArray 66) fun b1 w2=>Qi w2.drew b1 (0+2) fun n3=>Qx t0 n3 ((4:Nat):Int) fun b4 b5=>Qi w2.drew b4 (b5+1+n3.toNat) fun n6=>Qi w2.drew b1 (0+3) fun n7=>Qx t0 n7 ((4:Nat):Int) fun b8 b9=>Qi w2.drew b8 (b9+1+n7.toNat) fun n10=>IfB (!decide (n6<IntKind.i64.wrap (n6+n10)) == decide (0<n10)) (CXS Tryz.prog 110 #[Qz 8] w2.drew (fun v11 w12=>∃y13:Unit,v11=Value.tuple #[]/\Qi w12.drew b1 (0+1) fun n14=>Qx t0 n14 ((4:Nat):Int) fun b15 b16=>#[Qz (IntKind.i64.wrap (n6+n10))].size=1/\StoreP w12.drew b15 (b16+1+n14.toNat) [Qz (IntKind.i64.wrap (n6+n10))] fun w17=>R (Value.tuple #[]) w17) fun(l18:List PanicEntry) (w19:World)=>([]:List Df)=[]/\S l18 w19) (∃n20:Int,w2.drew.drew.cell? ⟨b1,0+1,none⟩=some (Qz n20)/\Qx t0 n20 ((4:Nat):Int) fun b21 b22=>#[Qz (IntKind.i64.wrap (n6+n10))].size=1/\StoreP w2.drew.drew b21 (b22+1+n20.toNat) [Qz (IntKind.i64.wrap (n6+n10))] fun w23=>R (Value.tuple #[]) w23)
theorem F61_ok(t0:Option Addr)(t1:Int×Int×Int×Int×Int×Int×Int×Int×Int)(w:World)(R:RV)(S:List PanicEntry->World->Prop)(h:F61 t0 t1 w R S):CP Tryz.prog 61 #[Value.pointer t0,(.agg (lC66 t1).toArray)] w R S:=
 call_ofS tbOk mixed en61 Tryz.func61 rfl (.node (.nil) (.node (.draw (.st 0 (.st 1 (.st 2 (.st 3 (.st 4 (.st 5 (.st 6 (.st 7 (.st 8 (.st 9 (.st 10 (.st 11 (.st 12 (.st 13 (.st 14 (.st 15 (.fin)))))))))))))))))) (.node (.nil) (.node (.nil) (.draw (.st 0 (.st 1 (.st 2 (.st 3 (.st 4 (.st 5 (.st 6 (.ac 7 [] (.fin) (.non)))))))))))))) (by kernel_rfl) (Nat.le_of_ble_eq_true (by kernel_rfl)) (Eq.mp (α:=F61 t0 t1 w R S) (by kernel_rfl) h)
def F62(t0:Option Addr)(t1:Int×Int×Int×Int×Int×Int×Int×Int×Int)(w:World)(R:RV)(S:List PanicEntry->World->Prop):Prop:=AllocP w (Obj.cells (lC66 t1).toArray 66) fun b1 w2=>Qi w2.drew b1 (0+2) fun n3=>Qx t0 n3 ((4:Nat):Int) fun b4 b5=>Qi w2.drew b4 (b5+1+n3.toNat) fun n6=>Qi w2.drew b1 (0+3) fun n7=>Qx t0 n7 ((4:Nat):Int) fun b8 b9=>Qi w2.drew b8 (b9+1+n7.toNat) fun n10=>IfB (!decide (IntKind.i64.wrap (n6-n10)<n6) == decide (0<n10)) (CXS Tryz.prog 110 #[Qz 8] w2.drew (fun v11 w12=>∃y13:Unit,v11=Value.tuple #[]/\Qi w12.drew b1 (0+1) fun n14=>Qx t0 n14 ((4:Nat):Int) fun b15 b16=>#[Qz (IntKind.i64.wrap (n6-n10))].size=1/\StoreP w12.drew b15 (b16+1+n14.toNat) [Qz (IntKind.i64.wrap (n6-n10))] fun w17=>R (Value.tuple #[]) w17) fun(l18:List PanicEntry) (w19:World)=>([]:List Df)=[]/\S l18 w19) (∃n20:Int,w2.drew.drew.cell? ⟨b1,0+1,none⟩=some (Qz n20)/\Qx t0 n20 ((4:Nat):Int) fun b21 b22=>#[Qz (IntKind.i64.wrap (n6-n10))].size=1/\StoreP w2.drew.drew b21 (b22+1+n20.toNat) [Qz (IntKind.i64.wrap (n6-n10))] fun w23=>R (Value.tuple #[]) w23)
theorem F62_ok(t0:Option Addr)(t1:Int×Int×Int×Int×Int×Int×Int×Int×Int)(w:World)(R:RV)(S:List PanicEntry->World->Prop)(h:F62 t0 t1 w R S):CP Tryz.prog 62 #[Value.pointer t0,(.agg (lC66 t1).toArray)] w R S:=
 call_ofS tbOk mixed en62 Tryz.func62 rfl (.node (.nil) (.node (.draw (.st 0 (.st 1 (.st 2 (.st 3 (.st 4 (.st 5 (.st 6 (.st 7 (.st 8 (.st 9 (.st 10 (.st 11 (.st 12 (.st 13 (.st 14 (.st 15 (.fin)))))))))))))))))) (.node (.nil) (.node (.nil) (.draw (.st 0 (.st 1 (.st 2 (.st 3 (.st 4 (.st 5 (.st 6 (.ac 7 [] (.fin) (.non)))))))))))))) (by kernel_rfl) (Nat.le_of_ble_eq_true (by kernel_rfl)) (Eq.mp (α:=F62 t0 t1 w R S) (by kernel_rfl) h)
def F63(t0:Option Addr)(t1:Int×Int×Int×Int×Int×Int×Int×Int×Int)(w:World)(R:RV)(S:List PanicEntry->World->Prop):Prop:=AllocP w (Obj.cells (lC66 t1).toArray 66) fun b1 w2=>Qi w2.drew b1 (0+1) fun n3=>Qx t0 n3 ((4:Nat):Int) fun b4 b5=>Qi w2.drew b4 (b5+1+n3.toNat) fun n6=>Qi w2.drew b1 (0+8) fun n7=>IfB (decide (n6<n7)) (CXS Tryz.prog 110 #[Qz 7] w2.drew (fun v8 w9=>∃y10:Unit,v8=Value.tuple #[]/\R (Value.tuple #[]) w9) fun(l11:List PanicEntry) (w12:World)=>([]:List Df)=[]/\S l11 w12) (R (Value.tuple #[]) w2.drew)
theorem F63_ok(t0:Option Addr)(t1:Int×Int×Int×Int×Int×Int×Int×Int×Int)(w:World)(R:RV)(S:List PanicEntry->World->Prop)(h:F63 t0 t1 w R S):CP Tryz.prog 63 #[Value.pointer t0,(.agg (lC66 t1).toArray)] w R S:=
 call_ofS tbOk mixed en63 Tryz.func63 rfl (.node (.nil) (.node (.draw (.st 0 (.st 1 (.st 2 (.st 3 (.st 4 (.st 5 (.st 6 (.st 7 (.st 8 (.st 9 (.fin)))))))))))) (.nil))) (by kernel_rfl) (Nat.le_of_ble_eq_true (by kernel_rfl)) (Eq.mp (α:=F63 t0 t1 w R S) (by kernel_rfl) h)
def F14k3(s37:Sl)(n41:Int)(w42:World)(b19:Nat)(b34:Nat)(b26:Nat)(b5:Nat)(b9:Nat)(b40:Nat)(y38:Nat->Int->World->Prop)(S:Deferred->Option (List PanicEntry)->World->(World->Prop)->Prop)(R:RV):Prop:=Qx s37.1 n41 (s37.2:Int) fun b45 b46=>∃(x47:Int×Int×Int×Int×Int×Int×Int×Int×Int),CellsAt w42 b45 (b46+n41.toNat*9) (lC66 x47)/\AllocP w42 (Obj.cells #[Qz 0,Qz 0,Qz 0,Qz 0,Qz 0,Qz 0,Qz 0,Qz 0,Qz 0] 66) fun b48 w49=>(lC66 x47).toArray.size=9/\StoreP w49 b48 0 (lC66 x47) fun w50=>#[Qz n41].size=1/\StoreP w50 b19 0 [Qz n41] fun w51=>Qi w51.drew b48 (0+0) fun n52=>(0<=n52/\n52<((9:Nat):Int))/\∃(x53:Nat×Array Value),w51.drew.cell? ⟨b34,0+n52.toNat,none⟩=some (Value.func (Fn.func x53.1) #[] x53.2)/\∃(x54:Int×Int×Int×Int×Int×Int×Int×Int×Int),CellsAt w51.drew b48 0 (lC66 x54)/\CXS Tryz.prog x53.1 { toList:=Value.pointer (some ⟨b26,0,none⟩)::(.agg (lC66 x54).toArray)::x53.snd.1 } w51.drew (fun v55 w56=>∃y57:Unit,v55=Value.tuple #[]/\[Df.fn { target:=Target.fn (Fn.func 29) #[Value.pointer (some ⟨b19,0,none⟩),Value.pointer (some ⟨b5,0,none⟩),Value.pointer (some ⟨b9,0,none⟩)],args:=#[] }]=[Df.fn { target:=Target.fn (Fn.func 29) #[Value.pointer (some ⟨b19,0,none⟩),Value.pointer (some ⟨b5,0,none⟩),Value.pointer (some ⟨b9,0,none⟩)],args:=#[] }]/\∃b58:Nat,b58<b40/\y38 b58 (IntKind.i64.wrap (n41+1)) w56) fun(l59:List PanicEntry) (w60:World)=>∀(y61:Nat->Value),S { target:=Target.fn (Fn.func 29) #[Value.pointer (some ⟨b19,0,none⟩),Value.pointer (some ⟨b5,0,none⟩),Value.pointer (some ⟨b9,0,none⟩)],args:=#[] } (some l59) w60 fun w62=>∃(x63:Int×Int×Int×Int×Int×Int×Sl×Sl×Sl),CellsAt w62 b9 0 (lC27 x63)/\R (Value.agg (lC27 x63).toArray) w62
def F14k2(b26:Nat)(w42:World)(b9:Nat)(S:Deferred->Option (List PanicEntry)->World->(World->Prop)->Prop)(b19:Nat)(b5:Nat)(R:RV):Prop:=CXS Tryz.prog 33 #[Value.pointer (some ⟨b26,0,none⟩)] w42 (fun v64 w65=>∃(x66:Int×Int×Int×Int×Int×Int×Sl×Sl×Sl),v64=Value.agg (lC27 x66).toArray/\(lC27 x66).toArray.size=9/\StoreP w65 b9 0 (lC27 x66) fun w67=>S { target:=Target.fn (Fn.func 29) #[Value.pointer (some ⟨b19,0,none⟩),Value.pointer (some ⟨b5,0,none⟩),Value.pointer (some ⟨b9,0,none⟩)],args:=#[] } none w67 fun w68=>∃(x69:Int×Int×Int×Int×Int×Int×Sl×Sl×Sl),CellsAt w68 b9 0 (lC27 x69)/\R (Value.agg (lC27 x69).toArray) w68) fun(l70:List PanicEntry) (w71:World)=>S { target:=Target.fn (Fn.func 29) #[Value.pointer (some ⟨b19,0,none⟩),Value.pointer (some ⟨b5,0,none⟩),Value.pointer (some ⟨b9,0,none⟩)],args:=#[] } (some l70) w71 fun w72=>∃(x73:Int×Int×Int×Int×Int×Int×Sl×Sl×Sl),CellsAt w72 b9 0 (lC27 x73)/\R (Value.agg (lC27 x73).toArray) w72
def F14j1(R:RV)(S:Deferred->Option (List PanicEntry)->World->(World->Prop)->Prop)(b5:Nat)(b9:Nat)(b19:Nat)(b26:Nat)(b34:Nat)(s37:Sl)(y38:Nat->Int->World->Prop)(b40:Nat)(n41:Int)(w42:World):Prop:=IfB (decide (n41<(s37.n:Int))) (F14k3 s37 n41 w42 b19 b34 b26 b5 b9 b40 y38 S R) (F14k2 b26 w42 b9 S b19 b5 R)
def F14k1(w14:World)(b3:Nat)(b5:Nat)(t3:Option Addr)(b7:Nat)(b1:Nat)(R:RV)(S:Deferred->Option (List PanicEntry)->World->(World->Prop)->Prop)(b9:Nat):Prop:=AllocP w14 (Obj.cells #[Qz 0] 3) fun b19 w20=>#[Qz 0].size=1/\StoreP w20 b19 0 [Qz 0] fun w21=>Qs w21 b3 0 fun s22=>∃(x23:Int×Int×Int×Int),CellsAt w21 b5 0 [Qz x23.1,Qz x23.snd.1,Qz x23.snd.snd.1,Qz x23.snd.snd.2]/\AllocP w21 (Obj.map #[] 0) fun b24 w25=>AllocP w25 (Obj.cells #[Qy s22,Qz x23.1,Qz x23.snd.1,Qz x23.snd.snd.1,Qz x23.snd.snd.2,Value.pointer t3,Value.nilFunc,Value.slice none 0 0,Value.slice none 0 0,Value.map (some b24)] 82) fun b26 w27=>∃b28:Nat,∃b29:Nat,(some ⟨b26,0,none⟩:Option Addr)=some ⟨b28,b29,none⟩/\#[Value.func (Fn.func 30) #[] #[Value.pointer (some ⟨b7,0,none⟩),Value.pointer (some ⟨b1,0,none⟩),Value.pointer (some ⟨b3,0,none⟩)]].size=1/\StoreP w27 b28 (b29+6) [Value.func (Fn.func 30) #[] #[Value.pointer (some ⟨b7,0,none⟩),Value.pointer (some ⟨b1,0,none⟩),Value.pointer (some ⟨b3,0,none⟩)]] fun w30=>CXS Tryz.prog 32 #[] w30 (fun v31 w32=>∃(l33:List Value),v31=Value.agg { toList:=l33 }/\AllocP w32 (Obj.cells #[Value.nilFunc,Value.nilFunc,Value.nilFunc,Value.nilFunc,Value.nilFunc,Value.nilFunc,Value.nilFunc,Value.nilFunc,Value.nilFunc] 85) fun b34 w35=>(Array.mk (l33 )).size=9/\StoreP w35 b34 0 l33 fun w36=>Qs w36 b1 (0+0) fun s37=>Ql (α:=Int) 0 w36 fun y38 b40 n41 w42=>(F14j1 R S b5 b9 b19 b26 b34 s37 y38 b40 n41 w42)) fun(l74:List PanicEntry) (w75:World)=>S { target:=Target.fn (Fn.func 29) #[Value.pointer (some ⟨b19,0,none⟩),Value.pointer (some ⟨b5,0,none⟩),Value.pointer (some ⟨b9,0,none⟩)],args:=#[] } (some l74) w75 fun w76=>∃(x77:Int×Int×Int×Int×Int×Int×Sl×Sl×Sl),CellsAt w76 b9 0 (lC27 x77)/\R (Value.agg (lC27 x77).toArray) w76
def F14(t0:Sl×Sl)(t1:Sl)(t2:Int×Int×Int×Int)(t3:Option Addr)(t4:Bool)(w:World)(R:RV)(S:Deferred->Option (List PanicEntry)->World->(World->Prop)->Prop):Prop:=AllocP w (Obj.cells #[Qy t0.fst,Qy t0.snd] 36) fun b1 w2=>AllocP w2 (Obj.cells #[Qy t1] 37) fun b3 w4=>AllocP w4 (Obj.cells #[Qz t2.1,Qz t2.snd.1,Qz t2.snd.snd.1,Qz t2.snd.snd.2] 23) fun b5 w6=>AllocP w6 (Obj.cells #[Value.bool t4] 4) fun b7 w8=>AllocP w8 (Obj.cells #[Qz 0,Qz 0,Qz 0,Qz 0,Qz 0,Qz 0,Value.slice none 0 0,Value.slice none 0 0,Value.slice none 0 0] 27) fun b9 w10=>∃(x11:Sl×Sl),CellsAt w10 b1 0 [Qy x11.fst,Qy x11.snd]/\Qs w10 b3 0 fun s12=>CXS Tryz.prog 28 #[Value.agg #[Qy x11.fst,Qy x11.snd],Qy s12] w10 (fun v13 w14=>∃t15:Bool,v13=Value.bool t15/\IfB (!t15) (∃(x16:Int×Int×Int×Int),CellsAt w14 b5 0 [Qz x16.1,Qz x16.snd.1,Qz x16.snd.snd.1,Qz x16.snd.snd.2]/\#[Qz 1,Qz 0,Qz x16.1,Qz x16.snd.1,Qz x16.snd.snd.1,Qz x16.snd.snd.2,Value.slice none 0 0,Value.slice none 0 0,Value.slice none 0 0].size=9/\StoreP w14 b9 0 [Qz 1,Qz 0,Qz x16.1,Qz x16.snd.1,Qz x16.snd.snd.1,Qz x16.snd.snd.2,Value.slice none 0 0,Value.slice none 0 0,Value.slice none 0 0] fun w17=>∃(x18:Int×Int×Int×Int×Int×Int×Sl×Sl×Sl),CellsAt w17 b9 0 (lC27 x18)/\R (Value.agg (lC27 x18).toArray) w17) (F14k1 w14 b3 b5 t3 b7 b1 R S b9)) fun(l78:List PanicEntry) (w79:World)=>False
theorem F14_ok(t0:Sl×Sl)(t1:Sl)(t2:Int×Int×Int×Int)(t3:Option Addr)(t4:Bool)(w:World)(R:RV)(S:Deferred->Option (List PanicEntry)->World->(World->Prop)->Prop)(hS:DoorOk Tryz.prog S)(h:F14 t0 t1 t2 t3 t4 w R S):Cw 14 #[Value.agg #[Qy t0.fst,Qy t0.snd],Qy t1,Value.agg #[Qz t2.1,Qz t2.snd.1,Qz t2.snd.snd.1,Qz t2.snd.snd.2],Value.pointer t3,Value.bool t4] w R:=
 call_ofDr tbOk mixed en14 Tryz.func14 rfl (.node (.nil) (.node (.nil) (.node (.nil) (.node (.nil) (.node (.nil) (.node (.nil) (.node (.nil) (.node (.node (.nil) (.loop [(37,.one (.int .i64))] [38,39,40,41,15,14,42,43,44,45,46,47,48,49,50,37] (.node (.nil) (.node (.nil) (.node (.node (.nil) (.node (.nil) (.draw (.st 0 (.st 1 (.st 2 (.st 3 (.st 4 (.st 5 (.ac 6 [] (.fin) (.non))))))))))) (.nil)))))) (.nil))))))))) (by kernel_rfl) (Nat.le_of_ble_eq_true (by kernel_rfl)) hS (Eq.mp (α:=F14 t0 t1 t2 t3 t4 w R S) (by kernel_rfl) h)
theorem und20:∃ms,Tryz.prog.underlying 20=some (.interface ms)/\ms.isEmpty=true:=by
 have h:((Tryz.prog.underlying 20).map fun | .interface ms=>ms.isEmpty|_=>false)=some true:=by kernel_rfl
 cases hd:Tryz.prog.underlying 20 with
 | none=>rw[hd] at h;cases h
 | some d=>rw[hd] at h;cases d<;>first|exact⟨_,rfl,by simpa using h⟩|(simp at h)
theorem eqNil:EqAt Tryz.prog 20 .nilIface .nilIface true:=by
 obtain⟨ms,hd,hm⟩:=und20
 refine eqAt_of (fun n w=>by simp[Op.equalIn,run_underlying_of hd]) rfl rfl fun op xo yo w=>?_
 have e:(Op.eqGuardIn Op.maxDepth 20 .nilIface .nilIface).run Tryz.prog w=.ok false w:=by
  unfold Op.maxDepth Op.eqGuardIn
  simp[run_underlying_of hd,hm]
 unfold eqGuard
 cases op<;>simp[e]<;>(split<;>simp[e])
theorem eqErr(t:TypeId)(v:Value):EqAt Tryz.prog 20 (.iface t v) .nilIface false:=by
 obtain⟨ms,hd,hm⟩:=und20
 refine eqAt_of (fun n w=>by simp[Op.equalIn,run_underlying_of hd]) rfl rfl fun op xo yo w=>?_
 unfold eqGuard
 cases op<;>simp
abbrev errV(e:Int):Value:=.iface 77 (.agg #[.int .i64 e])
def retC(R:RV):Post
 | .normal,_,ds,w=>ds=[]/\R (.tuple #[]) w
 | .ret,_,ds,w=>ds=[]/\R (.tuple #[]) w
 | _,_,_,_=>False
def H29(b19 b5 b9:Nat)(e:Int)(w:World)(R:RV):Prop:=
 ∃t1:Bool,EqAt Tryz.prog 20 (errV e) .nilIface t1/\IfB (!t1)
  ((77:Nat)=77/\AllocP w (.cells #[.int .i64 0] 77) fun(b2:Nat) (w3:World)=>(#[Value.int .i64 e]).size=1/\StoreP w3 b2 0 [.int .i64 e] fun(w4:World)=>
   IfB (!true) False
    (∃n5:Int,w4.cell? ⟨b2,0+0,none⟩=some (.int .i64 n5)/\∃n6:Int,w4.cell? ⟨b19,0,none⟩=some (.int .i64 n6)/\∃x7:Int×Int×Int×Int,
     CellsAt w4 b5 0 [.int .i64 x7.1,.int .i64 x7.2.1,.int .i64 x7.2.2.1,.int .i64 x7.2.2.2]/\
     (#[Value.int .i64 n5,.int .i64 n6,.int .i64 x7.1,.int .i64 x7.2.1,.int .i64 x7.2.2.1,.int .i64 x7.2.2.2,.slice none 0 0,.slice none 0 0,.slice none 0 0]).size=9/\
     StoreP w4 b9 0 [.int .i64 n5,.int .i64 n6,.int .i64 x7.1,.int .i64 x7.2.1,.int .i64 x7.2.2.1,.int .i64 x7.2.2.2,.slice none 0 0,.slice none 0 0,.slice none 0 0] fun(w8:World)=>([]:List Df)=[]/\R (.tuple #[]) w8))
  (([]:List Df)=[]/\R (.tuple #[]) w)
def H29n(w:World)(R:RV):Prop:=∃t1:Bool,EqAt Tryz.prog 20 .nilIface .nilIface t1/\IfB (!t1) False (([]:List Df)=[]/\R (.tuple #[]) w)
abbrev pB(b:Nat):Value:=.pointer (some ⟨b,0,none⟩)
abbrev fr29(b19 b5 b9:Nat)(v:Value):Fr:=put (put (argFr 0 [pB b19,pB b5,pB b9]) (some 6) v) (some 3) v
theorem H29_ok{b19 b5 b9:Nat}{e:Int}{w:World}{R:RV}(h:H29 b19 b5 b9 e w R):
  exS Tryz.prog tb 22 none (codeAt [1] (bodyOf Tryz.f29)) .nil (retC R) (fr29 b19 b5 b9 (errV e)) [] w:=Eq.mp (α:=H29 b19 b5 b9 e w R) (by kernel_rfl) h
theorem H29n_ok{b19 b5 b9:Nat}{w:World}{R:RV}(h:H29n w R):
  exS Tryz.prog tb 22 none (codeAt [1] (bodyOf Tryz.f29)) .nil (retC R) (fr29 b19 b5 b9 .nilIface) [] w:=Eq.mp (α:=H29n w R) (by kernel_rfl) h
theorem okC29:okC tb 22 (codeAt [1] (bodyOf Tryz.f29)) .nil=true:=by kernel_rfl
theorem wpS_recover{id:Nat}{o0 o1:Oper}{d0 d1:Nat}{ty:Array TypeId}(h0:o0.op=.call ⟨.builtin .recover,#[],ty⟩)(e0:o0.dst=some d0)(g0:o0.guard=none)(h1:o1.op=.assign (.tmp d0))(e1:o1.dst=some d1)(g1:o1.guard=none)
  {P:Program}{Q:Exit->Act->List Frame->World->Prop}{a:Act}{cs cs':List Frame}{w:World}{v:Value}(hd:d0<a.tmps.size)(hr:recoverD cs=some (v,cs')\/(recoverD cs=none/\v=.nilIface/\cs'=cs))
  (h:Q .normal ((a.put (some d0) v).put (some d1) v) cs' w):(Code.region id #[o0,o1] false).wpSIn Fence.wide 0 P Q a cs w:=by
 refine wpSIn_region ?_
 show wpOpsSIn Fence.wide 0 P #[o0,o1] Q [0,1] a cs w
 have w0:∀(o:Oper)(t:Array Value),o.guard=none->Region.wanted o (yielded #[o0,o1] t)=true:=fun o t h=>by unfold Region.wanted;rw[h]
 have x0:(execOp a.eval o0).run P w=.ok .recover w:=by
  obtain⟨dst,op,tt,pos,after,guard⟩:=o0
  dsimp only at h0;subst h0
  simp[execOp,resolve,invoke,builtin]
 have x1:∀cs':List Frame,Q .normal ((a.put (some d0) v).put (some d1) v) cs' w->wpOpsSIn Fence.wide 0 P #[o0,o1] Q [1] (a.put (some d0) v) cs' w:=fun cs' h=>by
  have e:(execOp (a.put (some d0) v).eval o1).run P w=.ok (.value v) w:=by
   have ev:(a.put (some d0) v).eval (.tmp d0)=v:=by simp[Act.put,Act.eval,hd]
   obtain⟨dst,op,tt,pos,after,guard⟩:=o1
   dsimp only at h1;subst h1
   simp[execOp,ev]
  unfold wpOpsSIn
  rw[show (#[o0,o1])[1]? =some o1 from rfl]
  refine⟨fun _ _=>trivial,?_⟩
  rw[w0 o1 _ g1,if_pos rfl,e,e1]
  exact h
 unfold wpOpsSIn
 rw[show (#[o0,o1])[0]? =some o0 from rfl]
 refine⟨fun _ _=>trivial,?_⟩
 rw[w0 o0 _ g0,if_pos rfl,x0,e0]
 rcases hr with hr|⟨hr,rfl,rfl⟩
 ·dsimp only
  rw[hr]
  exact x1 _ h
 ·dsimp only
  rw[hr]
  exact x1 _ h
theorem door29{b19 b5 b9:Nat}{u u':FrameMode}{v:Value}{w:World}{R:RV}
  (hu:∀(c:Frame)(cs:List Frame),c.mode=u->recoverD (c::cs)=some (v,{ c with mode:=u' }::cs)\/(recoverD (c::cs)=none/\v=.nilIface/\u'=u))
  (h:exS Tryz.prog tb 22 none (codeAt [1] (bodyOf Tryz.f29)) .nil (retC R) (fr29 b19 b5 b9 v) [] w):
  CallsDIn Fence.wide 0 Tryz.prog 29 #[pB b19,pB b5,pB b9] u w fun e u'' w'=>∃r,e=.returned r/\u''=u'/\R r w':=by
 refine callsDIn_of_wpSIn Tryz.func29 rfl trivial (fun c₀ cs hc=>?_)
 refine wpSIn_seq ?_
 have hR0:=rel0 (N:=22) (args:=#[pB b19,pB b5,pB b9]) (Nat.le_of_ble_eq_true rfl)
 have hR1:=(hR0.put (d:=some 6) (fun e he=>by cases he;decide) v).put (d:=some 3) (fun e he=>by cases he;decide) v
 have hr:recoverD (c₀::cs)=some (v,{ c₀ with mode:=u' }::cs)\/(recoverD (c₀::cs)=none/\v=.nilIface/\({ c₀ with mode:=u' }::cs:List Frame)=c₀::cs):=by
  rcases hu c₀ cs hc with h|⟨h1,h2,h3⟩
  ·exact .inl h
  ·exact .inr ⟨h1,h2,by rw[h3,<-hc]⟩
 refine wpS_recover (d0:=6) (d1:=3) rfl rfl rfl rfl rfl rfl ?_ hr ?_
 ·rw[show Tryz.f29.ntmps=22 from rfl,hR0.size];decide
 refine wpSIn_of_wpIn rfl ?_
 refine wpIn_mono (F:=fz none) (exS_sound tbOk mixed _ .nil _ _ [] w okC29 h _ hR1) ?_
 rintro e a' w' ⟨f',ds',hR',_,hq⟩
 have fin:ds'=[]->R (.tuple #[]) w'->bodyPostS Tryz.prog Tryz.f29 c₀ cs (fun e u'' w'=>∃r,e=.returned r/\u''=u'/\R r w') .ret a' ({ c₀ with mode:=u' }::cs) w':=fun hd h=>by
  obtain⟨r,hK,hr⟩:=results_run (P:=Tryz.prog) tbOk hR'.val (w:=w') (fn:=Tryz.f29) (K:=fun r=>R r w') h
  exact⟨by rw[hR'.defers,hd];rfl,u',rfl,r,hr,r,rfl,rfl,hK⟩
 cases e with
 | normal=>exact fin hq.1 hq.2
 | ret=>exact fin hq.1 hq.2
 | exit _=>exact hq.elim
 | goto _=>exact hq.elim
 | panic ch=>exact hq.elim
 | outgrown=>exact hq.elim
def DrS(d:Deferred)(m:Option (List PanicEntry))(w:World)(K:World->Prop):Prop:=
 ∃b19 b5 b9:Nat,d={ target:=.fn (.func 29) #[pB b19,pB b5,pB b9],args:=#[] }/\match m with
  | none=>K w
  | some ch=>∃e:Int,ch=[{ v:=errV e,recovered:=false }]/\H29 b19 b5 b9 e w fun _ w'=>K w'
theorem drS_ok:DoorOk Tryz.prog DrS:=by
 intro d m w K fn tmps R h hK
 obtain⟨b19,b5,b9,rfl,h⟩:=h
 have hinv:∀w,(invoke (.fn (.func 29) #[pB b19,pB b5,pB b9]) #[]).run Tryz.prog w=.ok (.enter 29 #[pB b19,pB b5,pB b9]) w:=fun w=>by
  have:=en29 #[pB b19,pB b5,pB b9] w
  first|(simp [invoke];done)|simpa [invoke] using this
 cases m with
 | none=>
  refine⟨by simp[doorM],.inr ⟨(fun h=>by cases h),_,_,_,_,rfl,hinv w,fun _ _=>trivial,?_⟩⟩
  refine(door29 (u:=.returning) (u':=.returning) (v:=.nilIface) (R:=fun _ w'=>K w') (fun c cs hc=>.inr ⟨by simp[recoverD,hc],rfl,rfl⟩) (H29n_ok ⟨true,eqNil,IfB.no rfl ⟨rfl,h⟩⟩)).mono ?_
  rintro e u' w' ⟨r,rfl,rfl,hk⟩
  exact hK w' hk
 | some ch=>
  obtain⟨e,rfl,h⟩:=h
  refine⟨by simp[doorM],.inr ⟨(fun h=>by cases h),_,_,_,_,rfl,hinv w,fun _ _=>trivial,?_⟩⟩
  refine(door29 (u:=.panicking [{ v:=errV e,recovered:=false }]) (u':=.panicking [{ v:=errV e,recovered:=true }]) (v:=errV e) (R:=fun _ w'=>K w') (fun c cs hc=>.inl (by simp[recoverD,hc])) (H29_ok h)).mono ?_
  rintro e u' w' ⟨r,rfl,rfl,hk⟩
  exact hK w' hk
structure CxD where
 b1:Nat
 b3:Nat
 b7:Nat
 bS:Nat
 tc:Sl
 tf:Sl
 ta:Sl
 code:List InsD
 foot:List SpTD
 args:List Int
 asked:Bool
 P:List (List Pr)
def CxD.mr(c:CxD)(k:Int):Prop:=c.asked=false\/hasS (footR c.foot c.args) k
def CxD.mw(c:CxD)(k:Int):Prop:=c.asked=false\/hasS (footW c.foot c.args) k
structure StC(n0:Nat)(w:World)(c:CxD):Prop where
 box1:∃T,w.heap[c.b1]? =some (.cells #[slV c.tc,slV c.tf] T (0,0))
 box3:∃T,w.heap[c.b3]? =some (.cells #[slV c.ta] T (0,0))
 box7:∃T,w.heap[c.b7]? =some (.cells #[.bool c.asked] T (0,0))
 l1:c.b1<n0
 l3:c.b3<n0
 l7:c.b7<n0
 code:Rd w c.tc 9 (c.code.flatMap insC)
 lc:0<c.tc.n->∀i∈blk c.tc,i<n0
 foot:Rd w c.tf 5 (c.foot.flatMap spTC)
 lf:0<c.tf.n->∀i∈blk c.tf,i<n0
 args:Rd w c.ta 1 (c.args.map iv)
 la:0<c.ta.n->∀i∈blk c.ta,i<n0
 store:StA (fun i=>i<n0) w c.bS c.P
 inv:Inv c.P
 fok:FootOk c.foot c.args.length
 aok:ArgsOk c.args
theorem StC.ch{n0:Nat}{w w':World}{c:CxD}{F:Nat->Prop}(h:StC n0 w c)(hc:Ch F w w')(hF:∀i,F i->n0<=i):StC n0 w' c:=by
 obtain⟨⟨T1,h1⟩,⟨T3,h3⟩,⟨T7,h7⟩,l1,l3,l7,hcode,lc,hfoot,lf,hargs,la,hst,hi,hf,ha⟩:=h
 have no:∀i,i<n0->¬F i:=fun i hi hf=>by have:=hF i hf;omega
 exact⟨⟨T1,hc.at h1 (no _ l1)⟩,⟨T3,hc.at h3 (no _ l3)⟩,⟨T7,hc.at h7 (no _ l7)⟩,l1,l3,l7,hcode.ch0 hc fun h0 b hb=>no b (lc h0 b hb),lc,hfoot.ch0 hc fun h0 b hb=>no b (lf h0 b hb),lf,hargs.ch0 hc fun h0 b hb=>no b (la h0 b hb),la,hst.ch hc fun i _ hi=>no i hi,hi,hf,ha⟩
theorem StC.mono{n0 n1:Nat}{w:World}{c:CxD}(h:StC n0 w c)(hn:n0<=n1):StC n1 w c:=
 ⟨h.box1,h.box3,h.box7,Nat.lt_of_lt_of_le h.l1 hn,Nat.lt_of_lt_of_le h.l3 hn,Nat.lt_of_lt_of_le h.l7 hn,h.code,fun h0 i hi=>Nat.lt_of_lt_of_le (h.lc h0 i hi) hn,h.foot,fun h0 i hi=>Nat.lt_of_lt_of_le (h.lf h0 i hi) hn,h.args,fun h0 i hi=>Nat.lt_of_lt_of_le (h.la h0 i hi) hn,h.store.mono fun i _ hi=>Nat.lt_of_lt_of_le hi hn,h.inv,h.fok,h.aok⟩
theorem StC.ext{n0:Nat}{w w':World}{c:CxD}(h:StC n0 w c)(e:Ext w w'):StC n0 w' c:=h.ch e fun _ h=>h.elim
abbrev chE(x:ChD):Value:=.agg (lC47 x).toArray
abbrev doC(c:CxD)(bm:Nat)(r:Rg)(tr tw:Sl):List Value:=
 [slV c.ta,.int .i64 r.1,.int .i64 r.2.1,.int .i64 r.2.2.1,.int .i64 r.2.2.2,.pointer (some ⟨c.bS,0,none⟩),.func (.func 30) #[] #[pB c.b7,pB c.b1,pB c.b3],slV tr,slV tw,.map (some bm)]
structure DoR(n0:Nat)(w:World)(c:CxD)(b bm:Nat)(s:PS)(tr tw:Sl)(rds wrs:List Spn)(f:List (Int×ChD)):Prop where
 box:∃T,w.heap[b]? =some (.cells (doC c bm s.r tr tw).toArray T (0,0))
 rr:OwS w tr 2 (rds.flatMap sv)
 nr:NormS rds
 hr:∀k,hasS rds k↔s.rd k
 br:∀i∈blk tr,n0<=i/\i≠b/\i≠bm
 ww:OwS w tw 2 (wrs.flatMap sv)
 nw:NormS wrs
 hw:∀k,hasS wrs k↔s.wr k
 bw:∀i∈blk tw,n0<=i/\i≠b/\i≠bm
 map:Mp chE w bm f
 get:∀k,getM f k=(s.ch k).map fun v=>(k,v)
 lb:n0<=b
 lm:n0<=bm
 ne:b≠bm
 ok:PsOk s
def DoM(n0:Nat)(w:World)(c:CxD)(b bm:Nat)(s:PS):Prop:=∃tr tw rds wrs f,DoR n0 w c b bm s tr tw rds wrs f
section
variable {n0:Nat} {w w':World} {c:CxD} {b bm:Nat} {s:PS} {tr tw:Sl} {rds wrs:List Spn} {f:List (Int×ChD)}
theorem DoR.ext(h:DoR n0 w c b bm s tr tw rds wrs f)(e:Ext w w'):DoR n0 w' c b bm s tr tw rds wrs f:=by
 obtain⟨⟨T,h1⟩,h2,h3,h4,h5,h6,h7,h8,h9,h10,h11,h12,h13,h14,h15⟩:=h
 exact⟨⟨T,e.at h1⟩,h2.ext e,h3,h4,h5,h6.ext e,h7,h8,h9,h10.ext e,h11,h12,h13,h14,h15⟩
theorem DoR.cell(h:DoR n0 w c b bm s tr tw rds wrs f)(j:Nat):w.cell? ⟨b,0+j,none⟩=(doC c bm s.r tr tw)[j]? :=by
 obtain⟨T,hT⟩:=h.box
 rw[cell_of hT,Nat.zero_add];exact List.getElem?_toArray ..
theorem DoR.reg(h:DoR n0 w c b bm s tr tw rds wrs f){a:Int}(ha:0<=a/\a<=3)(e:Ext w w'):w'.cell? ⟨b,0+1+a.toNat,none⟩=some (.int .i64 (rgG s.r a)):=by
 obtain⟨T,hT⟩:=(h.ext e).box
 rw[cell_of hT]
 rcases in4 ha with rfl|rfl|rfl|rfl<;>rfl
theorem DoR.setReg(h:DoR n0 w c b bm s tr tw rds wrs f){a v:Int}(ha:0<=a/\a<=3)(hv:PsOk { s with r:=rgS s.r a v }){K:World->Prop}(hK:∀w',DoR n0 w' c b bm { s with r:=rgS s.r a v } tr tw rds wrs f->Ch (fun i=>i=b) w w'->K w'):
  StoreP w b (0+1+a.toNat) [.int .i64 v] K:=by
 obtain⟨⟨T,h1⟩,h2,h3,h4,h5,h6,h7,h8,h9,h10,h11,h12,h13,h14,h15⟩:=h
 refine store_one h1 (by show 0+1+a.toNat<10;omega) rfl fun w' hu=>hK w' ⟨⟨T,?_⟩,h2.ch hu.ch fun i hi e=>(h5 i hi).2.1 e,h3,h4,h5,h6.ch hu.ch fun i hi e=>(h9 i hi).2.1 e,h7,h8,h9,h10.ch hu.ch fun e=>h14 e.symm,h11,h12,h13,h14,hv⟩ hu.ch
 rw[hu.new]
 rcases in4 ha with rfl|rfl|rfl|rfl<;>rfl
end
theorem may_of{n0:Nat}{w:World}{c:CxD}(h:StC n0 w c){t u:Sl}{xs ys:List Spn}(hx:Rd w t 2 (xs.flatMap sv))(hy:Rd w u 2 (ys.flatMap sv))(hxl:xs.length<=1000000)(hyl:ys.length<=1000000):
  Cw 30 #[slV t,slV u,pB c.b7,pB c.b1,pB c.b3] w fun v w'=>∃r,v=.bool r/\(r=true↔(∀k,hasS xs k->c.mr k)/\∀k,hasS ys k->c.mw k)/\Ext w w':=by
 obtain⟨T1,h1⟩:=h.box1
 obtain⟨T3,h3⟩:=h.box3
 obtain⟨T7,h7⟩:=h.box7
 refine F30_ok t u c.b7 c.b1 c.b3 w _ ⟨c.asked,by rw[cell_of h7];rfl,IfB.intro (fun ha=>?_) fun ha=>?_⟩
 ·have ha:c.asked=false:=by simpa using ha
  exact⟨true,rfl,⟨fun _=>⟨fun k _=>.inl ha,fun k _=>.inl ha⟩,fun _=>rfl⟩,Ch.refl _ _⟩
 ·have ha:c.asked=true:=by simpa using ha
  refine⟨c.tf,by rw[cell_of h1];rfl,c.ta,by rw[cell_of h3];rfl,(c31 h.foot h.args hx hy hxl hyl).use ?_⟩
  rintro _ w5 ⟨r,rfl,hr,e5⟩
  refine⟨r,rfl,r,rfl,hr.trans ⟨fun h=>⟨fun k hk=>.inr (h.2.1 k hk),fun k hk=>.inr (h.2.2 k hk)⟩,fun h'=>⟨⟨h.aok,h.fok⟩,fun k hk=>(h'.1 k hk).elim (fun e=>by rw[ha] at e;cases e) id,fun k hk=>(h'.2 k hk).elim (fun e=>by rw[ha] at e;cases e) id⟩⟩,e5⟩
theorem key_of{n0:Nat}{w:World}{c:CxD}{b bm:Nat}{s:PS}{tr tw:Sl}{rds wrs:List Spn}{f:List (Int×ChD)}(h:StC n0 w c)(hd:DoR n0 w c b bm s tr tw rds wrs f){k:KeyD}(hk:KeyOk k c.args.length):
  Cw 103 #[pB b,keyV k] w fun v w'=>v=iv (keyAt k c.args)/\Ext w w':=by
 refine F103_ok _ k w _ fun b1 w2 a2=>?_
 have e2:Ext w w2.drew:=(a2.ch _).trans (extDrew _)
 have k2:=hd.ext e2
 refine⟨k,boxAll (cs:=keyC k) a2.new (extDrew _),b,0,rfl,c.ta,k2.cell 0,(c51 k (h.args.ext e2)).use ?_⟩
 rintro _ w8 ⟨n,r,rfl,hr,hn,e8⟩
 have:=hn (hr.2 ⟨hk,h.aok⟩)
 subst this
 exact⟨(_,r),rfl,rfl,e2.trans e8⟩
theorem fail_of{e:Int}{w:World}{R:RV}{S:List PanicEntry->World->Prop}(h:S [{ v:=errV e,recovered:=false }] w):CXS Tryz.prog 110 #[iv e] w R S:=
 .inr (F110_ok e w R S ⟨rfl,h⟩)
theorem read_of{n0:Nat}{w:World}{c:CxD}{b bm:Nat}{s:PS}{tr tw:Sl}{rds wrs:List Spn}{f:List (Int×ChD)}(h:StC n0 w c)(hd:DoR n0 w c b bm s tr tw rds wrs f){t:Sl}{l:List Spn}(hl:Rd w t 2 (l.flatMap sv))(hN:NormS l){R:RV}{S:List PanicEntry->World->Prop}
  (hR:∀tr' rds' w',(∀k,hasS l k->c.mr k)->DoR n0 w' c b bm { s with rd:=fun k=>s.rd k\/hasS l k } tr' tw rds' wrs f->Ch (fun i=>i=b) w w'->R (.tuple #[]) w')
  (hS:∀w',¬(∀k,hasS l k->c.mr k)->Ext w w'->S [{ v:=errV 9,recovered:=false }] w'):
  CXS Tryz.prog 104 #[pB b,slV t] w R S:=by
 have hll:=normS_len hN
 have nl:Rd w ⟨none,0,0⟩ 2 (([]:List Spn).flatMap sv):=(OwS.nil w 2).rd
 refine .inr (F104_ok _ t w R S ⟨b,0,rfl,(30,#[pB c.b7,pB c.b1,pB c.b3]),hd.cell 6,.inl ((may_of h hl nl (by omega) (by simp)).use ?_)⟩)
 rintro _ w5 ⟨r,rfl,hr,e5⟩
 have hr':r=true↔∀k,hasS l k->c.mr k:=hr.trans ⟨fun h=>h.1,fun h=>⟨h,fun k hk=>by simp[hasS] at hk⟩⟩
 have d5:=hd.ext e5
 refine⟨r,rfl,IfB.intro (fun h1=>fail_of ⟨rfl,hS w5 (fun h=>?_) e5⟩) fun h1=>?_⟩
 ·rw[hr'.2 h] at h1;cases h1
 have hm:=hr'.1 (by simpa using h1)
 refine⟨b,0,rfl,tr,d5.cell 7,.inl ((c134 d5.rr.rd (hl.ext e5) (by have:=normS_len hd.nr;omega)).use ?_)⟩
 rintro _ w27 ⟨t',os,rfl,hN',hk',ho',_,e27,hb'⟩
 obtain⟨⟨T,k1⟩,k2,k3,k4,k5,k6,k7,k8,k9,k10,k11,k12,k13,k14,k15⟩:=d5.ext e27
 have ob:=heap_lt ((d5.box.choose_spec))
 have om:=d5.map.lt
 refine⟨t',rfl,b,0,rfl,rfl,store_one k1 (by simp) rfl fun w31 hu=>?_⟩
 have hb31:∀i∈blk t',n0<=i/\i≠b/\i≠bm:=fun i hi=>by have:=hb' i hi;omega
 refine hR t' os w31 hm ⟨⟨T,by rw[hu.new];rfl⟩,ho'.ch hu.ch fun i hi e=>(hb31 i hi).2.1 e,hN',fun k=>by rw[hk',hd.hr],hb31,k6.ch hu.ch fun i hi e=>(k9 i hi).2.1 e,k7,k8,k9,k10.ch hu.ch fun e=>k14 e.symm,k11,k12,k13,k14,⟨k15.r,fun k hk=>?_,k15.wr,k15.wk,k15.gone,k15.val⟩⟩ (((e5.trans e27).mono fun _ _ h=>h.elim).then hu.ch fun _ _ h=>h)
 rcases hk with hk|⟨x,hx,hmx,h1,h2⟩
 ·exact k15.rd k hk
 ·unfold mayS at hmx;omega
theorem change_of{n0:Nat}{w:World}{c:CxD}{b bm:Nat}{s:PS}{tr tw:Sl}{rds wrs:List Spn}{f:List (Int×ChD)}(h:StC n0 w c)(hd:DoR n0 w c b bm s tr tw rds wrs f){k:Int}(hk:0<=k/\k<=999){v:ChV}(hg:v.1=true->v.2=0)(hv:I64 v.2){R:RV}{S:List PanicEntry->World->Prop}
  (hR:∀tw' wrs' f' w',c.mw k->DoR n0 w' c b bm { s with wr:=fun j=>s.wr j\/j=k,ch:=fun j=>if j=k then some v else s.ch j } tr tw' rds wrs' f'->Ch (fun i=>i=b\/i=bm) w w'->R (.tuple #[]) w')
  (hS:∀w',¬c.mw k->Ext w w'->S [{ v:=errV 9,recovered:=false }] w'):
  CXS Tryz.prog 107 #[pB b,.agg #[.int .i64 k,.bool v.1,.int .i64 v.2]] w R S:=by
 refine .inr (F107_ok _ (k,v) w R S fun b1 w2 a2=>?_)
 have e2:Ext w w2:=a2.ch _
 have hb1:w2.heap[b1]? =some (.cells (lC47 (k,v)).toArray 47 (0,0)):=a2.new
 refine⟨k,boxAt hb1 0 (Ch.refl _ _),.inl ((c105 k w2).use ?_)⟩
 rintro _ w5 ⟨t,l,rfl,hN,hl,ho,hll,e5,hbt⟩
 have E5:=e2.trans e5
 have hl':∀j,hasS l j↔j=k:=fun j=>by rw[hl];exact⟨fun h=>h.2,fun h=>⟨hk,h⟩⟩
 have nl:Rd w5 ⟨none,0,0⟩ 2 (([]:List Spn).flatMap sv):=(OwS.nil w5 2).rd
 have d5:=hd.ext E5
 refine⟨t,rfl,b,0,rfl,(30,#[pB c.b7,pB c.b1,pB c.b3]),d5.cell 6,.inl ((may_of (h.ext E5) nl ho.rd (by simp) (by omega)).use ?_)⟩
 rintro _ w11 ⟨r,rfl,hr,e11⟩
 have hr':r=true↔c.mw k:=hr.trans ⟨fun h=>h.2 k ((hl' k).2 rfl),fun h=>⟨fun k hk=>by simp[hasS] at hk,fun j hj=>by rw[(hl' j).1 hj];exact h⟩⟩
 have E11:=E5.trans e11
 have d11:=hd.ext E11
 refine⟨r,rfl,IfB.intro (fun h1=>fail_of ⟨rfl,hS w11 (fun h=>?_) E11⟩) fun h1=>?_⟩
 ·rw[hr'.2 h] at h1;cases h1
 have hm:=hr'.1 (by simpa using h1)
 refine⟨b,0,rfl,tw,d11.cell 8,.inl ((c134 d11.ww.rd (ho.ext e11).rd (by have:=normS_len hd.nw;omega)).use ?_)⟩
 rintro _ w39 ⟨t',os,rfl,hN',hk',ho',_,e39,hb'⟩
 have E39:=E11.trans e39
 obtain⟨⟨T,k1⟩,k2,k3,k4,k5,k6,k7,k8,k9,k10,k11,k12,k13,k14,k15⟩:=d11.ext e39
 have ob:=heap_lt ((d11.box.choose_spec))
 have om:=d11.map.lt
 have ob1:=heap_lt hb1
 have hbw:b<w.heap.size:=heap_lt hd.box.choose_spec
 have hmw:bm<w.heap.size:=hd.map.lt
 have p2:=a2.here
 refine⟨t',rfl,b,0,rfl,rfl,store_one k1 (by simp) rfl fun w43 hu=>?_⟩
 have hb43:∀i∈blk t',n0<=i/\i≠b/\i≠bm:=fun i hi=>by have:=hb' i hi;omega
 have E2:Ext w2 w39:=(e5.trans e11).trans e39
 have hb1':=hu.ch.at (E2.at hb1) (by omega)
 have hnew:w43.heap[b]? =some (.cells (doC c bm s.r tr t').toArray T (0,0)):=by rw[hu.new];rfl
 have hc39:Ch (fun i=>i=b\/i=bm) w w43:=(E39.mono fun _ _ h=>h.elim).then hu.ch fun _ _ h=>.inl h
 have hbx:=(extDrew w43).at hnew
 refine⟨b,0,rfl,some bm,by rw[cell_of hbx];rfl,k,by rw[cell_of ((extDrew w43).at hb1')];rfl,(k,v),cellsAt_of ((extDrew w43).at hb1') fun i v hv=>by rw[Nat.zero_add];simpa using hv,?_⟩
 refine Mp.set (enc:=chE) ((k10.ch hu.ch fun e=>k14 e.symm).ext (extDrew _)) (v:=((k,v):ChD)) fun f' w49 hg' hM hC'=>?_
 have e43:Ch (fun i=>i=bm) w43 w49:=((extDrew w43).mono fun _ _ h=>h.elim).then hC' fun _ _ h=>h
 have hs39:=E39.size
 have hs43:w43.heap.size=w39.heap.size:=hu.size
 refine hR t' os f' w49 hm ⟨⟨T,e43.at hnew k14⟩,(k2.ch hu.ch fun i hi e=>(k5 i hi).2.1 e).ch e43 fun i hi e=>(k5 i hi).2.2 e,k3,k4,k5,(ho'.ch hu.ch fun i hi e=>(hb43 i hi).2.1 e).ch e43 fun i hi e=>(hb43 i hi).2.2 e,hN',fun j=>by rw[hk',hd.hw,hl'],hb43,hM,fun j=>?_,k12,k13,k14,⟨k15.r,k15.rd,fun j=>?_,fun j hj=>?_,fun j v' h=>?_,fun j v' h=>?_⟩⟩ (hc39.then e43 fun _ _ h=>.inr h)
 ·rw[hg',hd.get]
  dsimp only
  by_cases e:j=k
  ·subst e;simp
  ·rw[if_neg (fun h=>e h.symm),if_neg e]
 ·dsimp only
  by_cases e:j=k
  ·simp[e]
  ·simp[e,k15.wr]
 ·rcases hj with hj|hj
  ·exact k15.wk j hj
  ·rw[hj];exact hk
 ·dsimp only at h
  split at h
  ·cases h;exact hg rfl
  ·exact k15.gone _ _ h
 ·dsimp only at h
  split at h
  ·cases h;exact hv
  ·exact k15.val _ _ h
theorem value_of{n0:Nat}{w:World}{c:CxD}{b bm:Nat}{s:PS}{tr tw:Sl}{rds wrs:List Spn}{f:List (Int×ChD)}(h:StC n0 w c)(hd:DoR n0 w c b bm s tr tw rds wrs f){k:Int}(hk:0<=k/\k<=999):
  Cw 106 #[pB b,iv k] w fun v w'=>v=.tuple #[iv ((nowV (stP c.P) s.ch k).getD 0),.bool (nowV (stP c.P) s.ch k).isSome]/\Ext w w':=by
 refine F106_ok _ k w _ ⟨b,0,rfl,some bm,hd.cell 9,?_⟩
 refine Mp.get (enc:=chE) hd.map ?_
 rw[hd.get]
 have box:∀(x:ChD){K:Nat->World->Prop},(∀b7 w9,w9.heap[b7]? =some (.cells (lC47 x).toArray 47 (0,0))->Ext w w9->K b7 w9)->AllocP w (.cells #[.int .i64 0,.bool false,.int .i64 0] 47) fun b7 w8=>(lC47 x).toArray.size=3/\StoreP w8 b7 0 (lC47 x) fun w9=>K b7 w9:=fun x K hK b7 w8 h8=>by
  refine⟨rfl,store_all h8.new rfl (by intro v hv;simp at hv;rcases hv with rfl|rfl|rfl<;>rfl) fun w9 h9=>hK b7 w9 h9.new (Ext.fresh h8 h9)⟩
 cases hc:s.ch k with
 | some v=>
  refine⟨(k,v),rfl,box (k,v) fun b7 w9 h9 e9=>IfB.yes rfl ⟨v.2,by rw[cell_of ((extDrew w9).at h9)];rfl,v.1,by rw[cell_of ((extDrew w9).at h9)];rfl,?_,e9.trans (extDrew w9)⟩⟩
  obtain⟨g,v⟩:=v
  unfold nowV
  rw[hc]
  cases g with
  | true=>rw[hd.ok.gone k v hc];rfl
  | false=>rfl
 | none=>
  refine⟨(0,false,0),rfl,box (0,false,0) fun b7 w9 h9 e9=>IfB.no rfl ⟨b,0,rfl,some ⟨c.bS,0,none⟩,(hd.ext e9).cell 5,?_⟩⟩
  obtain⟨ss,ps,hS,hP,_⟩:=(h.ext e9).store
  refine(c26 hS hP h.inv k).use ?_
  rintro _ w16 ⟨rfl,e16⟩
  refine⟨_,rfl,?_,e9.trans e16⟩
  unfold nowV stP getP
  rw[hc,if_pos hk]
  cases hh:hasP c.P k with
  | true=>simp[hk]
  | false=>simp
theorem ov_add{a b:Int}(ha:I64 a)(hb:I64 b):(!(decide (a<IntKind.i64.wrap (a+b)) == decide (0<b)))=true↔¬I64 (a+b):=by
 rw[IntKind.wrap_i64]
 simp only[Bool.not_eq_true',beq_eq_false_iff_ne,ne_eq,decide_eq_decide]
 unfold I64 at*
 omega
theorem ov_sub{a b:Int}(ha:I64 a)(hb:I64 b):(!(decide (IntKind.i64.wrap (a-b)<a) == decide (0<b)))=true↔¬I64 (a-b):=by
 rw[IntKind.wrap_i64]
 simp only[Bool.not_eq_true',beq_eq_false_iff_ne,ne_eq,decide_eq_decide]
 unfold I64 at*
 omega
def InsP(g:FuncId)(o:Int):Prop:=∀ {n0:Nat}{w:World}{c:CxD}{b bm:Nat}{s:PS}{x:InsD}{R:RV}{S:List PanicEntry->World->Prop},StC n0 w c->DoM n0 w c b bm s->InsOk x c.args.length->I64 x.X->(∀k v,stP c.P k=some v->I64 v)->x.1=o->
 (∀s' w',stepI (stP c.P) c.mr c.mw c.args x s=.inr s'->DoM n0 w' c b bm s'->Ch (fun i=>i=b\/i=bm) w w'->R (.tuple #[]) w')->
 (∀e w',stepI (stP c.P) c.mr c.mw c.args x s=.inl e->Ch (fun i=>i=b\/i=bm) w w'->S [{ v:=errV e,recovered:=false }] w')->
 CXS Tryz.prog g #[pB b,insV x] w R S
theorem ps_rd{s:PS}{p q:Int->Prop}(h:∀j,p j↔q j):({ s with rd:=p }:PS)={ s with rd:=q }:=by
 have:p=q:=funext fun j=>propext (h j)
 rw[this]
structure Bx(w0 w:World)(b1:Nat)(x:InsD):Prop where
 at':w.heap[b1]? =some (.cells (insC x).toArray 66 (0,0))
 new:w0.heap.size<=b1
theorem Bx.of{w w2:World}{b1:Nat}{x:InsD}(h:IsAlloc w (.cells (insC x).toArray 66 (0,0)) b1 w2):Bx w w2 b1 x:=⟨h.new,Nat.le_of_eq h.here.symm⟩
theorem Bx.ch{F:Nat->Prop}{w0 w w':World}{b1:Nat}{x:InsD}(h:Bx w0 w b1 x)(hc:Ch F w w')(hF:∀i,F i->i<w0.heap.size):Bx w0 w' b1 x:=⟨hc.at h.at' fun hf=>by have:=hF _ hf;have:=h.new;omega,h.new⟩
theorem Bx.ext{w0 w w':World}{b1:Nat}{x:InsD}(h:Bx w0 w b1 x)(hc:Ext w w'):Bx w0 w' b1 x:=h.ch hc fun _ h=>h.elim
theorem Bx.cell{w0 w:World}{b1:Nat}{x:InsD}(h:Bx w0 w b1 x)(j:Nat):w.cell? ⟨b1,0+j,none⟩=(insC x)[j]? :=boxAt h.at' j (Ch.refl _ _)
theorem Bx.K{w0 w:World}{b1:Nat}{x:InsD}(h:Bx w0 w b1 x):CellsAt w b1 (0+4) [.int .i64 x.K.1,.int .i64 x.K.2]:=fun i v hv=>by
 match i,hv with
 | 0,hv=>cases hv;exact h.cell 4
 | 1,hv=>cases hv;exact h.cell 5
theorem Bx.L{w0 w:World}{b1:Nat}{x:InsD}(h:Bx w0 w b1 x):CellsAt w b1 (0+6) [.int .i64 x.L.1,.int .i64 x.L.2]:=fun i v hv=>by
 match i,hv with
 | 0,hv=>cases hv;exact h.cell 6
 | 1,hv=>cases hv;exact h.cell 7
theorem DoR.lt{n0:Nat}{w:World}{c:CxD}{b bm:Nat}{s:PS}{tr tw:Sl}{rds wrs:List Spn}{f:List (Int×ChD)}(h:DoR n0 w c b bm s tr tw rds wrs f):b<w.heap.size:=heap_lt h.box.choose_spec
theorem DoR.hF{n0:Nat}{w:World}{c:CxD}{b bm:Nat}{s:PS}{tr tw:Sl}{rds wrs:List Spn}{f:List (Int×ChD)}(h:DoR n0 w c b bm s tr tw rds wrs f):∀i,i=b\/i=bm->n0<=i:=fun i e=>e.elim (fun e=>e ▸ h.lb) fun e=>e ▸ h.lm
theorem reg4{a:Int}(h:0<=a/\a<=3):0<=a/\a<((4:Nat):Int):=⟨h.1,by omega⟩
theorem get_of:InsP 56 1:=by
 intro n0 w c b bm s x R S h hd hx hX hst ho hR hS
 obtain⟨tr,tw,rds,wrs,f,hd⟩:=hd
 have hk:=hx.ko (by omega)
 have hkr:=keyAt_range hk h.aok
 have ha:0<=x.a/\x.a<=3:=⟨hx.a0,hx.a3⟩
 have hlb:=hd.lt
 have hst1:stepI (stP c.P) c.mr c.mw c.args x s=if bq (c.mr (keyAt x.K c.args))=true then .inr { s with r:=rgS s.r x.a ((nowV (stP c.P) s.ch (keyAt x.K c.args)).getD 0),rd:=fun j=>s.rd j\/j=keyAt x.K c.args } else .inl 9:=by unfold stepI;rw[if_pos ho]
 refine .inr (F56_ok _ (insX x) w R S fun b1 w2 a2=>?_)
 have B2:=Bx.of a2
 have e2:Ext w w2:=a2.ch _
 refine⟨x.K,B2.K,.inl ((key_of (h.ext e2) (hd.ext e2) hk).use ?_)⟩
 rintro _ w5 ⟨rfl,e5⟩
 refine⟨_,rfl,.inl ((c105 _ w5).use ?_)⟩
 rintro _ w8 ⟨t,l,rfl,hN,hl,hol,hll,e8,_⟩
 have E8:Ext w w8:=(e2.trans e5).trans e8
 have hl':∀j,hasS l j↔j=keyAt x.K c.args:=fun j=>by rw[hl];exact⟨fun h=>h.2,fun h=>⟨hkr,h⟩⟩
 refine⟨t,rfl,read_of (h.ext E8) (hd.ext E8) hol.rd hN (fun tr' rds' w' hm hd' hc=>?_) fun w' hm e'=>?_⟩
 ·have hm':c.mr (keyAt x.K c.args):=hm _ ((hl' _).2 rfl)
  rw[ps_rd (q:=fun j=>s.rd j\/j=keyAt x.K c.args) fun j=>or_congr Iff.rfl (hl' j)] at hd'
  have hC:Ch (fun i=>i=b\/i=bm) w w':=(E8.mono fun _ _ h=>h.elim).then hc fun _ _ e=>.inl e
  have B':=((B2.ext e5).ext e8).ch hc fun i e=>e ▸ hlb
  have hn:nowV (stP c.P) s.ch=nowV (stP c.P) ({ s with rd:=fun j=>s.rd j\/j=keyAt x.K c.args }:PS).ch:=rfl
  have hok:=stepI_ok hd.ok hst hx hX h.aok (by rw[hst1,if_pos (bq_iff.2 hm')])
  rw[if_pos (bq_iff.2 hm')] at hst1
  refine⟨(),rfl,x.a,(B'.ext (extDrew _)).cell 1,b,0,rfl,.inl ((value_of ((h.ch hC hd.hF).ext (extDrew _)) (hd'.ext (extDrew _)) hkr).use ?_)⟩
  rintro _ w17 ⟨rfl,e17⟩
  have E17:Ext w' w17:=(extDrew _).trans e17
  refine⟨(_,_),rfl,(B'.ext E17).cell 1,reg4 ha,rfl,(hd'.ext E17).setReg ha hok fun w18 hd18 hc18=>hR _ w18 hst1 ⟨_,_,_,_,_,hd18⟩ ?_⟩
  exact(hC.then E17 fun _ _ h=>h.elim).then hc18 fun _ _ e=>.inl e
 ·have hm':¬c.mr (keyAt x.K c.args):=fun hm'=>hm fun k hk=>by rw[(hl' k).1 hk];exact hm'
  rw[if_neg (by rw[bq_iff];exact hm')] at hst1
  have hX:=hS 9 w' hst1 ((E8.trans e').mono fun _ _ h=>h.elim)
  first|exact⟨rfl,hX⟩|exact fun _=>⟨rfl,hX⟩
theorem put_of:InsP 57 2:=by
 intro n0 w c b bm s x R S h hd hx hX hst ho hR hS
 obtain⟨tr,tw,rds,wrs,f,hd⟩:=hd
 have hk:=hx.ko (by omega)
 have hkr:=keyAt_range hk h.aok
 have ha:0<=x.a/\x.a<=3:=⟨hx.a0,hx.a3⟩
 have hlb:=hd.lt
 have hst1:stepI (stP c.P) c.mr c.mw c.args x s=if bq (c.mw (keyAt x.K c.args))=true then .inr { s with wr:=fun j=>s.wr j\/j=keyAt x.K c.args,ch:=fun j=>if j=keyAt x.K c.args then some (false,rgG s.r x.a) else s.ch j } else .inl 9:=by unfold stepI;rw[if_neg (by omega),if_pos ho]
 refine .inr (F57_ok _ (insX x) w R S fun b1 w2 a2=>?_)
 have B2:=Bx.of a2
 have e2:Ext w w2.drew:=(a2.ch _).trans (extDrew _)
 refine⟨x.K,(B2.ext (extDrew _)).K,x.a,(B2.ext (extDrew _)).cell 1,b,0,rfl,reg4 ha,_,hd.reg ha e2,.inl ((key_of (h.ext e2) (hd.ext e2) hk).use ?_)⟩
 rintro _ w9 ⟨rfl,e9⟩
 have E9:Ext w w9:=e2.trans e9
 refine⟨_,rfl,hd.reg ha E9,((B2.ext (extDrew _)).ext e9).cell 1,change_of (v:=(false,rgG s.r x.a)) (h.ext E9) (hd.ext E9) hkr (fun h=>(by cases h)) (hd.ok.r.get _) (fun tw' wrs' f' w' hm hd' hc=>⟨(),rfl,?_⟩) fun w' hm e'=>?_⟩
 ·rw[if_pos (show bq (c.mw (keyAt x.K c.args))=true from bq_iff.2 hm)] at hst1
  exact hR _ w' hst1 ⟨_,_,_,_,_,hd'⟩ ((E9.mono fun _ _ h=>h.elim).then hc fun _ _ e=>e)
 ·rw[if_neg (show ¬bq (c.mw (keyAt x.K c.args))=true by rw[bq_iff];exact hm)] at hst1
  have hX:=hS 9 w' hst1 ((E9.trans e').mono fun _ _ h=>h.elim)
  first|exact⟨rfl,hX⟩|exact fun _=>⟨rfl,hX⟩
theorem gone_of:InsP 58 3:=by
 intro n0 w c b bm s x R S h hd hx hX hst ho hR hS
 obtain⟨tr,tw,rds,wrs,f,hd⟩:=hd
 have hk:=hx.ko (by omega)
 have hkr:=keyAt_range hk h.aok
 have hst1:stepI (stP c.P) c.mr c.mw c.args x s=if bq (c.mw (keyAt x.K c.args))=true then .inr { s with wr:=fun j=>s.wr j\/j=keyAt x.K c.args,ch:=fun j=>if j=keyAt x.K c.args then some (true,0) else s.ch j } else .inl 9:=by unfold stepI;rw[if_neg (by omega),if_neg (by omega),if_pos ho]
 refine .inr (F58_ok _ (insX x) w R S fun b1 w2 a2=>?_)
 have B2:=Bx.of a2
 have e2:Ext w w2:=a2.ch _
 refine⟨x.K,B2.K,.inl ((key_of (h.ext e2) (hd.ext e2) hk).use ?_)⟩
 rintro _ w5 ⟨rfl,e5⟩
 have E5:Ext w w5:=e2.trans e5
 refine⟨_,rfl,change_of (v:=(true,0)) (h.ext E5) (hd.ext E5) hkr (fun _=>rfl) ⟨by decide,by decide⟩ (fun tw' wrs' f' w' hm hd' hc=>⟨(),rfl,?_⟩) fun w' hm e'=>?_⟩
 ·rw[if_pos (show bq (c.mw (keyAt x.K c.args))=true from bq_iff.2 hm)] at hst1
  exact hR _ w' hst1 ⟨_,_,_,_,_,hd'⟩ ((E5.mono fun _ _ h=>h.elim).then hc fun _ _ e=>e)
 ·rw[if_neg (show ¬bq (c.mw (keyAt x.K c.args))=true by rw[bq_iff];exact hm)] at hst1
  have hX:=hS 9 w' hst1 ((E5.trans e').mono fun _ _ h=>h.elim)
  first|exact⟨rfl,hX⟩|exact fun _=>⟨rfl,hX⟩
theorem set_of:InsP 60 5:=by
 intro n0 w c b bm s x R S h hd hx hX hst ho hR hS
 obtain⟨tr,tw,rds,wrs,f,hd⟩:=hd
 have ha:0<=x.a/\x.a<=3:=⟨hx.a0,hx.a3⟩
 have hst1:stepI (stP c.P) c.mr c.mw c.args x s=.inr { s with r:=rgS s.r x.a x.X }:=by unfold stepI;rw[if_neg (by omega),if_neg (by omega),if_neg (by omega),if_neg (by omega),if_pos ho]
 refine .inl ((F60_ok _ (insX x) w R fun b1 w2 a2=>?_).use fun _ _ h=>h)
 have B2:=(Bx.of a2).ext (extDrew _)
 have e2:Ext w w2.drew:=(a2.ch _).trans (extDrew _)
 refine⟨x.a,B2.cell 1,x.X,B2.cell 8,b,0,rfl,reg4 ha,rfl,(hd.ext e2).setReg ha (stepI_ok hd.ok hst hx hX h.aok hst1) fun w18 hd18 hc18=>hR _ w18 hst1 ⟨_,_,_,_,_,hd18⟩ ?_⟩
 exact(e2.mono fun _ _ h=>h.elim).then hc18 fun _ _ e=>.inl e
theorem add_of:InsP 61 6:=by
 intro n0 w c b bm s x R S h hd hx hX hst ho hR hS
 obtain⟨tr,tw,rds,wrs,f,hd⟩:=hd
 have ha:0<=x.a/\x.a<=3:=⟨hx.a0,hx.a3⟩
 have hb:=(hx.b3 (.inl ho)).1
 have hc':=(hx.b3 (.inl ho)).2
 have hst1:stepI (stP c.P) c.mr c.mw c.args x s=if -9223372036854775808<=rgG s.r x.b+rgG s.r x.c/\rgG s.r x.b+rgG s.r x.c<=9223372036854775807 then .inr { s with r:=rgS s.r x.a (rgG s.r x.b+rgG s.r x.c) } else .inl 8:=by
  unfold stepI;rw[if_neg (by omega),if_neg (by omega),if_neg (by omega),if_neg (by omega),if_neg (by omega),if_pos ho]
 refine .inr (F61_ok _ (insX x) w R S fun b1 w2 a2=>?_)
 have B2:=(Bx.of a2).ext (extDrew _)
 have e2:Ext w w2.drew:=(a2.ch _).trans (extDrew _)
 refine⟨x.b,B2.cell 2,b,0,rfl,reg4 hb,_,hd.reg hb e2,x.c,B2.cell 3,b,0,rfl,reg4 hc',_,hd.reg hc' e2,IfB.intro (fun hov=>fail_of ?_) fun hov=>?_⟩
 ·have:=(ov_add (hd.ok.r.get _) (hd.ok.r.get _)).1 hov
  rw[if_neg (show ¬(_/\_) from this)] at hst1
  have hX:=hS 8 _ hst1 (e2.mono fun _ _ h=>h.elim)
  first|exact⟨rfl,hX⟩|exact fun _=>⟨rfl,hX⟩
 ·have hin:I64 (rgG s.r x.b+rgG s.r x.c):=Classical.byContradiction fun h=>by rw[(ov_add (hd.ok.r.get _) (hd.ok.r.get _)).2 h] at hov;cases hov
  rw[if_pos (show _/\_ from hin)] at hst1
  have E3:Ext w w2.drew.drew:=e2.trans (extDrew _)
  refine⟨x.a,(B2.ext (extDrew _)).cell 1,b,0,rfl,reg4 ha,rfl,?_⟩
  rw[wrap_of hin.1 hin.2]
  exact(hd.ext E3).setReg ha (stepI_ok hd.ok hst hx hX h.aok hst1) fun w18 hd18 hc18=>hR _ w18 hst1 ⟨_,_,_,_,_,hd18⟩ ((E3.mono fun _ _ h=>h.elim).then hc18 fun _ _ e=>.inl e)
theorem sub_of:InsP 62 7:=by
 intro n0 w c b bm s x R S h hd hx hX hst ho hR hS
 obtain⟨tr,tw,rds,wrs,f,hd⟩:=hd
 have ha:0<=x.a/\x.a<=3:=⟨hx.a0,hx.a3⟩
 have hb:=(hx.b3 (.inr ho)).1
 have hc':=(hx.b3 (.inr ho)).2
 have hst1:stepI (stP c.P) c.mr c.mw c.args x s=if -9223372036854775808<=rgG s.r x.b-rgG s.r x.c/\rgG s.r x.b-rgG s.r x.c<=9223372036854775807 then .inr { s with r:=rgS s.r x.a (rgG s.r x.b-rgG s.r x.c) } else .inl 8:=by
  unfold stepI;rw[if_neg (by omega),if_neg (by omega),if_neg (by omega),if_neg (by omega),if_neg (by omega),if_neg (by omega),if_pos ho]
 refine .inr (F62_ok _ (insX x) w R S fun b1 w2 a2=>?_)
 have B2:=(Bx.of a2).ext (extDrew _)
 have e2:Ext w w2.drew:=(a2.ch _).trans (extDrew _)
 refine⟨x.b,B2.cell 2,b,0,rfl,reg4 hb,_,hd.reg hb e2,x.c,B2.cell 3,b,0,rfl,reg4 hc',_,hd.reg hc' e2,IfB.intro (fun hov=>fail_of ?_) fun hov=>?_⟩
 ·have:=(ov_sub (hd.ok.r.get _) (hd.ok.r.get _)).1 hov
  rw[if_neg (show ¬(_/\_) from this)] at hst1
  have hX:=hS 8 _ hst1 (e2.mono fun _ _ h=>h.elim)
  first|exact⟨rfl,hX⟩|exact fun _=>⟨rfl,hX⟩
 ·have hin:I64 (rgG s.r x.b-rgG s.r x.c):=Classical.byContradiction fun h=>by rw[(ov_sub (hd.ok.r.get _) (hd.ok.r.get _)).2 h] at hov;cases hov
  rw[if_pos (show _/\_ from hin)] at hst1
  have E3:Ext w w2.drew.drew:=e2.trans (extDrew _)
  refine⟨x.a,(B2.ext (extDrew _)).cell 1,b,0,rfl,reg4 ha,rfl,?_⟩
  rw[wrap_of hin.1 hin.2]
  exact(hd.ext E3).setReg ha (stepI_ok hd.ok hst hx hX h.aok hst1) fun w18 hd18 hc18=>hR _ w18 hst1 ⟨_,_,_,_,_,hd18⟩ ((E3.mono fun _ _ h=>h.elim).then hc18 fun _ _ e=>.inl e)
theorem guard_of:InsP 63 8:=by
 intro n0 w c b bm s x R S h hd hx hX hst ho hR hS
 obtain⟨tr,tw,rds,wrs,f,hd⟩:=hd
 have ha:0<=x.a/\x.a<=3:=⟨hx.a0,hx.a3⟩
 have hst1:stepI (stP c.P) c.mr c.mw c.args x s=if rgG s.r x.a<x.X then .inl 7 else .inr s:=by
  unfold stepI;rw[if_neg (by omega),if_neg (by omega),if_neg (by omega),if_neg (by omega),if_neg (by omega),if_neg (by omega),if_neg (by omega)]
 refine .inr (F63_ok _ (insX x) w R S fun b1 w2 a2=>?_)
 have B2:=(Bx.of a2).ext (extDrew _)
 have e2:Ext w w2.drew:=(a2.ch _).trans (extDrew _)
 refine⟨x.a,B2.cell 1,b,0,rfl,reg4 ha,_,hd.reg ha e2,x.X,B2.cell 8,IfB.dec (fun hlt=>fail_of ?_) fun hge=>?_⟩
 ·rw[if_pos hlt] at hst1
  have hX:=hS 7 _ hst1 (e2.mono fun _ _ h=>h.elim)
  first|exact⟨rfl,hX⟩|exact fun _=>⟨rfl,hX⟩
 ·rw[if_neg hge] at hst1
  exact hR s _ hst1 ⟨_,_,_,_,_,hd.ext e2⟩ (e2.mono fun _ _ h=>h.elim)
theorem mpKeys{β:Type}{enc:β->Value}{w:World}{r:Nat}{f:List (Int×β)}(h:Mp enc w r f):∃es ck,w.heap[r]? =some (.map es ck)/\KeysE (some (r,es,ck)) (f.map (·.1)):=by
 obtain⟨es,ck,h1,h2,h3,h4,h5⟩:=h
 refine⟨es,ck,h1,?_,h3,h4,h5⟩
 have:=congrArg (List.map Prod.fst) h2
 rw[List.map_map,List.map_map] at this
 rw[List.map_map];exact this
theorem pw_le_lt{xs:List Int}(h:xs.Pairwise (· <=·))(hn:xs.Nodup):xs.Pairwise (· < ·):=(h.and hn).imp fun⟨h1,h2⟩=>by omega
abbrev RwL:=Sl×List Int
abbrev hR(x:RwL):Value:=slV x.1
theorem srtI_nd{l:List Int}(h:l.Pairwise (· < ·)):l.Nodup:=h.imp fun h=>by omega
theorem cnt_perm{ks:List Int}{lo hi:Int}(hs:ks.Pairwise (· < ·))(hm:∀k,k∈ks↔lo<=k/\k<=hi)(p:Int->Bool):(ks.filter p).length=((ranI lo (hi+1-lo).toNat).filter p).length:=by
 have hp:ks.Perm (ranI lo (hi+1-lo).toNat):=(List.perm_ext_iff_of_nodup (srtI_nd hs) (srtI_nd (ranI_srt _ _))).2 fun k=>by rw[hm,mem_ranI];omega
 exact(hp.filter p).length_eq
theorem scan_of:InsP 59 4:=by
 intro n0 w c b bm s x R S h hd hx hX hst ho hR hS
 obtain⟨tr,tw,rds,wrs,f,hd⟩:=hd
 have hk:=hx.ko (by omega)
 have hkr:=keyAt_range hk h.aok
 have hl:=hx.lo ho
 have hlr:=keyAt_range hl h.aok
 have ha:0<=x.a/\x.a<=3:=⟨hx.a0,hx.a3⟩
 have hlb:=hd.lt
 have hst1:stepI (stP c.P) c.mr c.mw c.args x s=if bq (∀q,keyAt x.K c.args<=q->q<=keyAt x.L c.args->c.mr q)=true then .inr { s with r:=rgS s.r x.a (cntV (stP c.P) s.ch (keyAt x.K c.args) (keyAt x.L c.args)),rd:=fun j=>s.rd j\/(keyAt x.K c.args<=j/\j<=keyAt x.L c.args) } else .inl 9:=by
  unfold stepI;rw[if_neg (by omega),if_neg (by omega),if_neg (by omega),if_pos ho]
 refine .inr (F59_ok _ (insX x) w R S fun b1 w2 a2=>?_)
 have B2:=(Bx.of a2).ext (extDrew _)
 have e2:Ext w w2.drew:=(a2.ch _).trans (extDrew _)
 refine⟨x.K,B2.K,x.L,B2.L,.inl ((key_of (h.ext e2) (hd.ext e2) hk).use ?_)⟩
 rintro _ w6 ⟨rfl,e6⟩
 have E6:Ext w w6:=e2.trans e6
 change 0<=keyAt x.K c.args/\keyAt x.K c.args<=999 at hkr
 obtain⟨lo,hlo⟩:∃lo,lo=keyAt x.K c.args:=⟨_,rfl⟩
 obtain⟨hi,hhi⟩:∃hi,hi=keyAt x.L c.args:=⟨_,rfl⟩
 refine⟨lo,by rw[hlo];rfl,(B2.ext e6).L,.inl ((key_of (h.ext E6) (hd.ext E6) hl).use ?_)⟩
 rintro _ w9 ⟨rfl,e9⟩
 have E9:Ext w w9:=E6.trans e9
 change 0<=keyAt x.L c.args/\keyAt x.L c.args<=999 at hlr
 refine⟨hi,by rw[hhi];rfl,?_⟩
 rw[<-hlo,<-hhi] at hst1
 rw[<-hlo] at hkr
 rw[<-hhi] at hlr
 refine⟨by decide,fun b11 w12 a12=>.inl ((c108 (xs:=[(lo,hi)]) (OwS.new (n:=1) (sz:=2) (cs:=[(lo,hi)].flatMap sv) a12 rfl).rd (by simp)).use ?_)⟩
 rintro _ w14 ⟨t,l,rfl,hN,hl,hol,hll,e14,hbt⟩
 have E14:Ext w w14:=(E9.trans (a12.ch _)).trans e14
 have hl':∀j,hasS l j↔lo<=j/\j<=hi:=fun j=>by rw[hl,hasS_one];unfold mayS;dsimp only;omega
 refine⟨t,rfl,read_of (h.ext E14) (hd.ext E14) hol.rd hN (fun tr' rds' w17 hm hd' hc=>?_) fun w' hm e'=>?_⟩
 rotate_left
 ·have hm':¬ ∀q,lo<=q->q<=hi->c.mr q:=fun hm'=>hm fun k hk=>hm' k ((hl' k).1 hk).1 ((hl' k).1 hk).2
  rw[if_neg (by rw[bq_iff];exact hm')] at hst1
  have hX:=hS 9 w' hst1 ((E14.trans e').mono fun _ _ h=>h.elim)
  first|exact⟨rfl,hX⟩|exact fun _=>⟨rfl,hX⟩
 have hm':∀q,lo<=q->q<=hi->c.mr q:=fun q h1 h2=>hm q ((hl' q).2 ⟨h1,h2⟩)
 rw[ps_rd (q:=fun j=>s.rd j\/(lo<=j/\j<=hi)) fun j=>or_congr Iff.rfl (hl' j)] at hd'
 have hok:=stepI_ok hd.ok hst hx hX h.aok (by rw[hst1,if_pos (bq_iff.2 hm')])
 rw[if_pos (bq_iff.2 hm')] at hst1
 have hC:Ch (fun i=>i=b\/i=bm) w w17:=(E14.mono fun _ _ h=>h.elim).then hc fun _ _ e=>.inl e
 have hs9:=E9.size
 have B17:=(((((B2.ext e6).ext e9).ext (a12.ch _))).ext e14).ch hc fun i e=>e ▸ hlb
 have h17:=h.ch hC hd.hF
 have hs12:=a12.size
 refine⟨(),rfl,.inl ((c109 (hol.ch hc fun j hj e=>by(have:=hbt j hj;omega)).rd (by have:=normS_len hN;omega)).use ?_)⟩
 rintro _ w20 ⟨t21,ks,rfl,hks,hkm,hok20,hkl,e20,_⟩
 have hkm':∀k,k∈ks↔lo<=k/\k<=hi:=fun k=>(hkm k).trans (hl' k)
 have hkn:=hok20.len1
 rw[List.length_map] at hkn
 refine⟨t21,rfl,fun n x' W=>∃i:Nat,i<=ks.length/\n+i=ks.length/\x'=((((ks.take i).filter fun q=>(nowV (stP c.P) s.ch q).isSome).length:Int),(i:Int))/\Ext w20 W,⟨ks.length,0,Nat.zero_le _,rfl,rfl,Ch.refl _ _⟩,?_⟩
 rintro n _ W g ⟨i,hi',hni,rfl,hE⟩
 have E17:Ext w17 W:=e20.trans hE
 unfold F59j1
 refine IfB.dec (fun hlt=>?_) fun hge=>?_
 ·have hi2:i<ks.length:=by have:(i:Int)<(t21.n:Int):=hlt;omega
  have hx':ks[i]? =some ks[i]:=List.getElem?_eq_getElem hi2
  have hmem:=List.getElem_mem hi2
  have htk:=take_succ_get hx'
  have hfl:((ks.take i).filter fun q=>(nowV (stP c.P) s.ch q).isSome).length<=1000:=Nat.le_trans (List.length_filter_le _ _) (by rw[List.length_take];omega)
  generalize ks[i]=q at hx' hmem htk
  have hqr:=(hkm' q).1 hmem
  obtain⟨pb,po,hp,hcq⟩:=rdI_get (hok20.rd.ext hE) hx'
  refine⟨pb,po,hp,⟨by dsimp only;omega,hlt⟩,q,by dsimp only;rw[Int.toNat_natCast];exact hcq,.inl ((value_of (h17.ext E17) (hd'.ext E17) (k:=q) (by omega)).use ?_)⟩
  rintro _ w33 ⟨rfl,e33⟩
  have hn:nowV (stP c.P) ({ s with rd:=fun j=>s.rd j\/(lo<=j/\j<=hi) }:PS).ch q=nowV (stP c.P) s.ch q:=rfl
  refine⟨(_,_),rfl,IfB.intro (fun ht=>?_) fun ht=>?_⟩
  ·have ht':(nowV (stP c.P) s.ch q).isSome=true:=ht
   refine⟨rfl,n-1,by omega,i+1,hi2,by omega,?_,hE.trans e33⟩
   rw[htk,List.filter_append,List.length_append,List.filter_cons_of_pos (p:=fun q=>(nowV (stP c.P) s.ch q).isSome) ht',wrap_of (by dsimp only;omega) (by dsimp only;omega),wrap_of (by dsimp only;omega) (by dsimp only;omega)]
   rfl
  ·have ht':¬(nowV (stP c.P) s.ch q).isSome=true:=by rw[<-hn,show ((nowV (stP c.P) ({ s with rd:=fun j=>s.rd j\/(lo<=j/\j<=hi) }:PS).ch q).isSome)=false from ht];simp
   refine⟨rfl,n-1,by omega,i+1,hi2,by omega,?_,hE.trans e33⟩
   rw[htk,List.filter_append,List.length_append,List.filter_cons_of_neg (p:=fun q=>(nowV (stP c.P) s.ch q).isSome) ht',wrap_of (by dsimp only;omega) (by dsimp only;omega)]
   rfl
 ·have hi2:i=ks.length:=by have:¬(i:Int)<(t21.n:Int):=hge;omega
  subst hi2
  rw[List.take_length]
  have ED:Ext w17 W.drew:=E17.trans (extDrew _)
  refine⟨x.a,(B17.ext ED).cell 1,b,0,rfl,reg4 ha,rfl,?_⟩
  have hcnt:((ks.filter fun q=>(nowV (stP c.P) s.ch q).isSome).length:Int)=cntV (stP c.P) s.ch lo hi:=by unfold cntV;rw[cnt_perm hks hkm']
  dsimp only
  rw[hcnt]
  exact(hd'.ext ED).setReg ha hok fun w18 hd18 hc18=>hR _ w18 hst1 ⟨_,_,_,_,_,hd18⟩ ((hC.then ED fun _ _ h=>h.elim).then hc18 fun _ _ e=>.inl e)
abbrev chL(x:ChD):List Value:=lC47 x
theorem chL_len(x:ChD):(chL x).length=3:=rfl
theorem chL_one(x:ChD):One (chL x):=by intro v hv;simp at hv;rcases hv with rfl|rfl|rfl<;>rfl
structure OutM(n:Nat)(w:World)(tr tw tc:Sl)(o:OutD):Prop where
 rr:OwS w tr 2 (o.rds.flatMap sv)
 ww:OwS w tw 2 (o.wrs.flatMap sv)
 cc:OwS w tc 3 (o.chs.flatMap chL)
 br:∀i∈blk tr,n<=i
 bw:∀i∈blk tw,n<=i
 bc:∀i∈blk tc,n<=i
theorem OutM.ch{n:Nat}{w w':World}{tr tw tc:Sl}{o:OutD}{F:Nat->Prop}(h:OutM n w tr tw tc o)(hc:Ch F w w')(hF:∀i,n<=i->i<w.heap.size->¬F i):OutM n w' tr tw tc o:=
 ⟨h.rr.ch hc fun i hi=>hF i (h.br i hi) (h.rr.lt i hi),h.ww.ch hc fun i hi=>hF i (h.bw i hi) (h.ww.lt i hi),h.cc.ch hc fun i hi=>hF i (h.bc i hi) (h.cc.lt i hi),h.br,h.bw,h.bc⟩
theorem OutM.ext{n:Nat}{w w':World}{tr tw tc:Sl}{o:OutD}(h:OutM n w tr tw tc o)(e:Ext w w'):OutM n w' tr tw tc o:=h.ch e fun _ _ _=>id
abbrev outX(o:OutD)(tr tw tc:Sl):Int×Int×Int×Int×Int×Int×Sl×Sl×Sl:=(o.code,o.at',o.r.1,o.r.2.1,o.r.2.2.1,o.r.2.2.2,tr,tw,tc)
abbrev outL(o:OutD)(tr tw tc:Sl):List Value:=lC27 (outX o tr tw tc)
theorem outL_one(o:OutD)(tr tw tc:Sl):One (outL o tr tw tc):=by intro v hv;simp at hv;rcases hv with rfl|rfl|rfl|rfl|rfl|rfl|rfl|rfl|rfl<;>rfl
theorem F113_eq(l b:Nat)(W:World)(R:RV):F113 l b W R=KeysF Tryz.prog l b W R:=rfl
theorem it113{w:World}{b1:Nat}{mo:MO}{ks:List Int}(hI:KeysI b1 mo w)(hks:KeysE mo ks)(hl:ks.length<=1000000):IntIt 113 #[.pointer (some ⟨b1,0,none⟩)] w fun xs=>xs.Perm ks:=
 keysIt en113 (fun l W R h=>F113_ok l b1 W R (by rw[F113_eq];exact h)) hI hks hl
theorem chKeys{n0:Nat}{w:World}{c:CxD}{b bm:Nat}{s:PS}{tr tw:Sl}{rds wrs:List Spn}{f:List (Int×ChD)}(hd:DoR n0 w c b bm s tr tw rds wrs f){K:RV}
  (hK:∀(t:Sl)(xs:List Int)(w':World),xs.Pairwise (· < ·)->(∀k,k∈xs↔s.ch k≠none)->OwS w' t 1 (xs.map iv)->Ext w w'->(∀j∈blk t,w.heap.size<=j)->K (slV t) w'):
  Cx 65 #[.map (some bm)] w fun v w1=>∃x:Nat×Array Value,v=.func (.func x.1) #[] x.2/\Cx 64 #[.func (.func x.1) #[] x.2] w1 K:=by
 obtain⟨es,ck,hr,hks⟩:=mpKeys hd.map
 have hnd:(f.map (·.1)).Nodup:=hks.2.1
 have hkm:∀k,k∈f.map (·.1)↔s.ch k≠none:=fun k=>by
  rw[getM_key,hd.get]
  cases s.ch k<;>simp
 have hlen:(f.map (·.1)).length<=1000000:=by
  have:=nodup_le (a:=f.map (·.1)) (b:=ranI 0 1000) hnd fun k hk=>by
   rw[mem_ranI]
   have:=hd.ok.wk k ((hd.ok.wr k).2 ((hkm k).1 hk))
   omega
  rw[ranI_len] at this
  omega
 refine CW.use (F65_ok (some bm) w (fun v w'=>∃b1 T,v=.func (.func 113) #[] #[.pointer (some ⟨b1,0,none⟩)]/\IsAlloc w (.cells #[.map (some bm)] T (0,0)) b1 w') fun b1 w' a=>⟨b1,_,rfl,a⟩) ?_
 rintro _ w5 ⟨b1,T,rfl,a5⟩
 have e5:Ext w w5:=a5.ch _
 have hKI:KeysI b1 (some (bm,es,ck)) w5:=⟨⟨T,a5.new⟩,e5.at hr⟩
 refine⟨(113,_),rfl,(sorted_of (it113 hKI hks hlen)).use ?_⟩
 rintro _ w8 ⟨t,xs,ys,rfl,hp,hp2,_,hs,ho,e8,hb⟩
 have hpp:=hp2.trans hp
 exact hK t xs w8 (pw_le_lt hs (hpp.nodup_iff.2 hnd)) (fun k=>hpp.mem_iff.trans (hkm k)) ho (e5.trans e8) fun j hj=>by have:=hb j hj;have:=e5.size;omega
def chOf(s:PS)(ks:List Int):List ChD:=ks.filterMap fun k=>(s.ch k).map fun v=>(k,v)
theorem chOf_snoc{s:PS}{ks:List Int}{k:Int}{v:ChV}(h:s.ch k=some v):chOf s (ks++[k])=chOf s ks++[(k,v)]:=by simp[chOf,h]
theorem chOf_keys{s:PS}{ks:List Int}(h:∀k∈ks,s.ch k≠none):(chOf s ks).map (·.1)=ks:=by
 induction ks with
 | nil=>rfl
 | cons k l ih=>
  cases hc:s.ch k with
  | none=>exact absurd hc (h k (List.mem_cons_self ..))
  | some v=>
   have:chOf s (k::l)=(k,v)::chOf s l:=by simp[chOf,hc]
   rw[this,List.map_cons,ih fun j hj=>h j (List.mem_cons_of_mem _ hj)]
theorem mem_chOf{s:PS}{ks:List Int}(h:∀k,k∈ks↔s.ch k≠none)(c:ChD):c∈chOf s ks↔s.ch c.1=some c.2:=by
 unfold chOf
 rw[List.mem_filterMap]
 constructor
 ·rintro⟨k,hk,e⟩
  cases hc:s.ch k with
  | none=>rw[hc] at e;cases e
  | some v=>rw[hc] at e;cases e;exact hc
 ·intro e
  exact⟨c.1,(h c.1).2 (by rw[e];simp),by rw[e];rfl⟩
theorem chOf_len{s:PS}{ks:List Int}:(chOf s ks).length<=ks.length:=List.length_filterMap_le _ _
theorem c33{n0:Nat}{w:World}{c:CxD}{b bm:Nat}{s:PS}{tr tw:Sl}{rds wrs:List Spn}{f:List (Int×ChD)}(hd:DoR n0 w c b bm s tr tw rds wrs f)(hn:n0<=w.heap.size):
  Cw 33 #[pB b] w fun v w'=>∃tr tw tc o,v=.agg (outL o tr tw tc).toArray/\Done s o/\OutM n0 w' tr tw tc o/\Ext w w':=by
 refine F33_ok _ w _ fun b1 w2 a2=>?_
 have e2:Ext w w2:=a2.ch _
 have eD:Ext w w2.drew:=e2.trans (extDrew _)
 have regs:∀ {W:World},Ext w W->CellsAt W b (0+1) (rgL s.r):=fun{W} e i v hv=>by
  match i,hv with
  | 0,hv=>cases hv;exact(hd.ext e).cell 1
  | 1,hv=>cases hv;exact(hd.ext e).cell 2
  | 2,hv=>cases hv;exact(hd.ext e).cell 3
  | 3,hv=>cases hv;exact(hd.ext e).cell 4
 refine⟨b,0,rfl,s.r,regs eD,b,0,rfl,tr,(hd.ext eD).cell 7,b,0,rfl,tw,(hd.ext eD).cell 8,fun b12 w13 a12=>?_⟩
 have e13:Ext w w13:=eD.trans (a12.ch _)
 refine⟨(hd.ext e13).cell 8,(hd.ext e13).cell 7,regs e13,rfl,store_all a12.new rfl (by intro v hv;simp at hv;rcases hv with rfl|rfl|rfl|rfl|rfl|rfl|rfl|rfl|rfl<;>rfl) fun w14 h14=>?_⟩
 have e14:Ext w w14:=eD.trans (Ext.fresh a12 h14)
 have s2:=a2.size;have p2:=a2.here;have s12:=a12.size;have p12:=a12.here;have s14:=h14.size
 rw[show w2.drew.heap.size=w2.heap.size from rfl] at s12 p12
 refine⟨b,0,rfl,some bm,(hd.ext e14).cell 9,chKeys (hd.ext e14) fun t xs w22 hs hm ho e22 hb=>⟨t,rfl,?_⟩⟩
 have e22':Ext w w22:=e14.trans e22
 have s22:=e22.size
 have htn:=ho.len1
 rw[List.length_map] at htn
 have hkr:∀k∈xs,0<=k/\k<=999:=fun k hk=>hd.ok.wk k ((hd.ok.wr k).2 ((hm k).1 hk))
 have hxl:=srtI_len hs hkr
 have h22:w22.heap[b12]? =some (.cells (outL ⟨0,0,s.r,[],[],[]⟩ tr tw ⟨none,0,0⟩).toArray 27 (0,0)):=e22.at h14.new
 have D14:Ext w2 w14:=(extDrew w2).trans (Ext.fresh a12 h14)
 have h1w:=e22.at (D14.at a2.new)
 have hcm:∀k∈xs,s.ch k≠none:=fun k hk=>(hm k).1 hk
 refine⟨fun n x W=>∃(i:Nat)(so:Sl),i<=xs.length/\n+i=xs.length/\x=(i:Int)/\W.heap[b12]? =some (.cells (outL ⟨0,0,s.r,[],[],[]⟩ tr tw so).toArray 27 (0,0))/\OwS W so 3 ((chOf s (xs.take i)).flatMap chL)/\(∀j∈blk so,w22.heap.size<=j)/\Ch (fun j=>j=b12\/w22.heap.size<=j) w22 W,
  ⟨xs.length,0,⟨none,0,0⟩,Nat.zero_le _,rfl,rfl,h22,.nil _ _,by simp[blk],Ch.refl _ _⟩,?_⟩
 rintro n _ W g ⟨i,so,hi,hni,rfl,h12,hso,hbs,hC⟩
 have eW:Ext w W:=e22'.chN hC fun j hj=>by omega
 have hcl:(chOf s (xs.take i)).length<=i:=Nat.le_trans chOf_len (by rw[List.length_take];omega)
 have hsn:=owsN chL_len (by omega) hso
 unfold F33j1
 refine IfB.dec (fun hlt=>?_) fun hge=>?_
 ·have hi2:i<xs.length:=by omega
  have hx:xs[i]? =some xs[i]:=List.getElem?_eq_getElem hi2
  have hmem:=List.getElem_mem hi2
  have htk:=take_succ_get hx
  generalize xs[i]=k at hx hmem htk
  obtain⟨v,hv⟩:∃v,s.ch k=some v:=Option.ne_none_iff_exists'.1 (hcm k hmem)
  have hoW:=ho.ch hC fun j hj e=>by(have:=hb j hj;have:=ho.lt j hj;omega)
  obtain⟨pb,po,hp,hck⟩:=rdI_get hoW.rd hx
  have eWd:Ext w W.drew:=eW.trans (extDrew _)
  refine⟨pb,po,hp,⟨by omega,hlt⟩,k,by rw[Int.toNat_natCast];exact hck,so,boxAt h12 8 (extDrew _),b,0,rfl,some bm,(hd.ext eWd).cell 9,Mp.get (enc:=chE) (hd.ext eWd).map ?_⟩
  rw[hd.get,hv]
  refine⟨(k,v),rfl,boxAt h12 8 (extDrew _),by decide,fun b41 w42 a42=>?_⟩
  have e42:Ext W w42:=(extDrew W).trans (a42.ch _)
  refine⟨boxAt h12 8 e42,?_⟩
  refine(hso.ext e42).lit (new:=chL (k,v)) (T':=47) a42.new rfl (chL_one _) rfl rfl (by omega) (by decide) fun s' w45 ho' hn' hC' hb'=>?_
  have lt12:=heap_lt h12
  have nb:¬b12∈blk so:=fun h=>by have:=hbs b12 h;omega
  have h45:=hC'.at (e42.at h12) nb
  refine⟨rfl,store_one h45 (by simp) rfl fun w46 h46=>⟨rfl,n-1,by omega,i+1,s',hi2,by omega,by rw[wrap_of (by omega) (by omega)];rfl,?_,?_,?_,?_⟩⟩
  ·rw[h46.new];rfl
  ·rw[htk,chOf_snoc hv,List.flatMap_append]
   refine(show OwS w45 s' 3 _ from by simpa using ho').ch h46.ch fun j hj e=>?_
   rcases hb' j hj with h|h
   ·have:=hbs j h;omega
   ·have:=e42.size;omega
  ·intro j hj
   rcases hb' j hj with h|h
   ·exact hbs j h
   ·have:=e42.size;have:=hC.size;omega
  ·exact((hC.then e42 fun _ _ h=>h.elim).then hC' fun j _ h=>.inr (hbs j h)).then h46.ch fun j _ h=>.inl h
 ·have hi2:i=xs.length:=by omega
  subst hi2
  rw[List.take_length] at hso
  unfold F33k1
  have h1W:=hC.at h1w (by omega)
  refine⟨outX ⟨0,0,s.r,[],[],[]⟩ tr tw so,boxAll h12 (Ch.refl _ _),rfl,store_all h1W rfl (outL_one _ _ _ _) fun w49 h49=>⟨outX ⟨0,0,s.r,[],[],[]⟩ tr tw so,boxAll h49.new (Ch.refl _ _),?_⟩⟩
  have e49:Ext w w49:=eW.chN h49.ch fun j e=>by omega
  have hd49:=hd.ext e49
  refine⟨tr,tw,so,⟨0,0,s.r,rds,wrs,chOf s xs⟩,rfl,⟨rfl,rfl,rfl,hd.nr,hd.hr,hd.nw,hd.hw,by rw[chOf_keys hcm];exact hs,mem_chOf hm⟩,⟨hd49.rr,hd49.ww,hso.ch h49.ch fun j hj e=>(by have:=hbs j hj;omega),fun j hj=>(hd.br j hj).1,fun j hj=>(hd.bw j hj).1,fun j hj=>(by have:=hbs j hj;omega)⟩,e49⟩
def RightP(code:List InsD)(foot:List SpTD)(args:List Int):Prop:=ArgsOk args/\(code=[]\/CodeOk code args.length)/\FootOk foot args.length
theorem c28{w:World}{tc tf ta:Sl}{code:List InsD}{foot:List SpTD}{args:List Int}(hc:Rd w tc 9 (code.flatMap insC))(hf:Rd w tf 5 (foot.flatMap spTC))(ha:Rd w ta 1 (args.map iv)):
  Cw 28 #[.agg #[slV tc,slV tf],slV ta] w fun v w'=>∃r,v=.bool r/\(r=true↔RightP code foot args)/\Ext w w':=by
 have hn:=rdI ha
 have hcn:tc.n=code.length:=rdN insC_len (by omega) hc
 refine F28_ok (tc,tf) ta w _ fun b1 w2 a2=>?_
 have e2:Ext w w2:=a2.ch _
 have h1:w2.heap[b1]? =some (.cells [slV tc,slV tf].toArray _ (0,0)):=a2.new
 refine(c51 (-1,0) (ha.ext e2)).use ?_
 rintro _ w4 ⟨n,r,rfl,hr,_,e4⟩
 have E4:=e2.trans e4
 have hk:KeyOk (-1,0) (args.length:Int):=⟨by decide,by show (-1:Int)<_;omega,by decide,by decide⟩
 refine⟨(n,r),rfl,IfB.intro (fun hr1=>?_) fun hr1=>⟨false,rfl,⟨fun h=>(by cases h),fun h=>?_⟩,E4⟩⟩
 rotate_left
 ·have:r=false:=hr1
  rw[hr.2 ⟨hk,h.1⟩] at this;cases this
 have hao:=(hr.1 hr1).2
 refine⟨tc,boxAt h1 0 e4,IfB.intro (fun h0=>⟨tf,boxAt h1 1 e4,?_⟩) fun h0=>⟨tc,boxAt h1 0 e4,(c52 (hc.ext E4) (ta.n:Int)).use ?_⟩⟩
 ·have hz:(tc.n:Int)=0:=by simpa using h0
  have hc0:code=[]:=List.length_eq_zero_iff.1 (by omega)
  refine(c53 (hf.ext E4) (ta.n:Int)).use ?_
  rintro _ w9 ⟨r9,rfl,hr9,e9⟩
  rw[hn] at hr9
  exact⟨r9,rfl,r9,rfl,hr9.trans ⟨fun h=>⟨hao,.inl hc0,h⟩,fun h=>h.2.2⟩,E4.trans e9⟩
 ·have hc0:code≠[]:=fun e=>by
   subst e
   have:tc.n=0:=hcn
   rw[show ((tc.2:Int) == 0)=((tc.n:Int) == 0) from rfl,this] at h0
   cases h0
  rintro _ w13 ⟨r13,rfl,hr13,e13⟩
  rw[hn] at hr13
  have E13:=E4.trans e13
  refine⟨r13,rfl,IfB.intro (fun h13=>⟨tf,boxAt h1 1 (e4.trans e13),(c53 (hf.ext E13) (ta.n:Int)).use ?_⟩) fun h13=>⟨false,rfl,⟨fun h=>(by cases h),fun h=>?_⟩,E13⟩⟩
  ·rintro _ w17 ⟨r17,rfl,hr17,e17⟩
   rw[hn] at hr17
   exact⟨r17,rfl,r17,rfl,hr17.trans ⟨fun h=>⟨hao,.inr (hr13.1 h13),h⟩,fun h=>h.2.2⟩,E13.trans e17⟩
  ·rcases h.2.1 with h|h
   ·exact absurd h hc0
   ·rw[hr13.2 h] at h13;cases h13
abbrev dosL:List Value:=[.nilFunc,.func (.func 56) #[] #[],.func (.func 57) #[] #[],.func (.func 58) #[] #[],.func (.func 59) #[] #[],.func (.func 60) #[] #[],.func (.func 61) #[] #[],.func (.func 62) #[] #[],.func (.func 63) #[] #[]]
theorem dosL_one:One dosL:=by intro v hv;simp at hv;rcases hv with rfl|rfl|rfl|rfl|rfl|rfl|rfl|rfl|rfl<;>rfl
theorem c32(w:World):Cw 32 #[] w fun v w'=>v=.agg dosL.toArray/\Ext w w':=by
 refine F32_ok w _ fun b1 w2 a2=>⟨rfl,store_all a2.new rfl dosL_one fun w3 h3=>⟨dosL,?_,rfl,Ext.fresh a2 h3⟩⟩
 show CellsAt w3 b1 0 dosL
 exact boxAll h3.new (Ch.refl _ _)
theorem dos_at{o:Int}(h1:1<=o)(h8:o<=8):∃g,dosL[o.toNat]? =some (.func (.func g) #[] #[])/\InsP g o:=by
 have:o=1\/o=2\/o=3\/o=4\/o=5\/o=6\/o=7\/o=8:=by omega
 rcases this with rfl|rfl|rfl|rfl|rfl|rfl|rfl|rfl
 ·exact⟨_,rfl,get_of⟩
 ·exact⟨_,rfl,put_of⟩
 ·exact⟨_,rfl,gone_of⟩
 ·exact⟨_,rfl,scan_of⟩
 ·exact⟨_,rfl,set_of⟩
 ·exact⟨_,rfl,add_of⟩
 ·exact⟨_,rfl,sub_of⟩
 ·exact⟨_,rfl,guard_of⟩
theorem c14{w:World}{tc tf ta:Sl}{code:List InsD}{foot:List SpTD}{args:List Int}{r:Rg}{bS:Nat}{P:List (List Pr)}{asked:Bool}
  (hc:Rd w tc 9 (code.flatMap insC))(hf:Rd w tf 5 (foot.flatMap spTC))(ha:Rd w ta 1 (args.map iv))(hS:StA (fun i=>i<w.heap.size) w bS P)(hI:Inv P)(hst:∀k v,stP P k=some v->I64 v)(hr:RgOk r)(hX:∀x∈code,I64 x.X):
  Cw 14 #[.agg #[slV tc,slV tf],slV ta,.agg (rgL r).toArray,.pointer (some ⟨bS,0,none⟩),.bool asked] w fun v w'=>∃tr tw th o,v=.agg (outL o tr tw th).toArray/\
   IsOut (RightP code foot args) (stP P) (fun k=>asked=false\/hasS (footR foot args) k) (fun k=>asked=false\/hasS (footW foot args) k) args code r o/\OutM w.heap.size w' tr tw th o/\Ext w w':=by
 have hcn:tc.n=code.length:=rdN insC_len (by omega) hc
 refine F14_ok (tc,tf) ta r (some ⟨bS,0,none⟩) asked w _ DrS drS_ok fun b1 w2 a2 b3 w4 a4 b5 w6 a6 b7 w8 a8 b9 w10 a10=>?_
 have s2:=a2.size;have s4:=a4.size;have s6:=a6.size;have s8:=a8.size;have s10:=a10.size
 have p2:=a2.here;have p4:=a4.here;have p6:=a6.here;have p8:=a8.here;have p10:=a10.here
 have e10:Ext w w10:=((((a2.ch _).trans (a4.ch _)).trans (a6.ch _)).trans (a8.ch _)).trans (a10.ch _)
 have x4:Ext w4 w10:=((a6.ch _).trans (a8.ch _)).trans (a10.ch _)
 have x6:Ext w6 w10:=(a8.ch _).trans (a10.ch _)
 have x8:Ext w8 w10:=a10.ch _
 have x2:Ext w2 w10:=(a4.ch _).trans x4
 have h1:w10.heap[b1]? =some (.cells [slV tc,slV tf].toArray _ (0,0)):=x2.at a2.new
 have h3:w10.heap[b3]? =some (.cells [slV ta].toArray _ (0,0)):=x4.at a4.new
 have h5:w10.heap[b5]? =some (.cells (rgL r).toArray _ (0,0)):=x6.at a6.new
 have h7:w10.heap[b7]? =some (.cells [.bool asked].toArray _ (0,0)):=x8.at a8.new
 have h9:=a10.new
 refine⟨(tc,tf),boxAll h1 (Ch.refl _ _),ta,boxAt h3 0 (Ch.refl _ _),.inl ((c28 (hc.ext e10) (hf.ext e10) (ha.ext e10)).use ?_)⟩
 rintro _ w14 ⟨rr,rfl,hrr,e14⟩
 have E14:Ext w w14:=e10.trans e14
 have s14:=e14.size
 refine⟨rr,rfl,IfB.intro (fun hn=>?_) fun hn=>?_⟩
 ·have hn:¬RightP code foot args:=fun h=>by rw[hrr.2 h] at hn;cases hn
  refine⟨r,boxAll h5 e14,rfl,store_all (e14.at h9) rfl (outL_one ⟨1,0,r,[],[],[]⟩ ⟨none,0,0⟩ ⟨none,0,0⟩ ⟨none,0,0⟩) fun w17 h17=>⟨outX ⟨1,0,r,[],[],[]⟩ ⟨none,0,0⟩ ⟨none,0,0⟩ ⟨none,0,0⟩,boxAll h17.new (Ch.refl _ _),?_⟩⟩
  exact⟨_,_,_,⟨1,0,r,[],[],[]⟩,rfl,⟨fun _=>rfl,fun h=>absurd h hn⟩,⟨.nil _ _,.nil _ _,.nil _ _,by simp[blk],by simp[blk],by simp[blk]⟩,E14.chN h17.ch fun j e=>by omega⟩
 have hok:RightP code foot args:=hrr.1 (by simpa using hn)
 unfold F14k1
 intro b19 w20 a20
 refine⟨rfl,store_all a20.new rfl (oneIv 0) fun w21 h21=>?_⟩
 have e21:Ext w14 w21:=Ext.fresh a20 h21
 have E21:Ext w10 w21:=e14.trans e21
 have s20:=a20.size;have p20:=a20.here;have s21:=h21.size
 refine⟨ta,boxAt h3 0 E21,r,boxAll h5 E21,fun b24 w25 a24 b26 w27 a26=>⟨b26,0,rfl,rfl,store_one a26.new (by simp) rfl fun w30 h30=>?_⟩⟩
 have s25:=a24.size;have p24:=a24.here;have s27:=a26.size;have p26:=a26.here;have s30:=h30.size
 have e30:Ext w21 w30:=((a24.ch _).trans (a26.ch _):Ext w21 w27).chN h30.ch fun j e=>by omega
 obtain⟨c,hcd⟩:∃c:CxD,c=⟨b1,b3,b7,bS,tc,tf,ta,code,foot,args,asked,P⟩:=⟨_,rfl⟩
 have E30:Ext w10 w30:=E21.trans e30
 have EW30:Ext w w30:=e10.trans E30
 have stC:StC w14.heap.size w30 c:=by
  subst hcd
  exact⟨⟨_,E30.at h1⟩,⟨_,E30.at h3⟩,⟨_,E30.at h7⟩,by show b1<_;omega,by show b3<_;omega,by show b7<_;omega,hc.ext EW30,fun h0 i hi=>(by have:=rd_lt hc (by omega) h0 i hi;omega),hf.ext EW30,fun h0 i hi=>(by have:=rd_lt hf (by omega) h0 i hi;omega),ha.ext EW30,fun h0 i hi=>(by have:=rd_lt ha (by omega) h0 i hi;omega),(hS.ext EW30).mono fun i _ hi=>(by have hi:i<w.heap.size:=hi;show i<_;omega),hI,hok.2.2,hok.1⟩
 have doM:DoM w21.heap.size w30 c b26 b24 (ps0 r):=by
  subst hcd
  refine⟨⟨none,0,0⟩,⟨none,0,0⟩,[],[],[],⟨_,h30.new⟩,.nil _ _,⟨.nil,by simp⟩,fun k=>by simp[hasS,ps0],by simp[blk],.nil _ _,⟨.nil,by simp⟩,fun k=>by simp[hasS,ps0],by simp[blk],(((Mp.new (enc:=chE) a24).ext (a26.ch _)).ch h30.ch fun e=>by omega),fun k=>rfl,by omega,by omega,by omega,ps0_ok hr⟩
 refine .inl ((c32 w30).use ?_)
 rintro _ w32 ⟨rfl,e32⟩
 refine⟨dosL,rfl,fun b34 w35 a34=>⟨rfl,store_all a34.new rfl dosL_one fun w36 h36=>?_⟩⟩
 have e36:Ext w30 w36:=e32.trans (Ext.fresh a34 h36)
 have s32:=e32.size;have s35:=a34.size;have p34:=a34.here;have s36:=h36.size
 have E36:Ext w10 w36:=E30.trans e36
 have EW36:Ext w w36:=e10.trans E36
 have E2136:Ext w21 w36:=e30.trans e36
 obtain⟨tr0,tw0,rds0,wrs0,f0,doR⟩:=doM
 have h19:w36.heap[b19]? =some (.cells [iv 0].toArray _ (0,0)):=E2136.at h21.new
 have h34:w36.heap[b34]? =some (.cells dosL.toArray _ (0,0)):=h36.new
 have hcl:code.length<=8:=by
  rcases hok.2.1 with h|h
  ·subst h;simp
  ·exact h.l8
 have hcok:∀x∈code,InsOk x args.length:=fun x hx=>by
  rcases hok.2.1 with h|h
  ·subst h;cases hx
  ·exact h.all x hx
 have cP:c.P=P:=by rw[hcd]
 have cA:c.args=args:=by rw[hcd]
 have cR:c.mr=fun k=>asked=false\/hasS (footR foot args) k:=by rw[hcd];rfl
 have cW:c.mw=fun k=>asked=false\/hasS (footW foot args) k:=by rw[hcd];rfl
 rw[<-cR,<-cW]
 have stC36:StC w14.heap.size w36 c:=stC.ext e36
 have hh9:=E36.at h9
 have hh5:=E36.at h5
 refine⟨tc,boxAt h1 0 E36,fun n x W=>∃(i:Nat)(s:PS),i<=code.length/\n+i=code.length/\x=(i:Int)/\runI (stP P) c.mr c.mw args (code.take i) 0 (ps0 r)=.inr s/\DoM w21.heap.size W c b26 b24 s/\(∃a:Int,W.heap[b19]? =some (.cells [iv a].toArray 3 (0,0)))/\Ch (fun j=>j=b19\/j=b26\/j=b24) w36 W,
  ⟨code.length,0,ps0 r,Nat.zero_le _,rfl,rfl,rfl,⟨_,_,_,_,_,doR.ext e36⟩,⟨0,h19⟩,Ch.refl _ _⟩,?_⟩
 rintro n _ W g ⟨i,s,hi,hni,rfl,hrun,hdo,⟨a19,h19W⟩,hC⟩
 have EW:Ext w W:=EW36.chN hC fun j hj=>by omega
 have stW:StC w14.heap.size W c:=stC36.ch hC fun j hj=>by omega
 have hsW:=hC.size
 have hW9:=hC.at hh9 (by omega)
 have hW5:=hC.at hh5 (by omega)
 unfold F14j1
 refine IfB.dec (fun hlt=>?_) fun hge=>?_
 ·have hi2:i<code.length:=by omega
  have hx:code[i]? =some code[i]:=List.getElem?_eq_getElem hi2
  have hmem:=List.getElem_mem hi2
  generalize code[i]=x at hx hmem
  have hxo:=hcok x hmem
  have hxX:=hX x hmem
  obtain⟨pb,po,hp,hcx⟩:=(hc.ext EW).elem (i:=i) (by omega) (by omega) (flatGet insC_len hx)
  unfold F14k3
  refine⟨pb,po,hp,⟨by omega,hlt⟩,insX x,by rw[Int.toNat_natCast];exact hcx,fun b48 w49 a48=>⟨rfl,store_all a48.new rfl (insC_one x) fun w50 h50=>⟨rfl,?_⟩⟩⟩
  have e50:Ext W w50:=Ext.fresh a48 h50
  have p48:=a48.here;have s49:=a48.size;have s50:=h50.size
  refine store_one (e50.at h19W) (by simp) rfl fun w51 h51=>?_
  have k48:w51.drew.heap[b48]? =some (.cells (insC x).toArray _ (0,0)):=h51.ch.at h50.new (by omega)
  have C51:Ch (fun j=>j=b19) W w51.drew:=((e50.mono fun _ _ h=>h.elim).then h51.ch fun _ _ h=>h).thenExt (extDrew _)
  have k19:w51.drew.heap[b19]? =some (.cells [iv (i:Int)].toArray 3 (0,0)):=by show w51.heap[b19]? =_;rw[h51.new];rfl
  have k34:w51.drew.heap[b34]? =some (.cells dosL.toArray _ (0,0)):=C51.at (hC.at h34 (by omega)) (by omega)
  have k9:=C51.at hW9 (by omega)
  have k5:=C51.at hW5 (by omega)
  have s51:w51.drew.heap.size=w50.heap.size:=h51.size
  have hdo':DoM w21.heap.size w51.drew c b26 b24 s:=by
   obtain⟨tr,tw,rds,wrs,f,⟨T,d1⟩,d2,d3,d4,d5,d6,d7,d8,d9,d10,d11,d12,d13,d14,d15⟩:=hdo
   exact⟨tr,tw,rds,wrs,f,⟨T,C51.at d1 (by omega)⟩,d2.ch C51 fun j hj e=>(by have:=(d5 j hj).1;omega),d3,d4,d5,d6.ch C51 fun j hj e=>(by have:=(d9 j hj).1;omega),d7,d8,d9,d10.ch C51 (by omega),d11,d12,d13,d14,d15⟩
  obtain⟨gf,hgf,hins⟩:=dos_at hxo.o1 hxo.o8
  have st51:StC w21.heap.size w51.drew c:=(stW.ch C51 fun j hj=>by omega).mono (by omega)
  have hop:x.1.toNat<9:=by have:=hxo.o8;omega
  refine⟨x.1,boxAt k48 0 (Ch.refl _ _),⟨by have:=hxo.o1;omega,by have:=hxo.o8;omega⟩,(gf,#[]),by rw[boxAt k34 x.1.toNat (Ch.refl _ _)];exact hgf,insX x,boxAll k48 (Ch.refl _ _),?_⟩
  refine hins (s:=s) st51 hdo' (by rw[cA];exact hxo) hxX (by rw[cP];exact hst) rfl (fun s' w56 hst' hd56 hC56=>?_) fun e w60 hst' hC60=>?_
  ·rw[cP,cA] at hst'
   refine⟨(),rfl,rfl,n-1,by omega,i+1,s',hi2,by omega,by rw[wrap_of (by omega) (by omega)];rfl,runI_next hx hrun hst',hd56,⟨(i:Int),hC56.at k19 (by omega)⟩,?_⟩
   exact(hC.then C51 fun j _ e=>.inl e).then hC56 fun j _ e=>.inr e
  ·rw[cP,cA] at hst'
   have r19:=hC60.at k19 (by omega)
   have r9:=hC60.at k9 (by omega)
   have r5:=hC60.at k5 (by omega)
   have s60:=hC60.size
   have E60:Ext w w60:=(EW.chN C51 fun j e=>by omega).chN hC60 fun j e=>by omega
   have hfail:=runI_fail hx hrun hst'
   refine fun _=>⟨b19,b5,b9,rfl,e,rfl,false,eqErr _ _,IfB.yes rfl ⟨rfl,fun b2 v3 a=>⟨rfl,store_all a.new rfl (oneIv e) fun v4 h4=>IfB.no rfl ?_⟩⟩⟩
   have e4:Ext w60 v4:=Ext.fresh a h4
   refine⟨e,by rw[cell_of h4.new];rfl,(i:Int),boxAt r19 0 e4,r,boxAll r5 e4,rfl,store_all (e4.at r9) rfl (outL_one ⟨e,(i:Int),r,[],[],[]⟩ ⟨none,0,0⟩ ⟨none,0,0⟩ ⟨none,0,0⟩) fun v8 h8=>⟨rfl,outX ⟨e,(i:Int),r,[],[],[]⟩ ⟨none,0,0⟩ ⟨none,0,0⟩ ⟨none,0,0⟩,boxAll h8.new (Ch.refl _ _),?_⟩⟩
   refine⟨_,_,_,⟨e,(i:Int),r,[],[],[]⟩,rfl,⟨fun h=>absurd hok h,fun _=>by rw[hfail]⟩,⟨.nil _ _,.nil _ _,.nil _ _,by simp[blk],by simp[blk],by simp[blk]⟩,(E60.trans e4).chN h8.ch fun j e=>by omega⟩
 ·have hi2:i=code.length:=by omega
  subst hi2
  rw[List.take_length] at hrun
  obtain⟨tr,tw,rds,wrs,f,hd⟩:=hdo
  unfold F14k2
  refine .inl ((c33 hd (by omega)).use ?_)
  rintro _ w65 ⟨tr',tw',th',o,rfl,hD,hO,e65⟩
  have k9:=e65.at hW9
  refine⟨outX o tr' tw' th',rfl,rfl,store_all k9 rfl (outL_one o tr' tw' th') fun w67 h67=>⟨b19,b5,b9,rfl,outX o tr' tw' th',boxAll h67.new (Ch.refl _ _),?_⟩⟩
  have hO':=hO.ch h67.ch fun j hj _ e=>by omega
  refine⟨tr',tw',th',o,rfl,⟨fun h=>absurd hok h,fun _=>by rw[hrun];exact hD⟩,⟨hO'.rr,hO'.ww,hO'.cc,fun j hj=>(by have:=hO'.br j hj;omega),fun j hj=>(by have:=hO'.bw j hj;omega),fun j hj=>(by have:=hO'.bc j hj;omega)⟩,(EW.trans e65).chN h67.ch fun j e=>by omega⟩
theorem prV_one(x:Pr):One [.int .i64 x.1,.int .i64 x.2]:=by intro v hv;simp at hv;rcases hv with rfl|rfl<;>rfl
def putL(P:List (List Pr))(l:List Pr):List (List Pr):=l.foldl (fun P x=>if 0<=x.1/\x.1<=999 then putP P x.1 x.2 else P) P
theorem putL_inv:∀ {l:List Pr}{P:List (List Pr)},Inv P->Inv (putL P l)
 | [],_,h=>h
 | x::l,P,h=>by
  show Inv (putL (if 0<=x.1/\x.1<=999 then putP P x.1 x.2 else P) l)
  split
  ·rename_i hk;exact putL_inv (putP_inv h hk)
  ·exact putL_inv h
theorem putL_snoc(P:List (List Pr))(l:List Pr)(x:Pr):putL P (l++[x])=if 0<=x.1/\x.1<=999 then putP (putL P l) x.1 x.2 else putL P l:=by
 unfold putL;rw[List.foldl_append];rfl
theorem c13{w:World}{t:Sl}{xs:List Pr}(ht:Rd w t 2 (prs xs))(hl:xs.length<=1000000):
  Cw 13 #[slV t] w fun r w'=>∃b',r=.pointer (some ⟨b',0,none⟩)/\StA (fun i=>w.heap.size<=i) w' b' (putL [] xs)/\Ext w w':=by
 have htn:t.n=xs.length:=by have:=ht.1;rw[prs_len] at this;omega
 refine F13_ok t w _ ?_
 intro b1 w2 h2
 have e2:Ext w w2:=h2.ch _
 have hh:=h2.here
 refine⟨fun n x w5=>∃i:Nat,i<=xs.length/\n+i=xs.length/\x=(i:Int)/\StA (fun i=>w.heap.size<=i) w5 b1 (putL [] (xs.take i))/\Ext w w5,⟨xs.length,0,Nat.zero_le _,rfl,rfl,⟨⟨none,0,0⟩,[],⟨⟨_,h2.new⟩,.nil _ _,by simp,by simp,by simp,by simp[blk]⟩,rfl,?_⟩,e2⟩,?_⟩
 ·rintro j (rfl|h|⟨x,hx,h⟩)
  ·omega
  ·simp[blk] at h
  ·simp at hx
 rintro n _ w5 g ⟨i,hi,hni,rfl,hS5,e5⟩
 unfold F13j1
 refine IfB.dec (fun hlt=>?_) (fun hge=>?_)
 ·have hi':i<xs.length:=by omega
  have hx:xs[i]? =some xs[i]:=List.getElem?_eq_getElem hi'
  generalize xs[i]=x at hx
  obtain⟨a,o,ha,hca⟩:=(ht.ext e5).elem (i:=i) (by omega) (by decide) (prs_elem hx)
  refine⟨a,o,ha,(⟨by omega,by omega⟩:(0:Int)<=(i:Int)/\(i:Int)<(t.n:Int)),x,by rw[Int.toNat_natCast];exact hca,fun b13 w14 h14=>⟨rfl,store_all h14.new rfl (prV_one x) fun w15 h15=>?_⟩⟩
  have e15:Ext w5 w15:=Ext.fresh h14 h15
  refine⟨x.1,by rw[cell_of h15.new];rfl,x.2,by rw[cell_of h15.new];rfl,(c17 (hS5.ext e15) (putL_inv Inv.nil) x.1 x.2).use ?_⟩
  rintro _ w19 ⟨rfl,hS19,hc19⟩
  have hsz:=(e5.trans e15).size
  refine⟨_,rfl,rfl,n-1,by omega,i+1,hi',by omega,by rw[wrap_of (by omega) (by omega)];rfl,?_,?_⟩
  ·rw[take_succ_get hx,putL_snoc]
   exact hS19.mono fun j _ hj=>hj.elim id fun h=>by omega
  ·exact(e5.trans e15).then hc19 fun j hj h=>by omega
 ·have hi':i=xs.length:=by omega
  rw[hi',List.take_length] at hS5
  exact⟨b1,rfl,hS5,e5⟩
theorem mem_insS_iff{l:List Pr}{k v:Int}{x:Pr}(h:Srt l):x∈insS l k v↔x=(k,v)\/(x∈l/\x.1≠k):=by
 unfold insS
 rw[List.mem_append,List.mem_cons]
 constructor
 ·rintro(hx|rfl|hx)
  ·exact .inr ⟨(List.takeWhile_sublist _).subset hx,by have:=tw_lt hx;omega⟩
  ·exact .inl rfl
  ·exact .inr ⟨(List.dropWhile_sublist _).subset hx,by have:=srt_drop_le h x hx;omega⟩
 ·rintro(rfl|⟨hx,hk⟩)
  ·exact .inr (.inl rfl)
  ·rcases Int.lt_or_lt_of_ne hk with hk|hk
   ·left
    have:x∈l.takeWhile (lt1 k)++l.dropWhile (lt1 k):=by rw[List.takeWhile_append_dropWhile];exact hx
    rcases List.mem_append.1 this with h1|h1
    ·exact h1
    ·have:=srt_drop_lt h x h1;omega
   ·right;right
    have:x∈l.takeWhile (le1 k)++l.dropWhile (le1 k):=by rw[List.takeWhile_append_dropWhile];exact hx
    rcases List.mem_append.1 this with h1|h1
    ·have:x.1<=k:=by simpa [le1] using takeWhile_mem h1
     omega
    ·exact h1
theorem srt_unique{l:List Pr}{k u v:Int}(h:Srt l)(h1:(k,u)∈l)(h2:(k,v)∈l):u=v:=by
 induction l with
 | nil=>cases h1
 | cons x l ih=>
  obtain⟨ha1,ha2⟩:=srt_cons.1 h
  rcases List.mem_cons.1 h1 with e1|g1
  ·rcases List.mem_cons.1 h2 with e2|g2
   ·simpa using congrArg Prod.snd (e1.trans e2.symm)
   ·have:=ha1 _ g2;rw[<-e1] at this;simp at this
  ·rcases List.mem_cons.1 h2 with e2|g2
   ·have:=ha1 _ g1;rw[<-e2] at this;simp at this
   ·exact ih ha2 g1 g2
theorem has_iff{P:List (List Pr)}(hI:Inv P)(k:Int):hasP P k=true↔∃v,(k,v)∈P.flatten:=by
 by_cases hne:P=[]
 ·subst hne;rw[hasP_nil];simp
 ·exact(atP_is hI hne k).has
theorem valP_is{P:List (List Pr)}(hI:Inv P){k v:Int}(h:(k,v)∈P.flatten):valP P k=v:=by
 have hh:=(has_iff hI k).2 ⟨v,h⟩
 obtain⟨u,hu⟩:=isP_iff.1 hh
 have hne:P≠[]:=fun e=>by subst e;simp at h
 have hm:(k,u)∈P.flatten:=List.mem_flatten.2 ⟨P.getD (atP P k) [],by
  rw[<-List.getElem_eq_getD (h:=atP_lt hne k)];exact List.getElem_mem _,List.mem_of_getElem? hu⟩
 unfold valP
 rw[hu]
 exact srt_unique hI.sorted hm h
def F41j1(t0:Sl)(t1:Sl)(R:RV)(y1:Nat->Int->World->Prop)(b3:Nat)(n4:Int)(w5:World):Prop:=IfB (decide (n4<(t0.n:Int))) (Qx t0.1 n4 (t0.2:Int) fun b8 b9=>∃(x10:Int×Bool×Int),CellsAt w5.drew b8 (b9+n4.toNat*3) (lC47 x10)/\Qx t1.1 n4 (t1.2:Int) fun b11 b12=>∃(x13:Int×Bool×Int),CellsAt w5.drew b11 (b12+n4.toNat*3) (lC47 x13)/\∃t14:Bool,EqAt Tryz.prog 47 ((.agg (lC47 x10).toArray)) ((.agg (lC47 x13).toArray)) t14/\IfB (!t14) (R (Value.bool false) w5.drew) (([]:List Df)=[]/\∃b15:Nat,b15<b3/\y1 b15 (IntKind.i64.wrap (n4+1)) w5.drew)) (R (Value.bool true) w5)
theorem F41_ok(t0:Sl)(t1:Sl)(w:World)(R:RV)(h:IfB ((t0.2:Int) != (t1.2:Int)) (R (Value.bool false) w) (Ql (α:=Int) 0 w fun y1 b3 n4 w5=>(F41j1 t0 t1 R y1 b3 n4 w5))):Cw 41 #[Qy t0,Qy t1] w R:=
 ckF Tryz.func41 (nd (nd (.node (nd (.loop [(5,oi)] (rg [4,5,11,25]) (nd (.node (.node (.draw (sts [0,1,2,3,4,5,6,7,8] .fin)) .nil) .nil)))) .nil))) h (by kernel_rfl) (by kernel_rfl)
theorem F18_ok(t0:Int×Int×Int×Int×Int×Int×Sl×Sl×Sl)(t1:Int×Int×Int×Int×Int×Int×Sl×Sl×Sl)(w:World)(R:RV)(h:AllocP w (Obj.cells (lC27 t0).toArray 27) fun b1 w2=>AllocP w2 (Obj.cells (lC27 t1).toArray 27) fun b3 w4=>Qi w4 b1 (0+0) fun n5=>Qi w4 b3 (0+0) fun n6=>IfB (n5 == n6) (Qi w4 b1 (0+1) fun n7=>Qi w4 b3 (0+1) fun n8=>IfB (n7 == n8) (∃(x9:Int×Int×Int×Int),CellsAt w4 b1 (0+2) [Qz x9.1,Qz x9.snd.1,Qz x9.snd.snd.1,Qz x9.snd.snd.2]/\∃(x10:Int×Int×Int×Int),CellsAt w4 b3 (0+2) [Qz x10.1,Qz x10.snd.1,Qz x10.snd.snd.1,Qz x10.snd.snd.2]/\∃t11:Bool,EqAt Tryz.prog 23 (Value.agg #[Qz x9.1,Qz x9.snd.1,Qz x9.snd.snd.1,Qz x9.snd.snd.2]) (Value.agg #[Qz x10.1,Qz x10.snd.1,Qz x10.snd.snd.1,Qz x10.snd.snd.2]) t11/\IfB t11 (Qs w4 b1 (0+6) fun s12=>Qs w4 b3 (0+6) fun s13=>Qv' 40 #[Qy s12,Qy s13] w4 fun t16 w15=>IfB t16 (Qs w15 b1 (0+7) fun s17=>Qs w15 b3 (0+7) fun s18=>Qv' 40 #[Qy s17,Qy s18] w15 fun t21 w20=>IfB t21 (Qs w20 b1 (0+8) fun s22=>Qs w20 b3 (0+8) fun s23=>Qv' 41 #[Qy s22,Qy s23] w20 fun t26 w25=>R (Value.bool t26) w25) (R (Value.bool false) w20)) (R (Value.bool false) w15)) (R (Value.bool false) w4)) (R (Value.bool false) w4)) (R (Value.bool false) w4)):Cw 18 #[(.agg (lC27 t0).toArray),(.agg (lC27 t1).toArray)] w R:=
 ckF Tryz.func18 .nil h (by kernel_rfl) (by kernel_rfl)
def updM(st:Int->Option Int)(k:Int)(v:Option Int)(j:Int):Option Int:=if j=k then v else st j
def ofL(st:Int->Option Int):List Pr->Int->Option Int
 | []=>st
 | x::l=>ofL (if 0<=x.1/\x.1<=999 then updM st x.1 (some x.2) else st) l
theorem stP_iff{P:List (List Pr)}(hI:Inv P)(k v:Int):stP P k=some v↔(k,v)∈P.flatten:=by
 unfold stP
 constructor
 ·intro h
  split at h
  ·rename_i hk
   cases h
   obtain⟨u,hu⟩:=(has_iff hI k).1 hk.2.2
   rw[valP_is hI hu];exact hu
  ·cases h
 ·intro h
  have hk:=hI.rng _ h
  rw[if_pos ⟨hk.1,hk.2,(has_iff hI k).2 ⟨v,h⟩⟩,valP_is hI h]
theorem optExt{a b:Option Int}(h:∀v,a=some v↔b=some v):a=b:=by
 cases a with
 | none=>cases b with
  | none=>rfl
  | some v=>exact absurd ((h v).2 rfl) (by simp)
 | some v=>exact((h v).1 rfl).symm
theorem stP_put{P:List (List Pr)}(hI:Inv P){k:Int}(hk:0<=k/\k<=999)(v:Int):stP (putP P k v)=updM (stP P) k (some v):=by
 funext j
 refine optExt fun u=>?_
 rw[stP_iff (putP_inv hI hk),putP_flat hI,mem_insS_iff hI.sorted]
 unfold updM
 by_cases e:j=k
 ·subst e
  rw[if_pos rfl]
  simp
  exact eq_comm
 ·rw[if_neg e,stP_iff hI]
  simp[e]
theorem stP_nil:stP []=fun _=>none:=by
 funext k;unfold stP;rw[if_neg];rw[hasP_nil];simp
theorem stP_of:∀(l:List Pr)(P:List (List Pr)),Inv P->stP (putL P l)=ofL (stP P) l
 | [],_,_=>rfl
 | x::l,P,hI=>by
  show stP (putL (if 0<=x.1/\x.1<=999 then putP P x.1 x.2 else P) l)=ofL (if 0<=x.1/\x.1<=999 then updM (stP P) x.1 (some x.2) else stP P) l
  split
  ·rename_i hk
   rw[stP_of l _ (putP_inv hI hk),stP_put hI hk]
  ·exact stP_of l P hI
theorem eqCh(x y:ChD):EqAt Tryz.prog 47 (.agg (chL x).toArray) (.agg (chL y).toArray) (x == y):=by
 have h:=eqAt_struct tbOk (d:=2) (by decide) (t:=47) (xs:=(chL x).toArray) (ys:=(chL y).toArray) (b:=(x.1 == y.1)&&((x.2.1 == y.2.1)&&((x.2.2 == y.2.2)&&true))) (by kernel_rfl) (by kernel_rfl)
 have e:(x == y)=((x.1 == y.1)&&((x.2.1 == y.2.1)&&((x.2.2 == y.2.2)&&true))):=by rw[Bool.and_true];rfl
 rw[e];exact h
theorem c41{w:World}{s t:Sl}{xs ys:List ChD}(hs:Rd w s 3 (xs.flatMap chL))(ht:Rd w t 3 (ys.flatMap chL))(hxl:xs.length<=1000000):
  Cw 41 #[slV s,slV t] w fun v w'=>v=.bool (decide (xs=ys))/\Ext w w':=by
 have hn:=rdN chL_len (by omega) hs
 have hm:=rdN chL_len (by omega) ht
 refine F41_ok s t w _ (IfB.intro (fun hne=>⟨?_,Ch.refl _ _⟩) fun heq=>?_)
 ·have:¬xs=ys:=fun e=>by
   subst e
   have:s.n=t.n:=by omega
   rw[show ((s.2:Int) != (t.2:Int))=((s.n:Int) != (t.n:Int)) from rfl,this] at hne
   simp at hne
  rw[decide_eq_false this]
 have hl:xs.length=ys.length:=by
  have:(s.n:Int)=(t.n:Int):=by simpa using heq
  omega
 refine⟨fun n x W=>∃i:Nat,i<=xs.length/\n+i=xs.length/\x=(i:Int)/\xs.take i=ys.take i/\Ext w W,⟨xs.length,0,Nat.zero_le _,rfl,rfl,rfl,Ch.refl _ _⟩,?_⟩
 rintro n _ W g ⟨i,hi,hni,rfl,he,hE⟩
 unfold F41j1
 refine IfB.dec (fun hlt=>?_) fun hge=>?_
 ·have hi':i<xs.length:=by omega
  have hx:xs[i]? =some xs[i]:=List.getElem?_eq_getElem hi'
  have hy:ys[i]? =some ys[i]:=List.getElem?_eq_getElem (by omega)
  have tx:=take_succ_get hx
  have ty:=take_succ_get hy
  generalize xs[i]=x at hx tx
  generalize ys[i]=y at hy ty
  have hEd:Ext w W.drew:=hE.trans (extDrew _)
  obtain⟨a,o,hp,hc⟩:=(hs.ext hEd).elem (i:=i) (by omega) (by omega) (flatGet chL_len hx)
  obtain⟨a',o',hp',hc'⟩:=(ht.ext hEd).elem (i:=i) (by omega) (by omega) (flatGet chL_len hy)
  refine⟨a,o,hp,⟨by omega,by omega⟩,x,by rw[Int.toNat_natCast];exact hc,a',o',hp',⟨by omega,by omega⟩,y,by rw[Int.toNat_natCast];exact hc',_,eqCh x y,IfB.intro (fun hb=>?_) fun hb=>?_⟩
  ·refine⟨?_,hEd⟩
   have hne:¬xs=ys:=fun e=>by
    subst e
    rw[hx] at hy;cases hy
    simp at hb
   rw[decide_eq_false hne]
  ·have e:x=y:=by simpa using hb
   subst e
   exact⟨rfl,n-1,by omega,i+1,hi',by omega,by rw[wrap_of (by omega) (by omega)];rfl,by rw[tx,ty,he],hEd⟩
 ·have hi':i=xs.length:=by omega
  subst hi'
  have e:xs=ys:=by rw[List.take_length,hl,List.take_length] at he;exact he
  exact⟨by rw[decide_eq_true e],hE⟩
theorem eqRg(x y:Rg):EqAt Tryz.prog 23 (.agg (rgL x).toArray) (.agg (rgL y).toArray) (x == y):=by
 have h:=eqAt_ints tbOk (t:=23) (e:=2) (ti:=tt23) (te:={ kd:=.int .i64,size:=1,bytes:=8,zero:=.int .i64 0,sh:=.one (.int .i64) }) (n:=4) (k:=.i64) (k':=.i64) (xs:=[x.1,x.2.1,x.2.2.1,x.2.2.2]) (ys:=[y.1,y.2.1,y.2.2.1,y.2.2.2]) (by kernel_rfl) rfl (by kernel_rfl) rfl rfl rfl rfl (by kernel_rfl)
 have e:(x == y)=([x.1,x.2.1,x.2.2.1,x.2.2.2] == [y.1,y.2.1,y.2.2.1,y.2.2.2]):=by
  obtain⟨a,b,c,d⟩:=x
  obtain⟨a',b',c',d'⟩:=y
  show ((a == a')&&((b == b')&&((c == c')&&(d == d'))))=_
  simp
 rw[e];exact h
theorem c18{w:World}{n m:Nat}{tr tw th ur uw uh:Sl}{o p:OutD}(ho:OutM n w tr tw th o)(hp:OutM m w ur uw uh p)(h1:o.rds.length<=1000000)(h2:o.wrs.length<=1000000)(h3:o.chs.length<=1000000)(he:o=p):
  Cw 18 #[.agg (outL o tr tw th).toArray,.agg (outL p ur uw uh).toArray] w fun v w'=>v=.bool true/\Ext w w':=by
 subst he
 refine F18_ok (outX o tr tw th) (outX o ur uw uh) w _ fun b1 w2 a2 b3 w4 a4=>?_
 have e2:Ext w w2:=a2.ch _
 have x4:Ext w2 w4:=a4.ch _
 have e4:Ext w w4:=e2.trans x4
 have k1:w2.heap[b1]? =some (.cells (outL o tr tw th).toArray _ (0,0)):=a2.new
 have k3:w4.heap[b3]? =some (.cells (outL o ur uw uh).toArray _ (0,0)):=a4.new
 have regs:∀ {b:Nat}{V W:World}{q:Sl}{q2 q3:Sl},V.heap[b]? =some (.cells (outL o q q2 q3).toArray 27 (0,0))->Ext V W->CellsAt W b (0+2) (rgL o.r):=fun{b V W q q2 q3} h e i v hv=>by
  match i,hv with
  | 0,hv=>cases hv;exact boxAt h 2 e
  | 1,hv=>cases hv;exact boxAt h 3 e
  | 2,hv=>cases hv;exact boxAt h 4 e
  | 3,hv=>cases hv;exact boxAt h 5 e
 refine⟨o.code,boxAt k1 0 x4,o.code,boxAt k3 0 (Ch.refl _ _),IfB.yes (by simp) ⟨o.at',boxAt k1 1 x4,o.at',boxAt k3 1 (Ch.refl _ _),IfB.yes (by simp) ⟨o.r,regs k1 x4,o.r,regs k3 (Ch.refl _ _),_,eqRg o.r o.r,IfB.yes (by simp) ⟨tr,boxAt k1 6 x4,ur,boxAt k3 6 (Ch.refl _ _),?_⟩⟩⟩⟩
 refine(c40 (ho.rr.ext e4).rd (hp.rr.ext e4).rd h1).use ?_
 rintro _ w15 ⟨rfl,e15⟩
 refine⟨_,rfl,IfB.yes (by simp) ⟨tw,boxAt k1 7 (x4.trans e15),uw,boxAt k3 7 e15,(c40 (ho.ww.ext (e4.trans e15)).rd (hp.ww.ext (e4.trans e15)).rd h2).use ?_⟩⟩
 rintro _ w20 ⟨rfl,e20⟩
 have E20:=(e4.trans e15).trans e20
 refine⟨_,rfl,IfB.yes (by simp) ⟨th,boxAt k1 8 ((x4.trans e15).trans e20),uh,boxAt k3 8 (e15.trans e20),(c41 (ho.cc.ext E20).rd (hp.cc.ext E20).rd h3).use ?_⟩⟩
 rintro _ w25 ⟨rfl,e25⟩
 exact⟨_,rfl,by simp,E20.trans e25⟩
set_option maxRecDepth 10000
section
variable {w55:World} {bN b26 b29 b31 bR bW b45:Nat} {st0:Int->Option Int} {s:PS} {x:InsD} {args:List Int} {foot:List SpTD} {ta:Sl} {asked:Bool}
end
set_option maxRecDepth 20000
section
variable {n0:Nat} {w37:World} {bN b26 b29 b31 b5:Nat} {st0:Int->Option Int} {s:PS} {cs5:List Value} {T5:TypeId}
end
def F4k1(w58:World)(b5:Nat)(p16:Option Addr)(b22:Nat)(b1:Nat)(b3:Nat)(t1:Sl)(R:RV):Prop:=Qi w58.drew b5 (0+0) fun n76=>Qi w58.drew b5 (0+1) fun n77=>Qw' 17 #[Value.pointer p16,Qz n76,Qz n77] w58.drew fun n80 w79=>∃(x81:Int×Int×Int×Int×Int×Int×Sl×Sl×Sl),CellsAt w79.drew b22 0 (lC27 x81)/\∃(x82:Sl×Sl),CellsAt w79.drew b1 0 [Qy x82.fst,Qy x82.snd]/\∃(x83:Int×Int×Int×Int),CellsAt w79.drew b3 0 [Qz x83.1,Qz x83.snd.1,Qz x83.snd.snd.1,Qz x83.snd.snd.2]/\Cx 14 #[Value.agg #[Qy x82.fst,Qy x82.snd],Qy t1,Value.agg #[Qz x83.1,Qz x83.snd.1,Qz x83.snd.snd.1,Qz x83.snd.snd.2],Value.pointer p16,Value.bool true] w79.drew fun v84 w85=>∃(x86:Int×Int×Int×Int×Int×Int×Sl×Sl×Sl),v84=Value.agg (lC27 x86).toArray/\CellsAt w85 b22 0 (lC27 x81)/\Qv' 18 #[Value.agg (lC27 x81).toArray,Value.agg (lC27 x86).toArray] w85 fun t89 w88=>R (Value.bool t89) w88
def F4j1(t1:Sl)(R:RV)(b1:Nat)(b3:Nat)(b5:Nat)(p16:Option Addr)(b22:Nat)(p36:Option Addr)(p39:Option Addr)(y54:Nat->Int->World->Prop)(b56:Nat)(n57:Int)(w58:World):Prop:=Qs w58 b22 (0+8) fun s61=>IfB (decide (n57<(s61.n:Int))) (Qs w58 b22 (0+8) fun s62=>Qx s62.1 n57 (s62.2:Int) fun b63 b64=>Qi w58 b63 (b64+n57.toNat*3+0) fun n65=>IfB (decide (n65<0)) (R (Value.bool false) w58) (IfB (decide (999<n65)) (R (Value.bool false) w58) (Qx p39 n65 ((1000:Nat):Int) fun b66 b67=>Qb w58 b66 (b67+n65.toNat) fun t68=>IfB (!t68) (R (Value.bool false) w58) (([]:List Df)=[]/\∃b69:Nat,b69<b56/\y54 b69 (IntKind.i64.wrap (n57+1)) w58)))) (Qi w58.drew b5 (0+0) fun n70=>IfB (decide (n70<0)) (R (Value.bool true) w58.drew) (Qi w58.drew b5 (0+0) fun n71=>IfB (decide (999<n71)) (R (Value.bool true) w58.drew) (Qi w58.drew b5 (0+0) fun n72=>Qx p36 n72 ((1000:Nat):Int) fun b73 b74=>Qb w58.drew b73 (b74+n72.toNat) fun t75=>IfB t75 (R (Value.bool true) w58.drew) (F4k1 w58 b5 p16 b22 b1 b3 t1 R))))
def F4k2(t3:Sl)(w12:World)(b1:Nat)(b3:Nat)(t1:Sl)(R:RV)(b5:Nat):Prop:=Cx 13 #[Qy t3] w12 fun v14 w15=>∃(p16:Option Addr),v14=Value.pointer p16/\∃(x17:Sl×Sl),CellsAt w15 b1 0 [Qy x17.fst,Qy x17.snd]/\∃(x18:Int×Int×Int×Int),CellsAt w15 b3 0 [Qz x18.1,Qz x18.snd.1,Qz x18.snd.snd.1,Qz x18.snd.snd.2]/\Cx 14 #[Value.agg #[Qy x17.fst,Qy x17.snd],Qy t1,Value.agg #[Qz x18.1,Qz x18.snd.1,Qz x18.snd.snd.1,Qz x18.snd.snd.2],Value.pointer p16,Value.bool true] w15 fun v19 w20=>∃(x21:Int×Int×Int×Int×Int×Int×Sl×Sl×Sl),v19=Value.agg (lC27 x21).toArray/\AllocP w20 (Obj.cells #[Qz 0,Qz 0,Qz 0,Qz 0,Qz 0,Qz 0,Value.slice none 0 0,Value.slice none 0 0,Value.slice none 0 0] 27) fun b22 w23=>(lC27 x21).toArray.size=9/\StoreP w23 b22 0 (lC27 x21) fun w24=>Qi w24 b22 (0+0) fun n25=>IfB (n25 != 0) (∃(x26:Int×Int×Int×Int),CellsAt w24 b22 (0+2) [Qz x26.1,Qz x26.snd.1,Qz x26.snd.snd.1,Qz x26.snd.snd.2]/\∃(x27:Int×Int×Int×Int),CellsAt w24 b3 0 [Qz x27.1,Qz x27.snd.1,Qz x27.snd.snd.1,Qz x27.snd.snd.2]/\∃t28:Bool,EqAt Tryz.prog 23 (Value.agg #[Qz x26.1,Qz x26.snd.1,Qz x26.snd.snd.1,Qz x26.snd.snd.2]) (Value.agg #[Qz x27.1,Qz x27.snd.1,Qz x27.snd.snd.1,Qz x27.snd.snd.2]) t28/\IfB t28 (Qs w24 b22 (0+8) fun s29=>IfB ((s29.2:Int) == 0) (Qs w24 b22 (0+6) fun s30=>IfB ((s30.2:Int) == 0) (Qs w24 b22 (0+7) fun s31=>R (Value.bool ((s31.2:Int) == 0)) w24) (R (Value.bool false) w24)) (R (Value.bool false) w24)) (R (Value.bool false) w24)) (Qs w24.drew b22 (0+6) fun s32=>Qs w24.drew b22 (0+7) fun s33=>Cx 9 #[Qy s32] w24.drew fun v34 w35=>∃(p36:Option Addr),v34=Value.pointer p36/\w35.cell? ⟨b22,0+7,none⟩=some (Qy s33)/\Cx 9 #[Qy s33] w35 fun v37 w38=>∃(p39:Option Addr),v37=Value.pointer p39/\Qs w38 b1 (0+1) fun s40=>Cx 16 #[Qy s40,Qy t1,Value.bool false] w38 fun v41 w42=>∃(p43:Option Addr),v41=Value.pointer p43/\Qv' 15 #[Value.pointer p36,Value.pointer p43] w42 fun t46 w45=>IfB (!t46) (R (Value.bool false) w45) (Qs w45 b1 (0+1) fun s47=>Cx 16 #[Qy s47,Qy t1,Value.bool true] w45 fun v48 w49=>∃(p50:Option Addr),v48=Value.pointer p50/\Qv' 15 #[Value.pointer p39,Value.pointer p50] w49 fun t53 w52=>IfB (!t53) (R (Value.bool false) w52) (Ql (α:=Int) 0 w52 fun y54 b56 n57 w58=>(F4j1 t1 R b1 b3 b5 p16 b22 p36 p39 y54 b56 n57 w58))))
theorem F4_ok(t0:Sl×Sl)(t1:Sl)(t2:Int×Int×Int×Int)(t3:Sl)(t4:Int×Int)(w:World)(R:RV)(h:AllocP w (Obj.cells #[Qy t0.fst,Qy t0.snd] 36) fun b1 w2=>AllocP w2 (Obj.cells #[Qz t2.1,Qz t2.snd.1,Qz t2.snd.snd.1,Qz t2.snd.snd.2] 23) fun b3 w4=>AllocP w4 (Obj.cells #[Qz t4.1,Qz t4.2] 40) fun b5 w6=>Qv' 8 #[] w6 fun t9 w8=>IfB (!t9) (R (Value.bool false) w8) (∃(x10:Sl×Sl),CellsAt w8 b1 0 [Qy x10.fst,Qy x10.snd]/\Qv' 12 #[Value.agg #[Qy x10.fst,Qy x10.snd],Qy t1,Qy t3] w8 fun t13 w12=>IfB t13 (R (Value.bool true) w12) (F4k2 t3 w12 b1 b3 t1 R b5))):Cw 4 #[Value.agg #[Qy t0.fst,Qy t0.snd],Qy t1,Value.agg #[Qz t2.1,Qz t2.snd.1,Qz t2.snd.snd.1,Qz t2.snd.snd.2],Qy t3,Value.agg #[Qz t4.1,Qz t4.2]] w R:=
 ckF Tryz.func4 (nd (nd (nd (nd (nd (nd (.node (.draw (sts [0,1,3,4] (.ac 2 [4,3] (.ac 5 [] (sts [6,7] .fin) .non) .non))) (nd (.node (nd (.loop [(15,oi)] (rg [10,10,15,16,77,103]) .nil)) (.node (.node (.draw (sts [0,1,2,3,4,5,6,7,8,9,10,11,12,13,14,15] .fin)) .nil) (nd (.node (.draw (sts [0,1,2,3,4] (.ac 5 [0] (.ac 6 [] (.st 7 .fin) .non) .non))) .nil)))))))))))) h (by kernel_rfl) (by kernel_rfl)
def F8(w:World)(R:RV):Prop:=AllocP w (Obj.cells #[Qz 0,Qz 0] 64) fun b1 w2=>#[Qz (-1:Int),Qz 5].size=2/\StoreP w2 b1 0 [Qz (-1:Int),Qz 5] fun w3=>∃(x4:Int×Int),CellsAt w3 b1 0 [Qz x4.1,Qz x4.2]/\∃(x5:Int×Int),CellsAt w3 b1 0 [Qz x5.1,Qz x5.2]/\2*9<=16777216/\AllocP w3 (Obj.cells #[Qz 2,Qz 0,Qz 0,Qz 0,Qz x4.1,Qz x4.2,Qz 0,Qz 0,Qz 0,Qz 1,Qz 1,Qz 0,Qz 0,Qz x5.1,Qz x5.2,Qz 0,Qz 0,Qz 0] 66) fun b6 w7=>AllocP w7 (Obj.cells #[Value.slice none 0 0] 69) fun b8 w9=>Cx 14 #[Value.agg #[Value.slice (some ⟨b6,0,none⟩) 2 2,Value.slice none 0 0],Value.slice none 0 0,Value.agg #[Qz 7,Qz 0,Qz 0,Qz 0],Value.pointer (some ⟨b8,0,none⟩),Value.bool false] w9 fun v10 w11=>∃(x12:Int×Int×Int×Int×Int×Int×Sl×Sl×Sl),v10=Value.agg (lC27 x12).toArray/\AllocP w11 (Obj.cells #[Qz 0,Qz 0,Qz 0,Qz 0,Qz 0,Qz 0,Value.slice none 0 0,Value.slice none 0 0,Value.slice none 0 0] 27) fun b13 w14=>(lC27 x12).toArray.size=9/\StoreP w14 b13 0 (lC27 x12) fun w15=>1*2<=16777216/\AllocP w15 (Obj.cells #[Qz 5,Qz 5] 71) fun b16 w17=>∃(x18:Int×Int×Int×Int×Int×Int×Sl×Sl×Sl),CellsAt w17 b13 0 (lC27 x18)/\1*3<=16777216/\AllocP w17 (Obj.cells #[Qz 5,Value.bool false,Qz 7] 47) fun b19 w20=>Qv' 18 #[Value.agg (lC27 x18).toArray,Value.agg #[Qz 0,Qz 0,Qz 7,Qz 7,Qz 0,Qz 0,Value.slice (some ⟨b16,0,none⟩) 1 1,Value.slice (some ⟨b16,0,none⟩) 1 1,Value.slice (some ⟨b19,0,none⟩) 1 1]] w20 fun t23 w22=>R (Value.bool t23) w22
theorem F8_ok(w:World)(R:RV)(h:F8 w R):Cw 8 #[] w R:=
 call_of tbOk mixed en8 Tryz.func8 rfl .nil (by kernel_rfl) (Nat.le_of_ble_eq_true (by kernel_rfl)) (Eq.mp (α:=F8 w R) (by kernel_rfl) h)
theorem F12_ok(t0:Sl×Sl)(t1:Sl)(t2:Sl)(w:World)(R:RV)(h:AllocP w (Obj.cells #[Qy t0.fst,Qy t0.snd] 36) fun b1 w2=>Qs w2 b1 (0+0) fun s3=>IfB (decide (20<(s3.n:Int))) (R (Value.bool true) w2) (Qs w2 b1 (0+1) fun s4=>IfB (decide (20<(s4.n:Int))) (R (Value.bool true) w2) (IfB (decide (10<(t1.n:Int))) (R (Value.bool true) w2) (R (Value.bool (decide (100<(t2.n:Int)))) w2)))):Cw 12 #[Value.agg #[Qy t0.fst,Qy t0.snd],Qy t1,Qy t2] w R:=
 ckF Tryz.func12 .nil h (by kernel_rfl) (by kernel_rfl)
abbrev tySpn:Ty:=.pair tyI tyI
abbrev tyRg:Ty:=.arr 4 tyI
theorem arr_eq{cs:Array Value}{l:List Value}(h:cs.toList=l):cs=l.toArray:=by rw[<-h]
section
variable {A:Nat->Prop} {w:World}
theorem rep_all{e:Ty}{f:e.den->List Value}{Q:e.den->Prop}{l:List e.den}{cs:List Value}(hz:0<e.sz)(h:rep A w (.sl e) l cs)(hp:∀x c,rep A w e x c->c=f x/\Q x):
  ∃s:Sl,cs=[slV s]/\Rd w s e.sz (l.flatMap f)/\s.n=l.length/\(∀x∈l,Q x)/\(0<s.n->∀i∈blk s,i<w.heap.size):=by
 obtain⟨s,rfl,h2,h3,h4,h5⟩:=rep_plain (f:=f) h fun x _ c hc=>(hp x c hc).1
 refine⟨s,rfl,h2,h3,fun x hx=>?_,fun h0=>rep_blk_lt h hz h0⟩
 obtain⟨t,ht,_,_,_,_,css,h6,h7,h8⟩:=h
 obtain⟨i,hi,rfl⟩:=List.getElem_of_mem hx
 exact(hp _ _ (h7 i _ _ (List.getElem?_eq_getElem (by omega)) (List.getElem?_eq_getElem hi))).2
theorem i64_of{n:Int}(h:IntKind.i64.min<=n/\n<=IntKind.i64.max):I64 n:=⟨h.1,h.2⟩
theorem rep_pr{x:Pr}{cs:List Value}(h:rep A w tySpn x cs):cs=prV x/\I64 x.2:=by
 obtain⟨c,d,rfl,⟨rfl,_⟩,rfl,h⟩:=h;exact⟨rfl,i64_of h⟩
theorem rep_insI{x:InsD}{cs:List Value}(h:rep A w tyIns x cs):cs=insC x/\I64 x.X:=by
 refine⟨rep_ins h,?_⟩
 obtain⟨_,_,_,_,_,_,_,_,_,_,_,_,_,_,_,_,_,_,_,_,_,_,_,_,_,h⟩:=h
 exact i64_of h
theorem rep_rg{x:tyRg.den}{cs:List Value}(h:rep A w tyRg x cs):∃r:Rg,cs=rgL r/\RgOk r:=by
 obtain⟨h4,css,hl,hr,rfl⟩:=h
 have get:∀i(hi:i<x.length),∃n:Int,css[i]? =some [iv n]/\I64 n:=fun i hi=>by
  have hc:=List.getElem?_eq_getElem (show i<css.length by omega)
  obtain⟨e,h⟩:=hr i _ _ hc (List.getElem?_eq_getElem hi)
  exact⟨x[i],by rw[hc,e],i64_of h⟩
 obtain⟨a,ha,ia⟩:=get 0 (by omega)
 obtain⟨b,hb,ib⟩:=get 1 (by omega)
 obtain⟨c,hc,ic⟩:=get 2 (by omega)
 obtain⟨d,hd,id⟩:=get 3 (by omega)
 refine⟨(a,b,c,d),?_,ia,ib,ic,id⟩
 have e:css=[[iv a],[iv b],[iv c],[iv d]]:=by
  match css,hl.trans h4,ha,hb,hc,hd with
  | [q0,q1,q2,q3],_,ha,hb,hc,hd=>simp at ha hb hc hd;rw[ha,hb,hc,hd]
 rw[e];rfl
end
abbrev keyA:KeyD:=(-1,5)
abbrev codeA:List InsD:=[(2,0,0,0,keyA,(0,0),0),(1,1,0,0,keyA,(0,0),0)]
theorem codeA_ok:RightP codeA [] []:=by
 refine⟨⟨by decide,by simp⟩,.inr ⟨by decide,by decide,by decide,by decide,fun x hx=>?_⟩,by decide,by decide,by decide,by simp⟩
 simp at hx
 rcases hx with rfl|rfl<;>constructor<;>simp[KeyOk]
theorem aliveOut{mr mw:Int->Prop}(hr:∀k,mr k)(hw:∀k,mw k){o:OutD}(h:IsOut (RightP codeA [] []) (stP []) mr mw [] codeA (7,0,0,0) o):o=⟨0,0,(7,7,0,0),[(5,5)],[(5,5)],[(5,false,7)]⟩:=by
 have h1:=h.2 codeA_ok
 have kA:keyAt keyA []=5:=rfl
 have s1:stepI (stP []) mr mw [] (2,0,0,0,keyA,(0,0),0) (ps0 (7,0,0,0))=.inr ⟨(7,0,0,0),fun _=>False,fun j=>False\/j=5,fun j=>if j=5 then some (false,7) else none⟩:=by
  unfold stepI
  rw[if_neg (by decide),if_pos rfl,show keyAt (InsD.K (2,0,0,0,keyA,(0,0),0)) []=5 from rfl,if_pos (bq_iff.2 (hw 5))]
  rfl
 have s2:stepI (stP []) mr mw [] (1,1,0,0,keyA,(0,0),0) ⟨(7,0,0,0),fun _=>False,fun j=>False\/j=5,fun j=>if j=5 then some (false,7) else none⟩=.inr ⟨(7,7,0,0),fun j=>False\/j=5,fun j=>False\/j=5,fun j=>if j=5 then some (false,7) else none⟩:=by
  unfold stepI
  rw[if_pos rfl,show keyAt (InsD.K (1,1,0,0,keyA,(0,0),0)) []=5 from rfl,if_pos (bq_iff.2 (hr 5))]
  rfl
 simp only[runI,s1,s2] at h1
 refine h1.uniq ⟨rfl,rfl,rfl,⟨by simp,by simp[mayS]⟩,fun k=>?_,⟨by simp,by simp[mayS]⟩,fun k=>?_,by simp,fun c=>?_⟩
 ·simp[hasS,mayS];omega
 ·simp[hasS,mayS];omega
 ·obtain⟨k,g,v⟩:=c
  dsimp only
  by_cases e:k=5
  ·subst e;simp[eq_comm]
  ·simp[e]
theorem c8(w:World):Cw 8 #[] w fun v w'=>v=.bool true/\Ext w w':=by
 refine F8_ok w _ fun b1 w2 a2=>⟨rfl,store_all a2.new rfl (by intro v hv;simp at hv;rcases hv with rfl|rfl<;>rfl) fun w3 h3=>?_⟩
 have e3:Ext w w3:=Ext.fresh a2 h3
 refine⟨keyA,boxAll h3.new (Ch.refl _ _),keyA,boxAll h3.new (Ch.refl _ _),by decide,fun b6 w7 a7 b8 w9 a9=>?_⟩
 have x9:Ext w7 w9:=a9.ch _
 have E9:Ext w w9:=(e3.trans (a7.ch _)).trans x9
 have hcode:Rd w9 ⟨some ⟨b6,0,none⟩,2,2⟩ 9 (codeA.flatMap insC):=((OwS.new (cs:=codeA.flatMap insC) (n:=2) (sz:=9) a7 rfl).ext x9).rd
 have hS:StA (fun i=>i<w9.heap.size) w9 b8 []:=by
  refine⟨⟨none,0,0⟩,[],⟨⟨_,a9.new⟩,.nil _ _,by simp,by simp,by simp,by simp[blk]⟩,rfl,?_⟩
  have p9:=a9.here;have z9:=a9.size
  rintro j (rfl|h|⟨x,hx,h⟩)
  ·omega
  ·simp[blk] at h
  ·simp at hx
 refine(c14 (foot:=[]) (args:=[]) (r:=(7,0,0,0)) (tf:=⟨none,0,0⟩) (ta:=⟨none,0,0⟩) hcode (OwS.nil _ _).rd (OwS.nil _ _).rd hS Inv.nil (fun k v h=>by rw[stP_nil] at h;cases h) ⟨⟨by decide,by decide⟩,⟨by decide,by decide⟩,⟨by decide,by decide⟩,⟨by decide,by decide⟩⟩ (fun x hx=>by simp at hx;rcases hx with rfl|rfl<;>exact⟨by decide,by decide⟩)).use ?_
 rintro _ w11 ⟨tr,tw,th,o,rfl,ho,hO,e11⟩
 have ho:=aliveOut (fun _=>.inl rfl) (fun _=>.inl rfl) ho
 subst ho
 refine⟨_,rfl,fun b13 w14 a14=>⟨rfl,store_all a14.new rfl (outL_one _ tr tw th) fun w15 h15=>⟨by decide,fun b16 w17 a17=>?_⟩⟩⟩
 have e15:Ext w11 w15:=Ext.fresh a14 h15
 have e17:Ext w15 w17:=a17.ch _
 refine⟨_,boxAll h15.new e17,by decide,fun b19 w20 a20=>?_⟩
 have e20:Ext w17 w20:=a20.ch _
 have E20:Ext w11 w20:=(e15.trans e17).trans e20
 have h5:OwS w20 ⟨some ⟨b16,0,none⟩,1,1⟩ 2 ([((5:Int),(5:Int))].flatMap sv):=(OwS.new (cs:=[((5:Int),(5:Int))].flatMap sv) (n:=1) (sz:=2) a17 rfl).ext e20
 have h7:OwS w20 ⟨some ⟨b19,0,none⟩,1,1⟩ 3 ([((5:Int),false,(7:Int))].flatMap chL):=OwS.new (cs:=[((5:Int),false,(7:Int))].flatMap chL) (n:=1) (sz:=3) a20 rfl
 refine(c18 (m:=0) (p:=⟨0,0,(7,7,0,0),[(5,5)],[(5,5)],[(5,false,7)]⟩) (hO.ext E20) ⟨h5,h5,h7,fun _ _=>Nat.zero_le _,fun _ _=>Nat.zero_le _,fun _ _=>Nat.zero_le _⟩ (by decide) (by decide) (by decide) rfl).use ?_
 rintro _ w22 ⟨rfl,e22⟩
 exact⟨true,rfl,rfl,((E9.trans e11).trans E20).trans e22⟩
theorem c12(tc tf ta tl:Sl)(w:World):Cw 12 #[.agg #[slV tc,slV tf],slV ta,slV tl] w fun v w'=>∃r,v=.bool r/\(r=false->tc.n<=20/\tf.n<=20/\ta.n<=10/\tl.n<=100)/\Ext w w':=by
 refine F12_ok (tc,tf) ta tl w _ fun b1 w2 a2=>?_
 have e2:Ext w w2:=a2.ch _
 have h1:w2.heap[b1]? =some (.cells [slV tc,slV tf].toArray _ (0,0)):=a2.new
 have no:∃r,Value.bool true=.bool r/\(r=false->tc.n<=20/\tf.n<=20/\ta.n<=10/\tl.n<=100)/\Ext w w2:=⟨true,rfl,fun h=>(by cases h),e2⟩
 refine⟨tc,boxAt h1 0 (Ch.refl _ _),IfB.dec (fun _=>no) fun h1'=>⟨tf,boxAt h1 1 (Ch.refl _ _),IfB.dec (fun _=>no) fun h2=>IfB.dec (fun _=>no) fun h3=>⟨_,rfl,fun h4=>?_,e2⟩⟩⟩
 have h4:=of_decide_eq_false h4
 omega
section
variable {st st':Int->Option Int} {mr mw:Int->Prop} {args:List Int}
theorem runI_ok(hst:∀k v,st k=some v->I64 v)(ha:ArgsOk args):∀(l:List InsD)(i:Nat)(s s':PS),(∀x∈l,InsOk x args.length/\I64 x.X)->PsOk s->runI st mr mw args l i s=.inr s'->PsOk s'
 | [],i,s,s',_,h,e=>by cases e;exact h
 | x::l,i,s,s',hl,h,e=>by
  rw[runI] at e
  cases hs:stepI st mr mw args x s with
  | inl n=>rw[hs] at e;cases e
  | inr t=>
   rw[hs] at e
   have hx:=hl x (List.mem_cons_self ..)
   exact runI_ok hst ha l (i+1) t s' (fun y hy=>hl y (List.mem_cons_of_mem _ hy)) (stepI_ok h hst hx.1 hx.2 ha hs) e
theorem stepI_err{x:InsD}{s:PS}{e:Int}(h:stepI st mr mw args x s=.inl e):e≠0:=by
 unfold stepI at h
 intro h0
 subst h0
 repeat' split at h
 all_goals (first|cases h|(injection h with h;omega))
theorem runI_err:∀(l:List InsD)(i:Nat)(s:PS){e:Int×Nat},runI st mr mw args l i s=.inl e->e.1≠0
 | [],i,s,e,h=>by cases h
 | x::l,i,s,e,h=>by
  rw[runI] at h
  cases hs:stepI st mr mw args x s with
  | inl n=>rw[hs] at h;cases h;exact stepI_err hs
  | inr t=>rw[hs] at h;exact runI_err l _ t h
theorem stepI_may{x:InsD}{s s':PS}(h:stepI st mr mw args x s=.inr s'):(∀k,s.rd k->s'.rd k)/\(∀k,s'.rd k->s.rd k\/mr k)/\∀k,s'.wr k->s.wr k\/mw k:=by
 unfold stepI at h
 split at h
 ·split at h<;>cases h
  rename_i hm
  exact⟨fun k hk=>.inl hk,fun k hk=>(show s.rd k\/k=keyAt x.K args from hk).imp id fun e=>by rw[e];exact bq_iff.1 hm,fun k hk=>.inl hk⟩
 split at h
 ·split at h<;>cases h
  rename_i hm
  exact⟨fun k hk=>hk,fun k hk=>.inl hk,fun k hk=>(show s.wr k\/k=keyAt x.K args from hk).imp id fun e=>by rw[e];exact bq_iff.1 hm⟩
 split at h
 ·split at h<;>cases h
  rename_i hm
  exact⟨fun k hk=>hk,fun k hk=>.inl hk,fun k hk=>(show s.wr k\/k=keyAt x.K args from hk).imp id fun e=>by rw[e];exact bq_iff.1 hm⟩
 split at h
 ·split at h<;>cases h
  rename_i hm
  exact⟨fun k hk=>.inl hk,fun k hk=>(show s.rd k\/(keyAt x.K args<=k/\k<=keyAt x.L args) from hk).imp id fun e=>bq_iff.1 hm k e.1 e.2,fun k hk=>.inl hk⟩
 split at h
 ·cases h;exact⟨fun k hk=>hk,fun k hk=>.inl hk,fun k hk=>.inl hk⟩
 split at h
 ·split at h<;>cases h
  exact⟨fun k hk=>hk,fun k hk=>.inl hk,fun k hk=>.inl hk⟩
 split at h
 ·split at h<;>cases h
  exact⟨fun k hk=>hk,fun k hk=>.inl hk,fun k hk=>.inl hk⟩
 split at h<;>cases h
 exact⟨fun k hk=>hk,fun k hk=>.inl hk,fun k hk=>.inl hk⟩
theorem runI_may:∀(l:List InsD)(i:Nat)(s s':PS),runI st mr mw args l i s=.inr s'->(∀k,s.rd k->s'.rd k)/\(∀k,s'.rd k->s.rd k\/mr k)/\∀k,s'.wr k->s.wr k\/mw k
 | [],i,s,s',e=>by cases e;exact⟨fun k hk=>hk,fun k hk=>.inl hk,fun k hk=>.inl hk⟩
 | x::l,i,s,s',e=>by
  rw[runI] at e
  cases hs:stepI st mr mw args x s with
  | inl n=>rw[hs] at e;cases e
  | inr t=>
   rw[hs] at e
   obtain⟨a1,a2,a3⟩:=stepI_may hs
   obtain⟨b1,b2,b3⟩:=runI_may l (i+1) t s' e
   exact⟨fun k hk=>b1 k (a1 k hk),fun k hk=>(b2 k hk).elim (a2 k) .inr,fun k hk=>(b3 k hk).elim (a3 k) .inr⟩
theorem nowV_eq{ch:Int->Option ChV}{k:Int}(h:st k=st' k):nowV st ch k=nowV st' ch k:=by
 unfold nowV;rw[h]
theorem stepI_same{x:InsD}{s s':PS}(h:stepI st mr mw args x s=.inr s')(hs:∀k,s'.rd k->st k=st' k):stepI st' mr mw args x s=.inr s':=by
 rw[<-h]
 unfold stepI at h ⊢
 split
 ·rename_i h1
  rw[if_pos h1] at h
  split at h<;>cases h
  rw[nowV_eq (st:=st) (st':=st') (hs _ (.inr rfl))]
 rename_i h1
 rw[if_neg h1] at h
 split
 ·rfl
 rename_i h2
 rw[if_neg h2] at h
 split
 ·rfl
 rename_i h3
 rw[if_neg h3] at h
 split
 ·rename_i h4
  rw[if_pos h4] at h
  split at h<;>cases h
  have e:cntV st' s.ch (keyAt x.K args) (keyAt x.L args)=cntV st s.ch (keyAt x.K args) (keyAt x.L args):=by
   unfold cntV
   congr 2
   refine List.filter_congr fun q hq=>?_
   rw[mem_ranI] at hq
   rw[nowV_eq (st:=st') (st':=st) (hs q (.inr ⟨by omega,by omega⟩)).symm]
  rw[e]
 ·rfl
theorem runI_same:∀(l:List InsD)(i:Nat)(s s':PS),runI st mr mw args l i s=.inr s'->(∀k,s'.rd k->st k=st' k)->runI st' mr mw args l i s=.inr s'
 | [],i,s,s',e,_=>e
 | x::l,i,s,s',e,h=>by
  rw[runI] at e ⊢
  cases hs:stepI st mr mw args x s with
  | inl n=>rw[hs] at e;cases e
  | inr t=>
   rw[hs] at e
   have hm:=(runI_may l (i+1) t s' e).1
   rw[stepI_same hs fun k hk=>h k (hm k hk)]
   exact runI_same l (i+1) t s' e h
end
section
variable {st st':Int->Option Int} {mr mw:Int->Prop} {args:List Int} {code:List InsD} {foot:List SpTD} {r:Rg} {o:OutD}
theorem IsOut.both(h:IsOut (RightP code foot args) st mr mw args code r o)(hst:∀k v,st k=some v->I64 v)(hX:∀x∈code,I64 x.X)(hr:RgOk r):
  (o.code≠0/\o.r=r/\o.rds=[]/\o.wrs=[]/\o.chs=[])\/(RightP code foot args/\∃s,runI st mr mw args code 0 (ps0 r)=.inr s/\Done s o/\PsOk s):=by
 by_cases hok:RightP code foot args
 ·have h1:=h.2 hok
  cases hrun:runI st mr mw args code 0 (ps0 r) with
  | inl e=>
   rw[hrun] at h1
   dsimp only at h1
   subst h1
   exact .inl ⟨runI_err _ _ _ hrun,rfl,rfl,rfl,rfl⟩
  | inr s=>
   rw[hrun] at h1
   refine .inr ⟨hok,s,rfl,h1,runI_ok hst hok.1 code 0 _ s (fun x hx=>⟨?_,hX x hx⟩) (ps0_ok hr) hrun⟩
   rcases hok.2.1 with e|e
   ·subst e;cases hx
   ·exact e.all x hx
 ·have h1:=h.1 hok
  subst h1
  exact .inl ⟨show (1:Int)≠0 by decide,rfl,rfl,rfl,rfl⟩
theorem IsOut.lens(h:IsOut (RightP code foot args) st mr mw args code r o)(hst:∀k v,st k=some v->I64 v)(hX:∀x∈code,I64 x.X)(hr:RgOk r):o.rds.length<=1000/\o.wrs.length<=1000/\o.chs.length<=1000:=by
 rcases h.both hst hX hr with ⟨_,_,e1,e2,e3⟩|⟨_,s,_,hd,hk⟩
 ·rw[e1,e2,e3];exact⟨by decide,by decide,by decide⟩
 ·refine⟨normS_len hd.nr,normS_len hd.nw,?_⟩
  have:=srtI_len hd.srt fun x hx=>by
   obtain⟨c,hc,rfl⟩:=List.mem_map.1 hx
   exact hk.wk _ ((hk.wr _).2 (by rw[(hd.mem c).1 hc];simp))
  rwa [List.length_map] at this
theorem IsOut.same(h:IsOut (RightP code foot args) st mr mw args code r o)(h0:o.code=0)(hs:∀k,¬hasS o.rds k\/st k=st' k)(hst:∀k v,st k=some v->I64 v)(hX:∀x∈code,I64 x.X)(hr:RgOk r):IsOut (RightP code foot args) st' mr mw args code r o:=by
 rcases h.both hst hX hr with ⟨e,_⟩|⟨hok,s,hrun,hd,hk⟩
 ·exact absurd h0 e
 ·refine⟨fun h=>absurd hok h,fun _=>?_⟩
  rw[runI_same (st':=st') code 0 _ s hrun fun k hk=>(hs k).elim (fun h=>absurd ((hd.hr k).2 hk) h) id]
  exact hd
end
theorem rep_step{A:Nat->Prop}{w:World}{x:tyStp.den}{cs:List Value}(h:rep A w tyStp x cs):∃(tc tf:Sl),cs=[slV tc,slV tf]/\Rd w tc 9 (x.1.flatMap insC)/\Rd w tf 5 (x.2.flatMap spTC)/\∀i:InsD,i∈x.1->I64 i.X:=by
 obtain⟨c,d,rfl,h1,h2⟩:=h
 obtain⟨tc,rfl,r1,_,q,_⟩:=rep_all (e:=tyIns) (f:=insC) (by decide) h1 fun _ _=>rep_insI
 obtain⟨tf,rfl,r2,_⟩:=rep_all (e:=tySpT) (f:=spTC) (by decide) h2 fun _ _ h=>⟨rep_spT h,trivial⟩
 exact⟨tc,tf,rfl,r1,r2,q⟩
theorem ofL_i64:∀(l:List Pr){st:Int->Option Int},(∀x∈l,I64 x.2)->(∀k v,st k=some v->I64 v)->∀k v,ofL st l k=some v->I64 v
 | [],_,_,h=>h
 | x::l,st,hl,h=>ofL_i64 l (fun y hy=>hl y (List.mem_cons_of_mem _ hy)) fun k v hv=>by
  split at hv
  ·unfold updM at hv
   split at hv
   ·cases hv;exact hl x (List.mem_cons_self ..)
   ·exact h k v hv
  ·exact h k v hv
theorem stepCovers(w:World){x:tyStp.den}{cs:Array Value}(h0:rep (fun _=>True) w tyStp x cs.toList){l:List (Ty.int .i64).den}{c1:Value}(h1:rep (fun _=>True) w (.sl (.int .i64)) l [c1])
  {xr:tyRg.den}{cr:Array Value}(h2:rep (fun _=>True) w tyRg xr cr.toList){lp:List tySpn.den}{c3:Value}(h3:rep (fun _=>True) w (.sl tySpn) lp [c3]){xo:tySpn.den}{co:Array Value}(h4:rep (fun _=>True) w tySpn xo co.toList):
  Cw 4 #[.agg cs,c1,.agg cr,c3,.agg co] w fun v w'=>v=.bool true/\Ext w w':=by
 obtain⟨tc,tf,e0,hc,hf,hX⟩:=rep_step h0
 obtain⟨ta,e1,ha,_⟩:=rep_ints h1
 obtain⟨r,e2,hr⟩:=rep_rg h2
 obtain⟨tl,e3,hl,n3,hv,_⟩:=rep_all (e:=tySpn) (f:=prV) (by decide) h3 fun _ _=>rep_pr
 obtain⟨e4,io⟩:=rep_pr h4
 simp only[List.cons.injEq,and_true] at e1 e3
 rw[arr_eq e0,arr_eq e2,arr_eq e4];subst e1;subst e3
 have hn:=rdI ha
 suffices core:∀xo:Pr,I64 xo.2->Cw 4 #[.agg [slV tc,slV tf].toArray,slV ta,.agg (rgL r).toArray,slV tl,.agg (prV xo).toArray] w fun v w'=>v=.bool true/\Ext w w' from core xo io
 clear h4 e4 io xo
 intro xo io
 refine F4_ok (tc,tf) ta r tl xo w _ fun b1 w2 a2 b3 w4 a4 b5 w6 a6=>(c8 w6).use ?_
 rintro _ w8 ⟨rfl,e8⟩
 have x4:Ext w4 w8:=(a6.ch _:Ext w4 w6).trans e8
 have x2:Ext w2 w8:=(a4.ch _:Ext w2 w4).trans x4
 have E8:Ext w w8:=(a2.ch _:Ext w w2).trans x2
 have k1:w8.heap[b1]? =some (.cells [slV tc,slV tf].toArray _ (0,0)):=x2.at a2.new
 have k3:w8.heap[b3]? =some (.cells (rgL r).toArray _ (0,0)):=x4.at a4.new
 have k5:w8.heap[b5]? =some (.cells (prV xo).toArray _ (0,0)):=e8.at a6.new
 refine⟨true,rfl,IfB.no rfl ⟨(tc,tf),boxAll k1 (Ch.refl _ _),(c12 tc tf ta tl w8).use ?_⟩⟩
 rintro _ w12 ⟨g,rfl,hg,e12⟩
 have E12:=E8.trans e12
 refine⟨g,rfl,IfB.intro (fun _=>⟨rfl,E12⟩) fun hg0=>?_⟩
 obtain⟨g1,g2,g3,g4⟩:=hg hg0
 unfold F4k2
 refine(c13 (xs:=lp) (hl.ext E12) (by omega)).use ?_
 rintro _ w15 ⟨bS,rfl,hS,e15⟩
 have hI:Inv (putL [] lp):=putL_inv Inv.nil
 have E15:=E12.trans e15
 have D15:Ext w8 w15:=e12.trans e15
 have hS15:StA (fun i=>w12.heap.size<=i/\i<w15.heap.size) w15 bS (putL [] lp):=hS.mono fun i hi h=>⟨h,hi⟩
 have hval:∀k v,stP (putL [] lp) k=some v->I64 v:=by rw[stP_of _ _ Inv.nil,stP_nil];exact ofL_i64 lp hv fun k v h=>(by cases h)
 refine⟨_,rfl,(tc,tf),boxAll k1 D15,r,boxAll k3 D15,(c14 (hc.ext E15) (hf.ext E15) (ha.ext E15) (hS15.mono fun i hi _=>hi) hI hval hr hX).use ?_⟩
 rintro _ w20 ⟨tr,tw,th,o,rfl,ho,hO,e20⟩
 have hlen:=ho.lens hval hX hr
 refine⟨outX o tr tw th,rfl,fun b22 w23 a23=>⟨rfl,store_all a23.new rfl (outL_one _ tr tw th) fun w24 h24=>?_⟩⟩
 have e24:Ext w20 w24:=Ext.fresh a23 h24
 have p23:=a23.here
 have D24:=(D15.trans e20).trans e24
 have O24:=hO.ext e24
 have nrd:=owsN sv_len (by omega) hO.rr
 have nwr:=owsN sv_len (by omega) hO.ww
 have nch:=owsN chL_len (by omega) hO.cc
 refine⟨o.code,boxAt h24.new 0 (Ch.refl _ _),?_⟩
 rcases ho.both hval hX hr with ⟨hne,q1,q2,q3,q4⟩|⟨hok,s,hrun,hd,hks⟩
 ·have regs:CellsAt w24 b22 (0+2) (rgL r):=fun i v hv=>by
   rw[<-q1] at hv
   match i,hv with
   | 0,hv=>cases hv;exact boxAt h24.new 2 (Ch.refl _ _)
   | 1,hv=>cases hv;exact boxAt h24.new 3 (Ch.refl _ _)
   | 2,hv=>cases hv;exact boxAt h24.new 4 (Ch.refl _ _)
   | 3,hv=>cases hv;exact boxAt h24.new 5 (Ch.refl _ _)
  rw[q2] at nrd;rw[q3] at nwr;rw[q4] at nch
  refine IfB.yes (by simp[hne]) ⟨r,regs,r,boxAll k3 D24,_,eqRg r r,IfB.yes (by simp) ⟨th,boxAt h24.new 8 (Ch.refl _ _),IfB.yes ?_ ⟨tr,boxAt h24.new 6 (Ch.refl _ _),IfB.yes ?_ ⟨tw,boxAt h24.new 7 (Ch.refl _ _),?_,E8.trans D24⟩⟩⟩⟩
  ·rw[show th.2=th.n from rfl,nch];rfl
  ·rw[show tr.2=tr.n from rfl,nrd];rfl
  ·rw[show tw.2=tw.n from rfl,nwr];rfl
 have hm:=runI_may _ 0 _ s hrun
 have D:=extDrew w24
 have D24d:=D24.trans D
 refine IfB.no (by rw[hd.code];rfl) ⟨tr,boxAt h24.new 6 D,tw,boxAt h24.new 7 D,(c9 (O24.rr.ext D).rd (by omega)).use ?_⟩
 rintro _ w35 ⟨bR,rfl,sR,_,e35⟩
 have d35:Ext w24 w35:=D.trans e35
 refine⟨_,rfl,boxAt h24.new 7 d35,(c9 (O24.ww.ext d35).rd (by omega)).use ?_⟩
 rintro _ w38 ⟨bW,rfl,sW,_,e38⟩
 have d38:=d35.trans e38
 have D38:=D24.trans d38
 refine⟨_,rfl,tf,boxAt k1 1 D38,(c16 (hf.ext (E8.trans D38)) (ha.ext (E8.trans D38)) hok.2.2 hok.1 false).use ?_⟩
 rintro _ w42 ⟨bF,rfl,sF,_,e42⟩
 refine⟨_,rfl,(c15 ((sR.ext e38).ext e42) sF).use ?_⟩
 rintro _ _ ⟨i1,rfl,hi1,rfl⟩
 have hi1t:=hi1.2 fun k _ hk=>by
  have:=(hm.2.1 k ((hd.hr k).1 hk)).elim (fun h=>h.elim) id
  simpa [footR] using this
 subst hi1t
 have d42:=d38.trans e42
 have D42:=D24.trans d42
 refine⟨true,rfl,IfB.no rfl ⟨tf,boxAt k1 1 D42,(c16 (hf.ext (E8.trans D42)) (ha.ext (E8.trans D42)) hok.2.2 hok.1 true).use ?_⟩⟩
 rintro _ w49 ⟨bG,rfl,sG,_,e49⟩
 refine⟨_,rfl,(c15 ((sW.ext e42).ext e49) sG).use ?_⟩
 rintro _ _ ⟨i2,rfl,hi2,rfl⟩
 have hi2t:=hi2.2 fun k _ hk=>by
  have:=(hm.2.2 k ((hd.hw k).1 hk)).elim (fun h=>h.elim) id
  simpa [footW] using this
 subst hi2t
 have d49:=d42.trans e49
 have D49:=D24.trans d49
 have E49:=E8.trans D49
 have S49:StA (fun i=>w12.heap.size<=i/\i<w15.heap.size) w49 bS (putL [] lp):=hS15.ext ((e20.trans e24).trans d49)
 refine⟨true,rfl,IfB.no rfl ⟨fun n y V=>∃i:Nat,i<=o.chs.length/\n+i=o.chs.length/\y=(i:Int)/\w49=V,⟨o.chs.length,0,Nat.zero_le _,rfl,rfl,rfl⟩,?_⟩⟩
 rintro n _ _ g ⟨i,hi,hni,rfl,rfl⟩
 unfold F4j1
 have hth:w49.cell? ⟨b22,0+8,none⟩=some (slV th):=boxAt h24.new 8 d49
 refine⟨th,hth,IfB.dec (fun hlt=>?_) fun hge=>?_⟩
 ·have hi':i<o.chs.length:=by omega
  have hx:o.chs[i]? =some o.chs[i]:=List.getElem?_eq_getElem hi'
  have hmem:=List.getElem_mem hi'
  generalize o.chs[i]=c at hx hmem
  obtain⟨pb,po,hp,hcx⟩:=(O24.cc.ext d49).rd.elem (i:=i) (by omega) (by omega) (flatGet chL_len hx)
  have hw:s.wr c.1:=(hks.wr _).2 (by rw[(hd.mem c).1 hmem];simp)
  have hk:=hks.wk _ hw
  obtain⟨q,hq,hqi⟩:=(sW.ext (e42.trans e49)).get (k:=c.1.toNat) (by omega)
  rw[Int.toNat_of_nonneg hk.1] at hqi
  have hq1:=hqi.2 ((hd.hw _).2 hw)
  subst hq1
  refine⟨th,hth,pb,po,hp,⟨by omega,hlt⟩,c.1,by rw[Int.toNat_natCast];exact hcx 0 _ rfl,IfB.no (decide_eq_false (by omega)) (IfB.no (decide_eq_false (by omega)) ⟨bW,0,rfl,⟨hk.1,by omega⟩,true,hq,IfB.no rfl ⟨rfl,n-1,by omega,i+1,hi',by omega,by rw[wrap_of (by omega) (by omega)];rfl,rfl⟩⟩)⟩
 have d49d:=d49.trans (extDrew w49)
 have E49d:Ext w w49.drew:=E49.trans (extDrew _)
 have k5d:w49.drew.cell? ⟨b5,0+0,none⟩=some (iv xo.1):=boxAt k5 0 (D24.trans d49d)
 refine⟨xo.1,k5d,IfB.dec (fun _=>⟨rfl,E49d⟩) fun hlo=>⟨xo.1,k5d,IfB.dec (fun _=>⟨rfl,E49d⟩) fun hhi=>?_⟩⟩
 have hlo:¬xo.1<0:=hlo
 have hhi:¬999<xo.1:=hhi
 obtain⟨q,hq,hqi⟩:=(sR.ext (((e38.trans e42).trans e49).trans (extDrew _))).get (k:=xo.1.toNat) (by omega)
 rw[Int.toNat_of_nonneg (by omega)] at hqi
 refine⟨xo.1,k5d,bR,0,rfl,⟨by omega,by omega⟩,q,hq,IfB.intro (fun _=>⟨rfl,E49d⟩) fun hq0=>?_⟩
 have hno:¬hasS o.rds xo.1:=fun h=>by rw[hqi.2 h] at hq0;cases hq0
 have hkk:0<=xo.1/\xo.1<=999:=⟨by omega,by omega⟩
 unfold F4k1
 refine⟨xo.1,k5d,xo.2,boxAt k5 1 (D24.trans d49d),(c17 (S49.ext (extDrew _)) hI xo.1 xo.2).use ?_⟩
 rintro _ w79 ⟨rfl,hS79,hC79⟩
 rw[if_pos hkk] at hS79
 have z15:=e20.size;have z24:=e24.size;have z49:=d49.size
 have z49d:w49.drew.heap.size=w49.heap.size:=rfl
 have z12:=e15.size;have z8:=e12.size
 have C79:Ch (fun i=>w12.heap.size<=i/\i<w15.heap.size) w24 w79:=(d49d.mono fun _ _ h=>h.elim).then hC79 fun _ _ h=>h
 have C79d:=C79.thenExt (extDrew w79)
 have D79:Ext w8 w79.drew:=(e12.trans ((e15.trans e20).trans e24)).chN C79d fun i h=>by omega
 have E79:=E8.trans D79
 have hI':=putP_inv hI hkk (v:=xo.2)
 have hs':=stP_put hI hkk xo.2
 have hS79d:StA (fun i=>i<w79.drew.heap.size) w79.drew bS (putP (putL [] lp) xo.1 xo.2):=(hS79.mono (B:=fun i=>i<w79.drew.heap.size) fun i hi _=>hi).ext (extDrew _)
 have k22:w79.drew.heap[b22]? =some (.cells (outL o tr tw th).toArray _ (0,0)):=C79d.at h24.new fun h=>by omega
 refine⟨_,rfl,outX o tr tw th,boxAll k22 (Ch.refl _ _),(tc,tf),boxAll k1 D79,r,boxAll k3 D79,(c14 (hc.ext E79) (hf.ext E79) (ha.ext E79) hS79d hI' (fun k v h=>?_) hr hX).use ?_⟩
 ·rw[hs'] at h
  unfold updM at h
  split at h
  ·cases h;exact io
  ·exact hval k v h
 rintro _ w85 ⟨ur,uw,uh,p,rfl,hp,hP,e85⟩
 have hsame:=ho.same (st':=stP (putP (putL [] lp) xo.1 xo.2)) hd.code (fun k=>by
  by_cases e:k=xo.1
  ·subst e;exact .inl hno
  ·right;rw[hs'];unfold updM;rw[if_neg e]) hval hX hr
 have hop:o=p:=hsame.uniq hp
 have O85:OutM w15.heap.size w85 tr tw th o:=(O24.ch C79d fun i hi _ h=>by omega).ext e85
 refine⟨outX p ur uw uh,rfl,boxAll k22 e85,(c18 O85 hP (by omega) (by omega) (by omega) hop).use ?_⟩
 rintro _ w88 ⟨rfl,e88⟩
 exact⟨true,rfl,rfl,(E79.trans e85).trans e88⟩
end Go.Proofs.YtoahfpabpdjkkaaGreat.Gx
namespace Go.Proofs.YtoahfpabpdjkkaaGreat.stepCovers
open Go.ChangeShapes Go.WideShapes Go.ChangeAt Go.RowKit
open Go.ChangeMaps (open_string shut_string)
set_option linter.unusedVariables false
theorem own:ownKnob Tryz.prog.godebug=none:=by kernel_rfl
set_option maxRecDepth 100000 in
theorem lifted(os:Os)(started:os.Started)(H:Type)(enc:TypeId×Value->H):
  ReturnsInHanded {} Tryz.checked os 4 .any (Rows.stepCoversSpec.pre6 enc Tryz.prog Tryz.f4 Rows.stepCoversRow.domain false) (Rows.stepCoversSpec.post enc Tryz.prog Tryz.f4 false true false false):=by
 refine returnsInHanded_of_change (C:=Tryz.checked) own started (by kernel_rfl) Tryz.func4
  (ChangeSpec.witness6 (enc:=enc) (C:=Tryz.checked) false ⟨#[],#[.agg #[.slice none 0 0,.slice none 0 0],.slice none 0 0,.agg #[.int .i64 0,.int .i64 0,.int .i64 0,.int .i64 0],.slice none 0 0,.agg #[.int .i64 0,.int .i64 0]],[]⟩ 8 (by kernel_rfl) (by kernel_rfl) (by kernel_rfl) (by kernel_rfl)) ?_
 intro W base args ds gs before hval0 hW hcnd _
 have hval:∀(j:Nat) t v,Tryz.f4.params[j]? =some t->args[j]? =some v->Value.okWide Tryz.prog W .any base t v:=hval0
 have hW':=hW
 have hlt:=hW.lt
 obtain⟨p,q,hA0,hV,rfl,hfz,hnd⟩:=hW
 have hA:DataW.TrodAll enc Tryz.prog W 0 (fun _=>true) true Tryz.f4.params.toList args.toList ds p:=hA0
 have hpar:Tryz.f4.params=#[36,37,23,38,40]:=rfl
 rw[hpar] at hA hval
 obtain⟨v0,vs0,d0,ds0,p0,q0,hargs,rfl,rfl,h0,r0⟩:=trodAll_cons hA
 obtain⟨v1,vs1,d1,ds1,p1,q1,rfl,rfl,rfl,h1,r1⟩:=trodAll_cons r0
 obtain⟨v2,vs2,d2,ds2,p2,q2,rfl,rfl,rfl,h2,r2⟩:=trodAll_cons r1
 obtain⟨v3,vs3,d3,ds3,p3,q3,rfl,rfl,rfl,h3,r3⟩:=trodAll_cons r2
 obtain⟨v4,vs4,d4,ds4,p4,q4,rfl,rfl,rfl,h4,r4⟩:=trodAll_cons r3
 obtain⟨rfl,rfl,rfl⟩:=trodAll_nil r4
 obtain rfl:args=#[v0,v1,v2,v3,v4]:=by cases args;simp_all
 obtain⟨rfl,rfl⟩:=trodVars_none hV
 clear hA0 hval0
 obtain⟨x0,e0⟩:=Gx.open_arg (d:=12) (ty:=(.pair (.sl (.pair (.int .i64) (.pair (.int .i64) (.pair (.int .i64) (.pair (.int .i64) (.pair (.pair (.int .i64) (.int .i64)) (.pair (.pair (.int .i64) (.int .i64)) (.int .i64)))))))) (.sl (.pair (.pair (.int .i64) (.int .i64)) (.pair (.pair (.int .i64) (.int .i64)) .bool))))) (by kernel_rfl) h0
 have f0:v0=.agg v0.cells:=Gx.val_agg (hval 0 36 v0 rfl rfl) (.inl ⟨_,Tryz.underlying36⟩)
 obtain⟨x1,e1⟩:=Gx.open_arg (d:=12) (ty:=(.sl (.int .i64))) (by kernel_rfl) h1
 obtain⟨c1,g1⟩:∃c,v1.cells.toList=[c]:=List.length_eq_one_iff.1 (Gx.rep_len e1)
 have f1:v1=c1:=Gx.val_of_cells (hval 1 37 v1 rfl rfl) (fun fs n e=>by rw[Tryz.underlying37];exact⟨by simp,by simp⟩) g1
 rw[g1] at e1
 obtain⟨x2,e2⟩:=Gx.open_arg (d:=12) (ty:=(.arr 4 (.int .i64))) (by kernel_rfl) h2
 have f2:v2=.agg v2.cells:=Gx.val_agg (hval 2 23 v2 rfl rfl) (.inr ⟨_,_,Tryz.underlying23⟩)
 obtain⟨x3,e3⟩:=Gx.open_arg (d:=12) (ty:=(.sl (.pair (.int .i64) (.int .i64)))) (by kernel_rfl) h3
 obtain⟨c3,g3⟩:∃c,v3.cells.toList=[c]:=List.length_eq_one_iff.1 (Gx.rep_len e3)
 have f3:v3=c3:=Gx.val_of_cells (hval 3 38 v3 rfl rfl) (fun fs n e=>by rw[Tryz.underlying38];exact⟨by simp,by simp⟩) g3
 rw[g3] at e3
 obtain⟨x4,e4⟩:=Gx.open_arg (d:=12) (ty:=(.pair (.int .i64) (.int .i64))) (by kernel_rfl) h4
 have f4:v4=.agg v4.cells:=Gx.val_agg (hval 4 40 v4 rfl rfl) (.inl ⟨_,Tryz.underlying40⟩)
 have call:Calls Tryz.prog 4 #[v0,v1,v2,v3,v4] W fun e w'=>e=.returned (.bool true)/\Below W.heap.size W w':=by
  rw[f0,f1,f2,f3,f4]
  refine(Gx.stepCovers W e0 e1 e2 e3 e4).calls.mono ?_
  rintro e w' ⟨v,rfl,rfl,hx⟩
  exact⟨rfl,hx.below⟩
 refine call.mono fun e W' ⟨he,hg⟩=>?_
 subst he
 have b4:∀sp:Nat->Bool,(∀x∈p4,sp x.block=true)->DataW.Trod enc Tryz.prog W' 0 sp true 40 v4 d4 p4:=fun sp hsp=>Gx.trod_keep (by kernel_rfl) (by kernel_rfl) (by decide+kernel) h4 hg (fun x hx=>hlt x (by simp[hx])) hsp
 have b3:∀sp:Nat->Bool,(∀x∈p3,sp x.block=true)->DataW.Trod enc Tryz.prog W' 0 sp true 38 v3 d3 p3:=fun sp hsp=>Gx.trod_keep (by kernel_rfl) (by kernel_rfl) (by decide+kernel) h3 hg (fun x hx=>hlt x (by simp[hx])) hsp
 have b2:∀sp:Nat->Bool,(∀x∈p2,sp x.block=true)->DataW.Trod enc Tryz.prog W' 0 sp true 23 v2 d2 p2:=fun sp hsp=>Gx.trod_keep (by kernel_rfl) (by kernel_rfl) (by decide+kernel) h2 hg (fun x hx=>hlt x (by simp[hx])) hsp
 have b1:∀sp:Nat->Bool,(∀x∈p1,sp x.block=true)->DataW.Trod enc Tryz.prog W' 0 sp true 37 v1 d1 p1:=fun sp hsp=>Gx.trod_keep (by kernel_rfl) (by kernel_rfl) (by decide+kernel) h1 hg (fun x hx=>hlt x (by simp[hx])) hsp
 have b0:∀sp:Nat->Bool,(∀x∈p0,sp x.block=true)->DataW.Trod enc Tryz.prog W' 0 sp true 36 v0 d0 p0:=fun sp hsp=>Gx.trod_keep (by kernel_rfl) (by kernel_rfl) (by decide+kernel) h0 hg (fun x hx=>hlt x (by simp[hx])) hsp
 exact⟨_,rfl,Gx.post_of_below (pa:=(p0++(p1++(p2++(p3++(p4++[])))))) (pv:=[]) hW' hg (fun _ _ _=>(trodAll_cons_mk (shut_bool Tryz.underlying4 _) trodAll_mk0)) (fun sp hsp=>by rw[hpar];exact(trodAll_cons_mk (b0 sp fun x hx=>hsp x (by simp[hx])) (trodAll_cons_mk (b1 sp fun x hx=>hsp x (by simp[hx])) (trodAll_cons_mk (b2 sp fun x hx=>hsp x (by simp[hx])) (trodAll_cons_mk (b3 sp fun x hx=>hsp x (by simp[hx])) (trodAll_cons_mk (b4 sp fun x hx=>hsp x (by simp[hx])) trodAll_mk0)))))) (fun _ _=>rfl) (by simp)
  (ok_one (by kernel_rfl) rfl (okWide_bool_mk Tryz.underlying4 _))⟩
set_option maxRecDepth 100000
theorem ft1:(laidOutB Tryz.checked.prog&&mapsRowed Tryz.checked.prog)=true:=by kernel_rfl
theorem ft2:(Rows.stepCoversRow.inPlace == Tryz.checked.prog.inPlace 4)=true:=by kernel_rfl
theorem ft3:(Rows.stepCoversRow.unfollowed == Tryz.checked.prog.unfollowed 4)=true:=by kernel_rfl
theorem ft4:(Rows.stepCoversRow.named == Tryz.checked.prog.varsNamed 4)=true:=by kernel_rfl
theorem ft6:((Tryz.checked.prog.stops == [])&&(Tryz.checked.prog.stopKnobs == []))=true:=by kernel_rfl
theorem ft7:(Rows.stepCoversRow.plainKeys == Tryz.checked.prog.plainKeys)=true:=by kernel_rfl
theorem ft8:Tryz.checked.prog.stopsHeard=true:=by kernel_rfl
theorem ft9:(Tryz.checked.prog.mayEnter&&((Rows.stepCoversRow.lifted == Tryz.checked.prog.liftsFinal)&&(Tryz.checked.prog.make == some Rows.stepCoversRow.make)))=true:=by kernel_rfl
theorem ft5:(Rows.stepCoversRow.recurses == Tryz.checked.prog.recurses 4)=true:=by
 have h:Tryz.checked.prog.unfollowed 4=true:=by have:=ft3;rw[beq_iff_eq] at this;exact this.symm
 unfold Program.recurses;rw[h];rfl
theorem facts:joinedFacts Tryz.checked.prog 4 Tryz.f4 Rows.stepCoversSpec Rows.stepCoversRow=true:=by
 obtain⟨h1,h2⟩:=Bool.and_eq_true_iff.1 ft1
 obtain⟨h3,h4⟩:=Bool.and_eq_true_iff.1 ft6
 obtain⟨h5,h6⟩:=Bool.and_eq_true_iff.1 ft9
 obtain⟨h7,h8⟩:=Bool.and_eq_true_iff.1 h6
 unfold joinedFacts
 rw[h1,h2,ft2,ft3,ft4,ft5,h3,h4,ft7,ft8,h5,h7,h8]
 kernel_rfl
theorem over:Rows.stepCoversRow.holds Tryz.pinned (OpenSpec.ofChange Rows.stepCoversSpec):=
 OpenClaim.holds_of_wide 4 Tryz.f4 rfl rfl rfl rfl rfl rfl rfl ⟨rfl,rfl,rfl,rfl,rfl⟩ rfl rfl rfl rfl rfl (by kernel_rfl) Tryz.func4 facts
  (of_decide_eq_true (by kernel_rfl)) (by unfold Func.isWrapper;first|(rw[if_pos (by decide+kernel)];kernel_rfl)|(rw[if_neg (by decide+kernel)];exact⟨rfl,rfl⟩))
  (fun os started H enc _=>lifted os started H enc)
theorem proved:Rows.StepCoversSaid:=
 over
#print axioms proved
end Go.Proofs.YtoahfpabpdjkkaaGreat.stepCovers
