/- gimmallaw13.StepTwice returns true for all arguments, and leaves what was there as it was. No condition beyond the statement. -/
/- Merged by pack.py: GxPE, RefS, RefU, RefV, RefW, GxPH, StpL, StpQ, StpR, StTwi. -/
import Derived.Test.YtoahfpabpdjkkaaGreatSw1
import Derived.Test.YtoahfpabpdjkkaaGreatSw2
import Derived.Test.YtoahfpabpdjkkaaGreatSw3
import Derived.Test.YtoahfpabpdjkkaaGreatSw4
import Derived.Test.YtoahfpabpdjkkaaGreatSw5
import Derived.Test.YtoahfpabpdjkkaaGreatRows
import Derived.WalkKit
import Derived.ProofKit
import Derived.OpenShut
import Derived.ShutString
import Derived.Below
import Derived.Carry
namespace Go.Proofs.YtoahfpabpdjkkaaGreat.Gx
open Go
set_option linter.unusedVariables false
set_option maxRecDepth 100000
def F41j1(t0:Sl)(t1:Sl)(R:RV)(y1:Nat->Int->World->Prop)(b3:Nat)(n4:Int)(w5:World):Prop:=IfB (decide (n4<(t0.n:Int))) (Qx t0.1 n4 (t0.2:Int) fun b8 b9=>∃(x10:Int×Bool×Int),CellsAt w5.drew b8 (b9+n4.toNat*3) (lC47 x10)/\Qx t1.1 n4 (t1.2:Int) fun b11 b12=>∃(x13:Int×Bool×Int),CellsAt w5.drew b11 (b12+n4.toNat*3) (lC47 x13)/\∃t14:Bool,EqAt Tryz.prog 47 ((.agg (lC47 x10).toArray)) ((.agg (lC47 x13).toArray)) t14/\IfB (!t14) (R (Value.bool false) w5.drew) (([]:List Df)=[]/\∃b15:Nat,b15<b3/\y1 b15 (IntKind.i64.wrap (n4+1)) w5.drew)) (R (Value.bool true) w5)
theorem F41_ok(t0:Sl)(t1:Sl)(w:World)(R:RV)(h:IfB ((t0.2:Int) != (t1.2:Int)) (R (Value.bool false) w) (Ql (α:=Int) 0 w fun y1 b3 n4 w5=>(F41j1 t0 t1 R y1 b3 n4 w5))):Cw 41 #[Qy t0,Qy t1] w R:=
 ckF Tryz.func41 (nd (nd (.node (nd (.loop [(5,oi)] (rg [4,5,11,25]) (nd (.node (.node (.draw (sts [0,1,2,3,4,5,6,7,8] .fin)) .nil) .nil)))) .nil))) h (by kernel_rfl) (by kernel_rfl)
theorem F18_ok(t0:Int×Int×Int×Int×Int×Int×Sl×Sl×Sl)(t1:Int×Int×Int×Int×Int×Int×Sl×Sl×Sl)(w:World)(R:RV)(h:AllocP w (Obj.cells (lC27 t0).toArray 27) fun b1 w2=>AllocP w2 (Obj.cells (lC27 t1).toArray 27) fun b3 w4=>Qi w4 b1 (0+0) fun n5=>Qi w4 b3 (0+0) fun n6=>IfB (n5 == n6) (Qi w4 b1 (0+1) fun n7=>Qi w4 b3 (0+1) fun n8=>IfB (n7 == n8) (∃(x9:Int×Int×Int×Int),CellsAt w4 b1 (0+2) [Qz x9.1,Qz x9.snd.1,Qz x9.snd.snd.1,Qz x9.snd.snd.2]/\∃(x10:Int×Int×Int×Int),CellsAt w4 b3 (0+2) [Qz x10.1,Qz x10.snd.1,Qz x10.snd.snd.1,Qz x10.snd.snd.2]/\∃t11:Bool,EqAt Tryz.prog 23 (Value.agg #[Qz x9.1,Qz x9.snd.1,Qz x9.snd.snd.1,Qz x9.snd.snd.2]) (Value.agg #[Qz x10.1,Qz x10.snd.1,Qz x10.snd.snd.1,Qz x10.snd.snd.2]) t11/\IfB t11 (Qs w4 b1 (0+6) fun s12=>Qs w4 b3 (0+6) fun s13=>Qv' 40 #[Qy s12,Qy s13] w4 fun t16 w15=>IfB t16 (Qs w15 b1 (0+7) fun s17=>Qs w15 b3 (0+7) fun s18=>Qv' 40 #[Qy s17,Qy s18] w15 fun t21 w20=>IfB t21 (Qs w20 b1 (0+8) fun s22=>Qs w20 b3 (0+8) fun s23=>Qv' 41 #[Qy s22,Qy s23] w20 fun t26 w25=>R (Value.bool t26) w25) (R (Value.bool false) w20)) (R (Value.bool false) w15)) (R (Value.bool false) w4)) (R (Value.bool false) w4)) (R (Value.bool false) w4)):Cw 18 #[(.agg (lC27 t0).toArray),(.agg (lC27 t1).toArray)] w R:=
 ckF Tryz.func18 .nil h (by kernel_rfl) (by kernel_rfl)
set_option linter.unusedSimpArgs false
def updM(st:Int->Option Int)(k:Int)(v:Option Int)(j:Int):Option Int:=if j=k then v else st j
def ofL(st:Int->Option Int):List Pr->Int->Option Int
 | []=>st
 | x::l=>ofL (if 0<=x.1/\x.1<=999 then updM st x.1 (some x.2) else st) l
theorem stP_iff{P:List (List Pr)}(hI:Inv P)(k v:Int):stP P k=some v↔(k,v)∈P.flatten:=by
 unfold stP
 constructor
 ·intro h
  split at h
  ·rename_i hk
   cases h
   obtain⟨u,hu⟩:=(has_iff hI k).1 hk.2.2
   rw[valP_is hI hu];exact hu
  ·cases h
 ·intro h
  have hk:=hI.rng _ h
  rw[if_pos ⟨hk.1,hk.2,(has_iff hI k).2 ⟨v,h⟩⟩,valP_is hI h]
theorem optExt{a b:Option Int}(h:∀v,a=some v↔b=some v):a=b:=by
 cases a with
 | none=>cases b with
  | none=>rfl
  | some v=>exact absurd ((h v).2 rfl) (by simp)
 | some v=>exact((h v).1 rfl).symm
theorem stP_put{P:List (List Pr)}(hI:Inv P){k:Int}(hk:0<=k/\k<=999)(v:Int):stP (putP P k v)=updM (stP P) k (some v):=by
 funext j
 refine optExt fun u=>?_
 rw[stP_iff (putP_inv hI hk),putP_flat hI,mem_insS_iff hI.sorted]
 unfold updM
 by_cases e:j=k
 ·subst e
  rw[if_pos rfl]
  simp
  exact eq_comm
 ·rw[if_neg e,stP_iff hI]
  simp[e]
theorem delQ_inv'{P:List (List Pr)}(hI:Inv P)(k:Int):Inv (delQ P k):=by
 unfold delQ
 split
 ·cases hh:hasP P k with
  | false=>rw[if_neg (by simp)];exact hI
  | true=>
   rw[if_pos rfl]
   have hne:P≠[]:=fun e=>by subst e;rw[hasP_nil] at hh;cases hh
   exact(delP_is hI (atP_is hI hne k)).2
 ·exact hI
theorem stP_del{P:List (List Pr)}(hI:Inv P)(k:Int):stP (delQ P k)=updM (stP P) k none:=by
 funext j
 refine optExt fun u=>?_
 rw[stP_iff (delQ_inv' hI k),delQ_flat hI]
 unfold updM delS
 rw[List.mem_filter]
 by_cases e:j=k
 ·subst e;simp
 ·rw[if_neg e,stP_iff hI];simp[e]
theorem stP_nil:stP []=fun _=>none:=by
 funext k;unfold stP;rw[if_neg];rw[hasP_nil];simp
theorem stP_of:∀(l:List Pr)(P:List (List Pr)),Inv P->stP (putL P l)=ofL (stP P) l
 | [],_,_=>rfl
 | x::l,P,hI=>by
  show stP (putL (if 0<=x.1/\x.1<=999 then putP P x.1 x.2 else P) l)=ofL (if 0<=x.1/\x.1<=999 then updM (stP P) x.1 (some x.2) else stP P) l
  split
  ·rename_i hk
   rw[stP_of l _ (putP_inv hI hk),stP_put hI hk]
  ·exact stP_of l P hI
def pairsL(st:Int->Option Int)(i:Nat):List Pr:=(ranI 0 i).filterMap fun k=>(st k).map fun v=>(k,v)
theorem pairsL_len(st:Int->Option Int)(i:Nat):(pairsL st i).length<=i:=Nat.le_trans (List.length_filterMap_le _ _) (by rw[ranI_len];exact Nat.le_refl _)
theorem mem_pairsL{st:Int->Option Int}{i:Nat}{x:Pr}:x∈pairsL st i↔(0<=x.1/\x.1<(i:Int))/\st x.1=some x.2:=by
 unfold pairsL
 rw[List.mem_filterMap]
 constructor
 ·rintro⟨k,hk,h⟩
  rw[mem_ranI] at hk
  cases hs:st k with
  | none=>rw[hs] at h;cases h
  | some v=>rw[hs] at h;cases h;exact⟨⟨by dsimp only;omega,by dsimp only;omega⟩,hs⟩
 ·rintro⟨hk,h⟩
  exact⟨x.1,mem_ranI.2 (by omega),by rw[h];rfl⟩
theorem pairsL_srt(st:Int->Option Int)(i:Nat):Srt (pairsL st i):=by
 have hk:∀l:List Int,l.Pairwise (· < ·)->((l.filterMap fun k=>(st k).map fun v=>((k,v):Pr)).map (·.1)).Pairwise (· < ·):=by
  intro l
  induction l with
  | nil=>intro _;exact .nil
  | cons k l ih=>
   intro h
   have h':=List.pairwise_cons.1 h
   cases hs:st k with
   | none=>simp only[List.filterMap_cons,hs,Option.map_none];exact ih h'.2
   | some v=>
    simp only[List.filterMap_cons,hs,Option.map_some,List.map_cons,List.pairwise_cons]
    refine⟨fun y hy=>?_,ih h'.2⟩
    obtain⟨z,hz,rfl⟩:=List.mem_map.1 hy
    obtain⟨j,hj,e⟩:=List.mem_filterMap.1 hz
    cases hs':st j with
    | none=>rw[hs'] at e;cases e
    | some u=>rw[hs'] at e;cases e;exact h'.1 j hj
 exact hk _ (ranI_srt 0 i)
def appM(st:Int->Option Int):List ChD->Int->Option Int
 | []=>st
 | x::l=>appM (if 0<=x.1/\x.1<=999 then updM st x.1 (if x.2.1=true then none else some x.2.2) else st) l
theorem eqCh(x y:ChD):EqAt Tryz.prog 47 (.agg (chL x).toArray) (.agg (chL y).toArray) (x == y):=by
 have h:=eqAt_struct tbOk (d:=2) (by decide) (t:=47) (xs:=(chL x).toArray) (ys:=(chL y).toArray) (b:=(x.1 == y.1)&&((x.2.1 == y.2.1)&&((x.2.2 == y.2.2)&&true))) (by kernel_rfl) (by kernel_rfl)
 have e:(x == y)=((x.1 == y.1)&&((x.2.1 == y.2.1)&&((x.2.2 == y.2.2)&&true))):=by rw[Bool.and_true];rfl
 rw[e];exact h
theorem c41{w:World}{s t:Sl}{xs ys:List ChD}(hs:Rd w s 3 (xs.flatMap chL))(ht:Rd w t 3 (ys.flatMap chL))(hxl:xs.length<=1000000):
  Cw 41 #[slV s,slV t] w fun v w'=>v=.bool (decide (xs=ys))/\Ext w w':=by
 have hn:=rdN chL_len (by omega) hs
 have hm:=rdN chL_len (by omega) ht
 refine F41_ok s t w _ (IfB.intro (fun hne=>⟨?_,Ch.refl _ _⟩) fun heq=>?_)
 ·have:¬xs=ys:=fun e=>by
   subst e
   have:s.n=t.n:=by omega
   rw[show ((s.2:Int) != (t.2:Int))=((s.n:Int) != (t.n:Int)) from rfl,this] at hne
   simp at hne
  rw[decide_eq_false this]
 have hl:xs.length=ys.length:=by
  have:(s.n:Int)=(t.n:Int):=by simpa using heq
  omega
 refine⟨fun n x W=>∃i:Nat,i<=xs.length/\n+i=xs.length/\x=(i:Int)/\xs.take i=ys.take i/\Ext w W,⟨xs.length,0,Nat.zero_le _,rfl,rfl,rfl,Ch.refl _ _⟩,?_⟩
 rintro n _ W g ⟨i,hi,hni,rfl,he,hE⟩
 unfold F41j1
 refine IfB.dec (fun hlt=>?_) fun hge=>?_
 ·have hi':i<xs.length:=by omega
  have hx:xs[i]? =some xs[i]:=List.getElem?_eq_getElem hi'
  have hy:ys[i]? =some ys[i]:=List.getElem?_eq_getElem (by omega)
  have tx:=take_succ_get hx
  have ty:=take_succ_get hy
  generalize xs[i]=x at hx tx
  generalize ys[i]=y at hy ty
  have hEd:Ext w W.drew:=hE.trans (extDrew _)
  obtain⟨a,o,hp,hc⟩:=(hs.ext hEd).elem (i:=i) (by omega) (by omega) (flatGet chL_len hx)
  obtain⟨a',o',hp',hc'⟩:=(ht.ext hEd).elem (i:=i) (by omega) (by omega) (flatGet chL_len hy)
  refine⟨a,o,hp,⟨by omega,by omega⟩,x,by rw[Int.toNat_natCast];exact hc,a',o',hp',⟨by omega,by omega⟩,y,by rw[Int.toNat_natCast];exact hc',_,eqCh x y,IfB.intro (fun hb=>?_) fun hb=>?_⟩
  ·refine⟨?_,hEd⟩
   have hne:¬xs=ys:=fun e=>by
    subst e
    rw[hx] at hy;cases hy
    simp at hb
   rw[decide_eq_false hne]
  ·have e:x=y:=by simpa using hb
   subst e
   exact⟨rfl,n-1,by omega,i+1,hi',by omega,by rw[wrap_of (by omega) (by omega)];rfl,by rw[tx,ty,he],hEd⟩
 ·have hi':i=xs.length:=by omega
  subst hi'
  have e:xs=ys:=by rw[List.take_length,hl,List.take_length] at he;exact he
  exact⟨by rw[decide_eq_true e],hE⟩
theorem eqPr(x y:Pr):EqAt Tryz.prog 40 (.agg #[.int .i64 x.1,.int .i64 x.2]) (.agg #[.int .i64 y.1,.int .i64 y.2]) (x == y):=by
 have h:=eqAt_struct tbOk (d:=2) (by decide) (t:=40) (xs:=#[.int .i64 x.1,.int .i64 x.2]) (ys:=#[.int .i64 y.1,.int .i64 y.2]) (b:=(x.1 == y.1)&&((x.2 == y.2)&&true)) (by kernel_rfl) (by kernel_rfl)
 have e:(x == y)=((x.1 == y.1)&&((x.2 == y.2)&&true)):=by rw[Bool.and_true];rfl
 rw[e];exact h
theorem prV_len(x:Pr):(prV x).length=2:=rfl
theorem c21{w:World}{s t:Sl}{xs ys:List Pr}(hs:Rd w s 2 (xs.flatMap prV))(ht:Rd w t 2 (ys.flatMap prV))(hxl:xs.length<=1000000):
  Cw 21 #[slV s,slV t] w fun v w'=>v=.bool (decide (xs=ys))/\Ext w w':=by
 have hn:=rdN prV_len (by omega) hs
 have hm:=rdN prV_len (by omega) ht
 refine F21_ok s t w _ (IfB.intro (fun hne=>⟨?_,Ch.refl _ _⟩) fun heq=>?_)
 ·have:¬xs=ys:=fun e=>by
   subst e
   have:s.n=t.n:=by omega
   rw[show ((s.2:Int) != (t.2:Int))=((s.n:Int) != (t.n:Int)) from rfl,this] at hne
   simp at hne
  rw[decide_eq_false this]
 have hl:xs.length=ys.length:=by
  have:(s.n:Int)=(t.n:Int):=by simpa using heq
  omega
 refine⟨fun n x W=>∃i:Nat,i<=xs.length/\n+i=xs.length/\x=(i:Int)/\xs.take i=ys.take i/\Ext w W,⟨xs.length,0,Nat.zero_le _,rfl,rfl,rfl,Ch.refl _ _⟩,?_⟩
 rintro n _ W g ⟨i,hi,hni,rfl,he,hE⟩
 unfold F21j1
 refine IfB.dec (fun hlt=>?_) fun hge=>?_
 ·have hi':i<xs.length:=by omega
  have hx:xs[i]? =some xs[i]:=List.getElem?_eq_getElem hi'
  have hy:ys[i]? =some ys[i]:=List.getElem?_eq_getElem (by omega)
  have tx:=take_succ_get hx
  have ty:=take_succ_get hy
  generalize xs[i]=x at hx tx
  generalize ys[i]=y at hy ty
  have hEd:Ext w W.drew:=hE.trans (extDrew _)
  obtain⟨a,o,hp,hc⟩:=(hs.ext hEd).elem (i:=i) (by omega) (by omega) (flatGet prV_len hx)
  obtain⟨a',o',hp',hc'⟩:=(ht.ext hEd).elem (i:=i) (by omega) (by omega) (flatGet prV_len hy)
  refine⟨a,o,hp,⟨by omega,by omega⟩,x,by rw[Int.toNat_natCast];exact hc,a',o',hp',⟨by omega,by omega⟩,y,by rw[Int.toNat_natCast];exact hc',_,eqPr x y,IfB.intro (fun hb=>?_) fun hb=>?_⟩
  ·refine⟨?_,hEd⟩
   have hne:¬xs=ys:=fun e=>by
    subst e
    rw[hx] at hy;cases hy
    simp at hb
   rw[decide_eq_false hne]
  ·have e:x=y:=by simpa using hb
   subst e
   exact⟨rfl,n-1,by omega,i+1,hi',by omega,by rw[wrap_of (by omega) (by omega)];rfl,by rw[tx,ty,he],hEd⟩
 ·have hi':i=xs.length:=by omega
  subst hi'
  have e:xs=ys:=by rw[List.take_length,hl,List.take_length] at he;exact he
  exact⟨by rw[decide_eq_true e],hE⟩
theorem eqRg(x y:Rg):EqAt Tryz.prog 23 (.agg (rgL x).toArray) (.agg (rgL y).toArray) (x == y):=by
 have h:=eqAt_ints tbOk (t:=23) (e:=2) (ti:=tt23) (te:={ kd:=.int .i64,size:=1,bytes:=8,zero:=.int .i64 0,sh:=.one (.int .i64) }) (n:=4) (k:=.i64) (k':=.i64) (xs:=[x.1,x.2.1,x.2.2.1,x.2.2.2]) (ys:=[y.1,y.2.1,y.2.2.1,y.2.2.2]) (by kernel_rfl) rfl (by kernel_rfl) rfl rfl rfl rfl (by kernel_rfl)
 have e:(x == y)=([x.1,x.2.1,x.2.2.1,x.2.2.2] == [y.1,y.2.1,y.2.2.1,y.2.2.2]):=by
  obtain⟨a,b,c,d⟩:=x
  obtain⟨a',b',c',d'⟩:=y
  show ((a == a')&&((b == b')&&((c == c')&&(d == d'))))=_
  simp
 rw[e];exact h
theorem c18{w:World}{n m:Nat}{tr tw th ur uw uh:Sl}{o p:OutD}(ho:OutM n w tr tw th o)(hp:OutM m w ur uw uh p)(h1:o.rds.length<=1000000)(h2:o.wrs.length<=1000000)(h3:o.chs.length<=1000000)(he:o=p):
  Cw 18 #[.agg (outL o tr tw th).toArray,.agg (outL p ur uw uh).toArray] w fun v w'=>v=.bool true/\Ext w w':=by
 subst he
 refine F18_ok (outX o tr tw th) (outX o ur uw uh) w _ fun b1 w2 a2 b3 w4 a4=>?_
 have e2:Ext w w2:=a2.ch _
 have x4:Ext w2 w4:=a4.ch _
 have e4:Ext w w4:=e2.trans x4
 have k1:w2.heap[b1]? =some (.cells (outL o tr tw th).toArray _ (0,0)):=a2.new
 have k3:w4.heap[b3]? =some (.cells (outL o ur uw uh).toArray _ (0,0)):=a4.new
 have regs:∀ {b:Nat}{V W:World}{q:Sl}{q2 q3:Sl},V.heap[b]? =some (.cells (outL o q q2 q3).toArray 27 (0,0))->Ext V W->CellsAt W b (0+2) (rgL o.r):=fun{b V W q q2 q3} h e i v hv=>by
  match i,hv with
  | 0,hv=>cases hv;exact boxAt h 2 e
  | 1,hv=>cases hv;exact boxAt h 3 e
  | 2,hv=>cases hv;exact boxAt h 4 e
  | 3,hv=>cases hv;exact boxAt h 5 e
 refine⟨o.code,boxAt k1 0 x4,o.code,boxAt k3 0 (Ch.refl _ _),IfB.yes (by simp) ⟨o.at',boxAt k1 1 x4,o.at',boxAt k3 1 (Ch.refl _ _),IfB.yes (by simp) ⟨o.r,regs k1 x4,o.r,regs k3 (Ch.refl _ _),_,eqRg o.r o.r,IfB.yes (by simp) ⟨tr,boxAt k1 6 x4,ur,boxAt k3 6 (Ch.refl _ _),?_⟩⟩⟩⟩
 refine(c40 (ho.rr.ext e4).rd (hp.rr.ext e4).rd h1).use ?_
 rintro _ w15 ⟨rfl,e15⟩
 refine⟨_,rfl,IfB.yes (by simp) ⟨tw,boxAt k1 7 (x4.trans e15),uw,boxAt k3 7 e15,(c40 (ho.ww.ext (e4.trans e15)).rd (hp.ww.ext (e4.trans e15)).rd h2).use ?_⟩⟩
 rintro _ w20 ⟨rfl,e20⟩
 have E20:=(e4.trans e15).trans e20
 refine⟨_,rfl,IfB.yes (by simp) ⟨th,boxAt k1 8 ((x4.trans e15).trans e20),uh,boxAt k3 8 (e15.trans e20),(c41 (ho.cc.ext E20).rd (hp.cc.ext E20).rd h3).use ?_⟩⟩
 rintro _ w25 ⟨rfl,e25⟩
 exact⟨_,rfl,by simp,E20.trans e25⟩
def appQ(P:List (List Pr)):List ChD->List (List Pr)
 | []=>P
 | x::l=>appQ (if x.2.1=true then delQ P x.1 else if 0<=x.1/\x.1<=999 then putP P x.1 x.2.2 else P) l
theorem appQ_snoc:∀(l:List ChD)(P:List (List Pr))(x:ChD),appQ P (l++[x])=if x.2.1=true then delQ (appQ P l) x.1 else if 0<=x.1/\x.1<=999 then putP (appQ P l) x.1 x.2.2 else appQ P l
 | [],_,_=>rfl
 | y::l,P,x=>appQ_snoc l _ x
theorem appQ_one{P:List (List Pr)}(hI:Inv P)(x:ChD):Inv (if x.2.1=true then delQ P x.1 else if 0<=x.1/\x.1<=999 then putP P x.1 x.2.2 else P)/\
  stP (if x.2.1=true then delQ P x.1 else if 0<=x.1/\x.1<=999 then putP P x.1 x.2.2 else P)=if 0<=x.1/\x.1<=999 then updM (stP P) x.1 (if x.2.1=true then none else some x.2.2) else stP P:=by
 by_cases hg:x.2.1=true
 ·rw[if_pos hg]
  refine⟨delQ_inv' hI _,?_⟩
  by_cases hk:0<=x.1/\x.1<=999
  ·rw[if_pos hk,if_pos hg,stP_del hI]
  ·rw[if_neg hk];unfold delQ;rw[if_neg hk]
 ·rw[if_neg hg]
  by_cases hk:0<=x.1/\x.1<=999
  ·rw[if_pos hk,if_pos hk,if_neg hg]
   exact⟨putP_inv hI hk,stP_put hI hk _⟩
  ·rw[if_neg hk,if_neg hk];exact⟨hI,rfl⟩
theorem appQ_ok:∀(l:List ChD){P:List (List Pr)},Inv P->Inv (appQ P l)/\stP (appQ P l)=appM (stP P) l
 | [],_,hI=>⟨hI,rfl⟩
 | x::l,P,hI=>by
  obtain⟨h1,h2⟩:=appQ_one hI x
  obtain⟨h3,h4⟩:=appQ_ok l h1
  refine⟨h3,h4.trans ?_⟩
  rw[h2];rfl
theorem c24{A:Nat->Prop}{w:World}{bS:Nat}{P:List (List Pr)}{t:Sl}{l:List ChD}(h:StA A w bS P)(hI:Inv P)(ht:Rd w t 3 (l.flatMap chL))(hl:l.length<=1000000)(hd:0<t.n->∀i∈blk t,¬A i):
  Cw 24 #[.pointer (some ⟨bS,0,none⟩),slV t] w fun v w'=>v=.tuple #[]/\StA (New A w) w' bS (appQ P l)/\Ch A w w':=by
 have hn:=rdN chL_len (by omega) ht
 refine F24_ok _ t w _ ⟨fun n x W=>∃i:Nat,i<=l.length/\n+i=l.length/\x=(i:Int)/\StA (New A w) W bS (appQ P (l.take i))/\Ch A w W,⟨l.length,0,Nat.zero_le _,rfl,rfl,h.mono fun _ _ h=>.inl h,Ch.refl _ _⟩,?_⟩
 rintro n _ W g ⟨i,hi,hni,rfl,hS,hC⟩
 unfold F24j1
 refine IfB.dec (fun hlt=>?_) fun hge=>?_
 ·have hi':i<l.length:=by omega
  have hx:l[i]? =some l[i]:=List.getElem?_eq_getElem hi'
  have htk:=take_succ_get hx
  generalize l[i]=x at hx htk
  obtain⟨pb,po,hp,hc⟩:=(ht.ch hC (hd (by omega))).elem (i:=i) (by omega) (by omega) (flatGet chL_len hx)
  refine⟨pb,po,hp,⟨by omega,hlt⟩,x,by rw[Int.toNat_natCast];exact hc,fun b11 w12 a12=>⟨rfl,store_all a12.new rfl (chL_one x) fun w13 h13=>?_⟩⟩
  have e13:Ext W w13:=Ext.fresh a12 h13
  have hIi:=(appQ_ok (l.take i) hI).1
  have hsW:=hC.size
  have hi1:IntKind.i64.wrap ((i:Int)+1)=((i+1:Nat):Int):=by rw[wrap_of (by omega) (by omega)];rfl
  have k13:w13.heap[b11]? =some (.cells (chL x).toArray _ (0,0)):=h13.new
  have mono:∀ {V:World}{Q:List (List Pr)},StA (New (New A w) w13) V bS Q->StA (New A w) V bS Q:=fun h=>h.mono fun j _ hj=>hj.elim id fun h=>.inr (by have:=e13.size;omega)
  have chn:∀ {V:World},Ch (New A w) w13 V->Ch A w V:=fun hc'=>(hC.then e13 fun _ _ h=>h.elim).then hc' fun j hj h=>h.elim id fun h=>by omega
  refine⟨x.2.1,boxAt k13 1 (Ch.refl _ _),?_⟩
  cases hg:x.2.1 with
  | true=>
   refine IfB.yes rfl ⟨x.1,boxAt k13 0 (Ch.refl _ _),(c48 (hS.ext e13) hIi x.1).use ?_⟩
   rintro _ w17 ⟨rfl,hS17,hc17⟩
   refine⟨_,rfl,rfl,n-1,by omega,i+1,hi',by omega,hi1,?_,chn hc17⟩
   rw[htk,appQ_snoc,if_pos hg]
   exact mono hS17
  | false=>
   refine IfB.no rfl ⟨x.1,boxAt k13 0 (Ch.refl _ _),x.2.2,boxAt k13 2 (Ch.refl _ _),(c17 (hS.ext e13) hIi x.1 x.2.2).use ?_⟩
   rintro _ w23 ⟨rfl,hS23,hc23⟩
   refine⟨_,rfl,rfl,n-1,by omega,i+1,hi',by omega,hi1,?_,chn hc23⟩
   rw[htk,appQ_snoc,if_neg (by rw[hg];simp)]
   exact mono hS23
 ·have hi':i=l.length:=by omega
  subst hi'
  rw[List.take_length] at hS
  exact⟨rfl,hS,hC⟩
set_option maxRecDepth 10000
section
variable {w55:World} {bN b26 b29 b31 bR bW b45:Nat} {st0:Int->Option Int} {s:PS} {x:InsD} {args:List Int} {foot:List SpTD} {ta:Sl} {asked:Bool}
end
set_option maxRecDepth 20000
section
variable {n0:Nat} {w37:World} {bN b26 b29 b31 b5:Nat} {st0:Int->Option Int} {s:PS} {cs5:List Value} {T5:TypeId}
end
def F7j2(R:RV)(p14:Option Addr)(b20:Nat)(s46:Sl)(y51:Nat->Int->World->Prop)(b53:Nat)(n54:Int)(w55:World):Prop:=Qs w55 b20 (0+8) fun s58=>IfB (decide (n54<(s58.n:Int))) (Qs w55 b20 (0+8) fun s59=>Qx s59.1 n54 (s59.2:Int) fun b60 b61=>Qi w55 b60 (b61+n54.toNat*3+0) fun n62=>Cx 26 #[Value.pointer p14,Qz n62] w55 fun v63 w64=>∃(x65:Int×Int),v63=Value.tuple #[Qz x65.1,Qz x65.2]/\Qs w64 b20 (0+8) fun s66=>Qx s66.1 n54 (s66.2:Int) fun b67 b68=>Qb w64 b67 (b68+n54.toNat*3+1) fun t69=>IfB (!t69 == (x65.2 == 5)) (R (Value.bool false) w64) (Qs w64 b20 (0+8) fun s70=>Qx s70.1 n54 (s70.2:Int) fun b71 b72=>Qb w64 b71 (b72+n54.toNat*3+1) fun t73=>IfB (!t73) (Qs w64 b20 (0+8) fun s74=>Qx s74.1 n54 (s74.2:Int) fun b75 b76=>Qi w64 b75 (b76+n54.toNat*3+2) fun n77=>IfB (x65.1 != n77) (R (Value.bool false) w64) (([]:List Df)=[]/\∃b78:Nat,b78<b53/\y51 b78 (IntKind.i64.wrap (n54+1)) w64)) (([]:List Df)=[]/\∃b79:Nat,b79<b53/\y51 b79 (IntKind.i64.wrap (n54+1)) w64))) (Qu' 22 #[Value.pointer p14,Qz 0,Qz 999] w55 fun s82 w81=>Qv' 21 #[Qy s46,Qy s82] w81 fun t85 w84=>R (Value.bool t85) w84)
def F7j1(R:RV)(p14:Option Addr)(b20:Nat)(y23:Nat->Int->World->Prop)(b25:Nat)(n26:Int)(w27:World):Prop:=Qs w27 b20 (0+8) fun s30=>IfB (decide (n26<(s30.n:Int))) (Qs w27.drew b20 (0+8) fun s31=>Qx s31.1 n26 (s31.2:Int) fun b32 b33=>Qi w27.drew b32 (b33+n26.toNat*3+0) fun n34=>Qs w27.drew b20 (0+8) fun s35=>Qx s35.1 (IntKind.i64.wrap (n26-1)) (s35.2:Int) fun b36 b37=>Qi w27.drew b36 (b37+(IntKind.i64.wrap (n26-1)).toNat*3+0) fun n38=>IfB (decide (n34<=n38)) (R (Value.bool false) w27.drew) (([]:List Df)=[]/\∃b39:Nat,b39<b25/\y23 b39 (IntKind.i64.wrap (n26+1)) w27.drew)) (Qs w27 b20 (0+8) fun s40=>Cx 24 #[Value.pointer p14,Qy s40] w27 fun v41 w42=>∃y43:Unit,v41=Value.tuple #[]/\Qu' 22 #[Value.pointer p14,Qz 0,Qz 999] w42 fun s46 w45=>Qs w45 b20 (0+8) fun s47=>Cx 24 #[Value.pointer p14,Qy s47] w45 fun v48 w49=>∃y50:Unit,v48=Value.tuple #[]/\Ql (α:=Int) 0 w49 fun y51 b53 n54 w55=>(F7j2 R p14 b20 s46 y51 b53 n54 w55))
def F7k1(t3:Sl)(w10:World)(b1:Nat)(b3:Nat)(t1:Sl)(R:RV):Prop:=Cx 13 #[Qy t3] w10 fun v12 w13=>∃(p14:Option Addr),v12=Value.pointer p14/\∃(x15:Sl×Sl),CellsAt w13 b1 0 [Qy x15.fst,Qy x15.snd]/\∃(x16:Int×Int×Int×Int),CellsAt w13 b3 0 [Qz x16.1,Qz x16.snd.1,Qz x16.snd.snd.1,Qz x16.snd.snd.2]/\Cx 14 #[Value.agg #[Qy x15.fst,Qy x15.snd],Qy t1,Value.agg #[Qz x16.1,Qz x16.snd.1,Qz x16.snd.snd.1,Qz x16.snd.snd.2],Value.pointer p14,Value.bool false] w13 fun v17 w18=>∃(x19:Int×Int×Int×Int×Int×Int×Sl×Sl×Sl),v17=Value.agg (lC27 x19).toArray/\AllocP w18 (Obj.cells #[Qz 0,Qz 0,Qz 0,Qz 0,Qz 0,Qz 0,Value.slice none 0 0,Value.slice none 0 0,Value.slice none 0 0] 27) fun b20 w21=>(lC27 x19).toArray.size=9/\StoreP w21 b20 0 (lC27 x19) fun w22=>Ql (α:=Int) 1 w22 fun y23 b25 n26 w27=>(F7j1 R p14 b20 y23 b25 n26 w27)
theorem F7_ok(t0:Sl×Sl)(t1:Sl)(t2:Int×Int×Int×Int)(t3:Sl)(w:World)(R:RV)(h:AllocP w (Obj.cells #[Qy t0.fst,Qy t0.snd] 36) fun b1 w2=>AllocP w2 (Obj.cells #[Qz t2.1,Qz t2.snd.1,Qz t2.snd.snd.1,Qz t2.snd.snd.2] 23) fun b3 w4=>Qv' 8 #[] w4 fun t7 w6=>IfB (!t7) (R (Value.bool false) w6) (∃(x8:Sl×Sl),CellsAt w6 b1 0 [Qy x8.fst,Qy x8.snd]/\Qv' 12 #[Value.agg #[Qy x8.fst,Qy x8.snd],Qy t1,Qy t3] w6 fun t11 w10=>IfB t11 (R (Value.bool true) w10) (F7k1 t3 w10 b1 b3 t1 R))):Cw 7 #[Value.agg #[Qy t0.fst,Qy t0.snd],Qy t1,Value.agg #[Qz t2.1,Qz t2.snd.1,Qz t2.snd.snd.1,Qz t2.snd.snd.2],Qy t3] w R:=
 ckF Tryz.func7 (nd (nd (nd (nd (nd (.node (nd (.loop [(11,oi)] (rg [8,8,11,11,29,49]) (nd (.node (.node (.draw (sts [0,1,2,3,4,5,6,7,8,9,10,11,12,13] .fin)) .nil) .nil)))) (nd (nd (nd (.node (nd (.loop [(13,oi)] (rg [8,8,13,15,60,105]) .nil)) .nil)))))))))) h (by kernel_rfl) (by kernel_rfl)
def F8(w:World)(R:RV):Prop:=AllocP w (Obj.cells #[Qz 0,Qz 0] 64) fun b1 w2=>#[Qz (-1:Int),Qz 5].size=2/\StoreP w2 b1 0 [Qz (-1:Int),Qz 5] fun w3=>∃(x4:Int×Int),CellsAt w3 b1 0 [Qz x4.1,Qz x4.2]/\∃(x5:Int×Int),CellsAt w3 b1 0 [Qz x5.1,Qz x5.2]/\2*9<=16777216/\AllocP w3 (Obj.cells #[Qz 2,Qz 0,Qz 0,Qz 0,Qz x4.1,Qz x4.2,Qz 0,Qz 0,Qz 0,Qz 1,Qz 1,Qz 0,Qz 0,Qz x5.1,Qz x5.2,Qz 0,Qz 0,Qz 0] 66) fun b6 w7=>AllocP w7 (Obj.cells #[Value.slice none 0 0] 69) fun b8 w9=>Cx 14 #[Value.agg #[Value.slice (some ⟨b6,0,none⟩) 2 2,Value.slice none 0 0],Value.slice none 0 0,Value.agg #[Qz 7,Qz 0,Qz 0,Qz 0],Value.pointer (some ⟨b8,0,none⟩),Value.bool false] w9 fun v10 w11=>∃(x12:Int×Int×Int×Int×Int×Int×Sl×Sl×Sl),v10=Value.agg (lC27 x12).toArray/\AllocP w11 (Obj.cells #[Qz 0,Qz 0,Qz 0,Qz 0,Qz 0,Qz 0,Value.slice none 0 0,Value.slice none 0 0,Value.slice none 0 0] 27) fun b13 w14=>(lC27 x12).toArray.size=9/\StoreP w14 b13 0 (lC27 x12) fun w15=>1*2<=16777216/\AllocP w15 (Obj.cells #[Qz 5,Qz 5] 71) fun b16 w17=>∃(x18:Int×Int×Int×Int×Int×Int×Sl×Sl×Sl),CellsAt w17 b13 0 (lC27 x18)/\1*3<=16777216/\AllocP w17 (Obj.cells #[Qz 5,Value.bool false,Qz 7] 47) fun b19 w20=>Qv' 18 #[Value.agg (lC27 x18).toArray,Value.agg #[Qz 0,Qz 0,Qz 7,Qz 7,Qz 0,Qz 0,Value.slice (some ⟨b16,0,none⟩) 1 1,Value.slice (some ⟨b16,0,none⟩) 1 1,Value.slice (some ⟨b19,0,none⟩) 1 1]] w20 fun t23 w22=>R (Value.bool t23) w22
theorem F8_ok(w:World)(R:RV)(h:F8 w R):Cw 8 #[] w R:=
 call_of tbOk mixed en8 Tryz.func8 rfl .nil (by kernel_rfl) (Nat.le_of_ble_eq_true (by kernel_rfl)) (Eq.mp (α:=F8 w R) (by kernel_rfl) h)
theorem F12_ok(t0:Sl×Sl)(t1:Sl)(t2:Sl)(w:World)(R:RV)(h:AllocP w (Obj.cells #[Qy t0.fst,Qy t0.snd] 36) fun b1 w2=>Qs w2 b1 (0+0) fun s3=>IfB (decide (20<(s3.n:Int))) (R (Value.bool true) w2) (Qs w2 b1 (0+1) fun s4=>IfB (decide (20<(s4.n:Int))) (R (Value.bool true) w2) (IfB (decide (10<(t1.n:Int))) (R (Value.bool true) w2) (R (Value.bool (decide (100<(t2.n:Int)))) w2)))):Cw 12 #[Value.agg #[Qy t0.fst,Qy t0.snd],Qy t1,Qy t2] w R:=
 ckF Tryz.func12 .nil h (by kernel_rfl) (by kernel_rfl)
abbrev tySpn:Ty:=.pair tyI tyI
abbrev tyRg:Ty:=.arr 4 tyI
theorem arr_eq{cs:Array Value}{l:List Value}(h:cs.toList=l):cs=l.toArray:=by rw[<-h]
section
variable {A:Nat->Prop} {w:World}
theorem rep_all{e:Ty}{f:e.den->List Value}{Q:e.den->Prop}{l:List e.den}{cs:List Value}(hz:0<e.sz)(h:rep A w (.sl e) l cs)(hp:∀x c,rep A w e x c->c=f x/\Q x):
  ∃s:Sl,cs=[slV s]/\Rd w s e.sz (l.flatMap f)/\s.n=l.length/\(∀x∈l,Q x)/\(0<s.n->∀i∈blk s,i<w.heap.size):=by
 obtain⟨s,rfl,h2,h3,h4,h5⟩:=rep_plain (f:=f) h fun x _ c hc=>(hp x c hc).1
 refine⟨s,rfl,h2,h3,fun x hx=>?_,fun h0=>rep_blk_lt h hz h0⟩
 obtain⟨t,ht,_,_,_,_,css,h6,h7,h8⟩:=h
 obtain⟨i,hi,rfl⟩:=List.getElem_of_mem hx
 exact(hp _ _ (h7 i _ _ (List.getElem?_eq_getElem (by omega)) (List.getElem?_eq_getElem hi))).2
theorem i64_of{n:Int}(h:IntKind.i64.min<=n/\n<=IntKind.i64.max):I64 n:=⟨h.1,h.2⟩
theorem rep_pr{x:Pr}{cs:List Value}(h:rep A w tySpn x cs):cs=prV x/\I64 x.2:=by
 obtain⟨c,d,rfl,⟨rfl,_⟩,rfl,h⟩:=h;exact⟨rfl,i64_of h⟩
theorem rep_insI{x:InsD}{cs:List Value}(h:rep A w tyIns x cs):cs=insC x/\I64 x.X:=by
 refine⟨rep_ins h,?_⟩
 obtain⟨_,_,_,_,_,_,_,_,_,_,_,_,_,_,_,_,_,_,_,_,_,_,_,_,_,h⟩:=h
 exact i64_of h
theorem rep_rg{x:tyRg.den}{cs:List Value}(h:rep A w tyRg x cs):∃r:Rg,cs=rgL r/\RgOk r:=by
 obtain⟨h4,css,hl,hr,rfl⟩:=h
 have get:∀i(hi:i<x.length),∃n:Int,css[i]? =some [iv n]/\I64 n:=fun i hi=>by
  have hc:=List.getElem?_eq_getElem (show i<css.length by omega)
  obtain⟨e,h⟩:=hr i _ _ hc (List.getElem?_eq_getElem hi)
  exact⟨x[i],by rw[hc,e],i64_of h⟩
 obtain⟨a,ha,ia⟩:=get 0 (by omega)
 obtain⟨b,hb,ib⟩:=get 1 (by omega)
 obtain⟨c,hc,ic⟩:=get 2 (by omega)
 obtain⟨d,hd,id⟩:=get 3 (by omega)
 refine⟨(a,b,c,d),?_,ia,ib,ic,id⟩
 have e:css=[[iv a],[iv b],[iv c],[iv d]]:=by
  match css,hl.trans h4,ha,hb,hc,hd with
  | [q0,q1,q2,q3],_,ha,hb,hc,hd=>simp at ha hb hc hd;rw[ha,hb,hc,hd]
 rw[e];rfl
end
theorem stScan{A:Nat->Prop}{w:World}{b:Nat}{P:List (List Pr)}(hS:StA A w b P)(hI:Inv P):
  Cw 22 #[.pointer (some ⟨b,0,none⟩),iv 0,iv 999] w fun v w'=>∃t,v=slV t/\OwS w' t 2 (prs (pairsL (stP P) 1000))/\Ext w w'/\∀j∈blk t,w.heap.size<=j:=by
 obtain⟨s,ps,hS,hP,_⟩:=hS
 have hl:ps.length<=1000000:=by have:=hI.plen;rw[<-hP,List.length_map] at this;omega
 have h:=c22 (w:=w) (src:=some (b,s,ps)) ⟨hS,hl⟩ (by rw[show Src.fl (some (b,s,ps))=flatS ps from rfl,flatS_eq hP];exact hI.flen) 0 999
 rw[show Src.fl (some (b,s,ps))=flatS ps from rfl,flatS_eq hP,scanS_all (fun y hy=>(hI.rng y hy).2),List.filter_eq_self.2 (fun x hx=>decide_eq_true (hI.rng x hx).1)] at h
 have e:P.flatten=pairsL (stP P) 1000:=srt_ext hI.sorted (pairsL_srt _ _) fun x=>by
  rw[mem_pairsL,stP_iff hI]
  exact⟨fun hx=>⟨by have:=hI.rng x hx;omega,hx⟩,fun hx=>hx.2⟩
 rw[<-e]
 exact h
abbrev keyA:KeyD:=(-1,5)
abbrev codeA:List InsD:=[(2,0,0,0,keyA,(0,0),0),(1,1,0,0,keyA,(0,0),0)]
theorem codeA_ok:RightP codeA [] []:=by
 refine⟨⟨by decide,by simp⟩,.inr ⟨by decide,by decide,by decide,by decide,fun x hx=>?_⟩,by decide,by decide,by decide,by simp⟩
 simp at hx
 rcases hx with rfl|rfl<;>constructor<;>simp[KeyOk]
theorem aliveOut{mr mw:Int->Prop}(hr:∀k,mr k)(hw:∀k,mw k){o:OutD}(h:IsOut (RightP codeA [] []) (stP []) mr mw [] codeA (7,0,0,0) o):o=⟨0,0,(7,7,0,0),[(5,5)],[(5,5)],[(5,false,7)]⟩:=by
 have h1:=h.2 codeA_ok
 have kA:keyAt keyA []=5:=rfl
 have s1:stepI (stP []) mr mw [] (2,0,0,0,keyA,(0,0),0) (ps0 (7,0,0,0))=.inr ⟨(7,0,0,0),fun _=>False,fun j=>False\/j=5,fun j=>if j=5 then some (false,7) else none⟩:=by
  unfold stepI
  rw[if_neg (by decide),if_pos rfl,show keyAt (InsD.K (2,0,0,0,keyA,(0,0),0)) []=5 from rfl,if_pos (bq_iff.2 (hw 5))]
  rfl
 have s2:stepI (stP []) mr mw [] (1,1,0,0,keyA,(0,0),0) ⟨(7,0,0,0),fun _=>False,fun j=>False\/j=5,fun j=>if j=5 then some (false,7) else none⟩=.inr ⟨(7,7,0,0),fun j=>False\/j=5,fun j=>False\/j=5,fun j=>if j=5 then some (false,7) else none⟩:=by
  unfold stepI
  rw[if_pos rfl,show keyAt (InsD.K (1,1,0,0,keyA,(0,0),0)) []=5 from rfl,if_pos (bq_iff.2 (hr 5))]
  rfl
 simp only[runI,s1,s2] at h1
 refine h1.uniq ⟨rfl,rfl,rfl,⟨by simp,by simp[mayS]⟩,fun k=>?_,⟨by simp,by simp[mayS]⟩,fun k=>?_,by simp,fun c=>?_⟩
 ·simp[hasS,mayS];omega
 ·simp[hasS,mayS];omega
 ·obtain⟨k,g,v⟩:=c
  dsimp only
  by_cases e:k=5
  ·subst e;simp[eq_comm]
  ·simp[e]
theorem c8(w:World):Cw 8 #[] w fun v w'=>v=.bool true/\Ext w w':=by
 refine F8_ok w _ fun b1 w2 a2=>⟨rfl,store_all a2.new rfl (by intro v hv;simp at hv;rcases hv with rfl|rfl<;>rfl) fun w3 h3=>?_⟩
 have e3:Ext w w3:=Ext.fresh a2 h3
 refine⟨keyA,boxAll h3.new (Ch.refl _ _),keyA,boxAll h3.new (Ch.refl _ _),by decide,fun b6 w7 a7 b8 w9 a9=>?_⟩
 have x9:Ext w7 w9:=a9.ch _
 have E9:Ext w w9:=(e3.trans (a7.ch _)).trans x9
 have hcode:Rd w9 ⟨some ⟨b6,0,none⟩,2,2⟩ 9 (codeA.flatMap insC):=((OwS.new (cs:=codeA.flatMap insC) (n:=2) (sz:=9) a7 rfl).ext x9).rd
 have hS:StA (fun i=>i<w9.heap.size) w9 b8 []:=by
  refine⟨⟨none,0,0⟩,[],⟨⟨_,a9.new⟩,.nil _ _,by simp,by simp,by simp,by simp[blk]⟩,rfl,?_⟩
  have p9:=a9.here;have z9:=a9.size
  rintro j (rfl|h|⟨x,hx,h⟩)
  ·omega
  ·simp[blk] at h
  ·simp at hx
 refine(c14 (foot:=[]) (args:=[]) (r:=(7,0,0,0)) (tf:=⟨none,0,0⟩) (ta:=⟨none,0,0⟩) hcode (OwS.nil _ _).rd (OwS.nil _ _).rd hS Inv.nil (fun k v h=>by rw[stP_nil] at h;cases h) ⟨⟨by decide,by decide⟩,⟨by decide,by decide⟩,⟨by decide,by decide⟩,⟨by decide,by decide⟩⟩ (fun x hx=>by simp at hx;rcases hx with rfl|rfl<;>exact⟨by decide,by decide⟩)).use ?_
 rintro _ w11 ⟨tr,tw,th,o,rfl,ho,hO,e11⟩
 have ho:=aliveOut (fun _=>.inl rfl) (fun _=>.inl rfl) ho
 subst ho
 refine⟨_,rfl,fun b13 w14 a14=>⟨rfl,store_all a14.new rfl (outL_one _ tr tw th) fun w15 h15=>⟨by decide,fun b16 w17 a17=>?_⟩⟩⟩
 have e15:Ext w11 w15:=Ext.fresh a14 h15
 have e17:Ext w15 w17:=a17.ch _
 refine⟨_,boxAll h15.new e17,by decide,fun b19 w20 a20=>?_⟩
 have e20:Ext w17 w20:=a20.ch _
 have E20:Ext w11 w20:=(e15.trans e17).trans e20
 have h5:OwS w20 ⟨some ⟨b16,0,none⟩,1,1⟩ 2 ([((5:Int),(5:Int))].flatMap sv):=(OwS.new (cs:=[((5:Int),(5:Int))].flatMap sv) (n:=1) (sz:=2) a17 rfl).ext e20
 have h7:OwS w20 ⟨some ⟨b19,0,none⟩,1,1⟩ 3 ([((5:Int),false,(7:Int))].flatMap chL):=OwS.new (cs:=[((5:Int),false,(7:Int))].flatMap chL) (n:=1) (sz:=3) a20 rfl
 refine(c18 (m:=0) (p:=⟨0,0,(7,7,0,0),[(5,5)],[(5,5)],[(5,false,7)]⟩) (hO.ext E20) ⟨h5,h5,h7,fun _ _=>Nat.zero_le _,fun _ _=>Nat.zero_le _,fun _ _=>Nat.zero_le _⟩ (by decide) (by decide) (by decide) rfl).use ?_
 rintro _ w22 ⟨rfl,e22⟩
 exact⟨true,rfl,rfl,((E9.trans e11).trans E20).trans e22⟩
theorem c12(tc tf ta tl:Sl)(w:World):Cw 12 #[.agg #[slV tc,slV tf],slV ta,slV tl] w fun v w'=>∃r,v=.bool r/\(r=false->tc.n<=20/\tf.n<=20/\ta.n<=10/\tl.n<=100)/\Ext w w':=by
 refine F12_ok (tc,tf) ta tl w _ fun b1 w2 a2=>?_
 have e2:Ext w w2:=a2.ch _
 have h1:w2.heap[b1]? =some (.cells [slV tc,slV tf].toArray _ (0,0)):=a2.new
 have no:∃r,Value.bool true=.bool r/\(r=false->tc.n<=20/\tf.n<=20/\ta.n<=10/\tl.n<=100)/\Ext w w2:=⟨true,rfl,fun h=>(by cases h),e2⟩
 refine⟨tc,boxAt h1 0 (Ch.refl _ _),IfB.dec (fun _=>no) fun h1'=>⟨tf,boxAt h1 1 (Ch.refl _ _),IfB.dec (fun _=>no) fun h2=>IfB.dec (fun _=>no) fun h3=>⟨_,rfl,fun h4=>?_,e2⟩⟩⟩
 have h4:=of_decide_eq_false h4
 omega
section
variable {st st':Int->Option Int} {mr mw:Int->Prop} {args:List Int}
theorem runI_ok(hst:∀k v,st k=some v->I64 v)(ha:ArgsOk args):∀(l:List InsD)(i:Nat)(s s':PS),(∀x∈l,InsOk x args.length/\I64 x.X)->PsOk s->runI st mr mw args l i s=.inr s'->PsOk s'
 | [],i,s,s',_,h,e=>by cases e;exact h
 | x::l,i,s,s',hl,h,e=>by
  rw[runI] at e
  cases hs:stepI st mr mw args x s with
  | inl n=>rw[hs] at e;cases e
  | inr t=>
   rw[hs] at e
   have hx:=hl x (List.mem_cons_self ..)
   exact runI_ok hst ha l (i+1) t s' (fun y hy=>hl y (List.mem_cons_of_mem _ hy)) (stepI_ok h hst hx.1 hx.2 ha hs) e
theorem stepI_err{x:InsD}{s:PS}{e:Int}(h:stepI st mr mw args x s=.inl e):e≠0:=by
 unfold stepI at h
 intro h0
 subst h0
 repeat' split at h
 all_goals (first|cases h|(injection h with h;omega))
theorem runI_err:∀(l:List InsD)(i:Nat)(s:PS){e:Int×Nat},runI st mr mw args l i s=.inl e->e.1≠0
 | [],i,s,e,h=>by cases h
 | x::l,i,s,e,h=>by
  rw[runI] at h
  cases hs:stepI st mr mw args x s with
  | inl n=>rw[hs] at h;cases h;exact stepI_err hs
  | inr t=>rw[hs] at h;exact runI_err l _ t h
end
section
variable {st st':Int->Option Int} {mr mw:Int->Prop} {args:List Int} {code:List InsD} {foot:List SpTD} {r:Rg} {o:OutD}
theorem IsOut.both(h:IsOut (RightP code foot args) st mr mw args code r o)(hst:∀k v,st k=some v->I64 v)(hX:∀x∈code,I64 x.X)(hr:RgOk r):
  (o.code≠0/\o.r=r/\o.rds=[]/\o.wrs=[]/\o.chs=[])\/(RightP code foot args/\∃s,runI st mr mw args code 0 (ps0 r)=.inr s/\Done s o/\PsOk s):=by
 by_cases hok:RightP code foot args
 ·have h1:=h.2 hok
  cases hrun:runI st mr mw args code 0 (ps0 r) with
  | inl e=>
   rw[hrun] at h1
   dsimp only at h1
   subst h1
   exact .inl ⟨runI_err _ _ _ hrun,rfl,rfl,rfl,rfl⟩
  | inr s=>
   rw[hrun] at h1
   refine .inr ⟨hok,s,rfl,h1,runI_ok hst hok.1 code 0 _ s (fun x hx=>⟨?_,hX x hx⟩) (ps0_ok hr) hrun⟩
   rcases hok.2.1 with e|e
   ·subst e;cases hx
   ·exact e.all x hx
 ·have h1:=h.1 hok
  subst h1
  exact .inl ⟨show (1:Int)≠0 by decide,rfl,rfl,rfl,rfl⟩
theorem IsOut.lens(h:IsOut (RightP code foot args) st mr mw args code r o)(hst:∀k v,st k=some v->I64 v)(hX:∀x∈code,I64 x.X)(hr:RgOk r):o.rds.length<=1000/\o.wrs.length<=1000/\o.chs.length<=1000:=by
 rcases h.both hst hX hr with ⟨_,_,e1,e2,e3⟩|⟨_,s,_,hd,hk⟩
 ·rw[e1,e2,e3];exact⟨by decide,by decide,by decide⟩
 ·refine⟨normS_len hd.nr,normS_len hd.nw,?_⟩
  have:=srtI_len hd.srt fun x hx=>by
   obtain⟨c,hc,rfl⟩:=List.mem_map.1 hx
   exact hk.wk _ ((hk.wr _).2 (by rw[(hd.mem c).1 hc];simp))
  rwa [List.length_map] at this
end
theorem appM_no:∀(l:List ChD)(st:Int->Option Int)(j:Int),(∀c∈l,c.1≠j)->appM st l j=st j
 | [],_,_,_=>rfl
 | x::l,st,j,h=>by
  show appM (if 0<=x.1/\x.1<=999 then updM st x.1 (if x.2.1=true then none else some x.2.2) else st) l j=st j
  rw[appM_no l _ j fun c hc=>h c (List.mem_cons_of_mem _ hc)]
  split
  ·unfold updM
   rw[if_neg fun e=>h x (List.mem_cons_self ..) e.symm]
  ·rfl
theorem appM_at:∀(l:List ChD)(st:Int->Option Int)(c:ChD),(l.map (·.1)).Pairwise (· < ·)->c∈l->0<=c.1/\c.1<=999->appM st l c.1=if c.2.1=true then none else some c.2.2
 | x::l,st,c,hs,hc,hk=>by
  rw[List.map_cons,List.pairwise_cons] at hs
  show appM (if 0<=x.1/\x.1<=999 then updM st x.1 (if x.2.1=true then none else some x.2.2) else st) l c.1=_
  rcases List.mem_cons.1 hc with e|hc
  ·subst e
   rw[appM_no l _ c.1 fun d hd e=>by have:=hs.1 _ (List.mem_map_of_mem hd);omega,if_pos hk]
   unfold updM
   rw[if_pos rfl]
  ·exact appM_at l _ c hs.2 hc hk
theorem appM_twice{l:List ChD}(st:Int->Option Int)(hs:(l.map (·.1)).Pairwise (· < ·))(hk:∀c∈l,0<=c.1/\c.1<=999):appM (appM st l) l=appM st l:=by
 funext j
 by_cases h:∃c∈l,c.1=j
 ·obtain⟨c,hc,rfl⟩:=h
  rw[appM_at l _ c hs hc (hk c hc),appM_at l _ c hs hc (hk c hc)]
 ·rw[appM_no l _ j fun c hc e=>h ⟨c,hc,e⟩]
theorem getP_st{P:List (List Pr)}(hI:Inv P){k:Int}(hk:0<=k/\k<=999):getP P k=match stP P k with
  | some v=>(v,0)
  | none=>(0,5):=by
 unfold getP stP
 rw[if_pos hk]
 cases h:hasP P k with
 | true=>rw[if_pos rfl,if_pos ⟨hk.1,hk.2,rfl⟩]
 | false=>rw[if_neg (by simp),if_neg (by simp)]
theorem rep_step{A:Nat->Prop}{w:World}{x:tyStp.den}{cs:List Value}(h:rep A w tyStp x cs):∃(tc tf:Sl),cs=[slV tc,slV tf]/\Rd w tc 9 (x.1.flatMap insC)/\Rd w tf 5 (x.2.flatMap spTC)/\∀i:InsD,i∈x.1->I64 i.X:=by
 obtain⟨c,d,rfl,h1,h2⟩:=h
 obtain⟨tc,rfl,r1,_,q,_⟩:=rep_all (e:=tyIns) (f:=insC) (by decide) h1 fun _ _=>rep_insI
 obtain⟨tf,rfl,r2,_⟩:=rep_all (e:=tySpT) (f:=spTC) (by decide) h2 fun _ _ h=>⟨rep_spT h,trivial⟩
 exact⟨tc,tf,rfl,r1,r2,q⟩
theorem ofL_i64:∀(l:List Pr){st:Int->Option Int},(∀x∈l,I64 x.2)->(∀k v,st k=some v->I64 v)->∀k v,ofL st l k=some v->I64 v
 | [],_,_,h=>h
 | x::l,st,hl,h=>ofL_i64 l (fun y hy=>hl y (List.mem_cons_of_mem _ hy)) fun k v hv=>by
  split at hv
  ·unfold updM at hv
   split at hv
   ·cases hv;exact hl x (List.mem_cons_self ..)
   ·exact h k v hv
  ·exact h k v hv
theorem stepTwice(w:World){x:tyStp.den}{cs:Array Value}(h0:rep (fun _=>True) w tyStp x cs.toList){l:List (Ty.int .i64).den}{c1:Value}(h1:rep (fun _=>True) w (.sl (.int .i64)) l [c1])
  {xr:tyRg.den}{cr:Array Value}(h2:rep (fun _=>True) w tyRg xr cr.toList){lp:List tySpn.den}{c3:Value}(h3:rep (fun _=>True) w (.sl tySpn) lp [c3]):
  Cw 7 #[.agg cs,c1,.agg cr,c3] w fun v w'=>v=.bool true/\Ext w w':=by
 obtain⟨tc,tf,e0,hc,hf,hX⟩:=rep_step h0
 obtain⟨ta,e1,ha,_⟩:=rep_ints h1
 obtain⟨r,e2,hr⟩:=rep_rg h2
 obtain⟨tl,e3,hl,n3,hv,_⟩:=rep_all (e:=tySpn) (f:=prV) (by decide) h3 fun _ _=>rep_pr
 simp only[List.cons.injEq,and_true] at e1 e3
 rw[arr_eq e0,arr_eq e2];subst e1;subst e3
 have hn:=rdI ha
 refine F7_ok (tc,tf) ta r tl w _ fun b1 w2 a2 b3 w4 a4=>(c8 w4).use ?_
 rintro _ w6 ⟨rfl,e6⟩
 have x2:Ext w2 w6:=(a4.ch _:Ext w2 w4).trans e6
 have E6:Ext w w6:=(a2.ch _:Ext w w2).trans x2
 have k1:w6.heap[b1]? =some (.cells [slV tc,slV tf].toArray _ (0,0)):=x2.at a2.new
 have k3:w6.heap[b3]? =some (.cells (rgL r).toArray _ (0,0)):=e6.at a4.new
 refine⟨true,rfl,IfB.no rfl ⟨(tc,tf),boxAll k1 (Ch.refl _ _),(c12 tc tf ta tl w6).use ?_⟩⟩
 rintro _ w10 ⟨g,rfl,hg,e10⟩
 have E10:=E6.trans e10
 refine⟨g,rfl,IfB.intro (fun _=>⟨rfl,E10⟩) fun hg0=>?_⟩
 obtain⟨g1,g2,g3,g4⟩:=hg hg0
 unfold F7k1
 refine(c13 (xs:=lp) (hl.ext E10) (by omega)).use ?_
 rintro _ w13 ⟨bS,rfl,hS,e13⟩
 have hI:Inv (putL [] lp):=putL_inv Inv.nil
 have E13:=E10.trans e13
 have D13:Ext w6 w13:=e10.trans e13
 have hS13:StA (fun i=>w10.heap.size<=i/\i<w13.heap.size) w13 bS (putL [] lp):=hS.mono fun i hi h=>⟨h,hi⟩
 have hval:∀k v,stP (putL [] lp) k=some v->I64 v:=by rw[stP_of _ _ Inv.nil,stP_nil];exact ofL_i64 lp hv fun k v h=>(by cases h)
 refine⟨_,rfl,(tc,tf),boxAll k1 D13,r,boxAll k3 D13,(c14 (hc.ext E13) (hf.ext E13) (ha.ext E13) (hS13.mono fun i hi _=>hi) hI hval hr hX).use ?_⟩
 rintro _ w18 ⟨tr,tw,th,o,rfl,ho,hO,e18⟩
 have hlen:=ho.lens hval hX hr
 have nch:=owsN chL_len (by omega) hO.cc
 have hsrt:(o.chs.map (·.1)).Pairwise (· < ·)/\∀c∈o.chs,0<=c.1/\c.1<=999:=by
  rcases ho.both hval hX hr with ⟨_,_,_,_,e⟩|⟨_,s,_,hd,hks⟩
  ·rw[e];simp
  ·exact⟨hd.srt,fun c hc=>hks.wk _ ((hks.wr _).2 (by rw[(hd.mem c).1 hc];simp))⟩
 obtain⟨hsrt,hkr⟩:=hsrt
 refine⟨outX o tr tw th,rfl,fun b20 w21 a20=>⟨rfl,store_all a20.new rfl (outL_one _ tr tw th) fun w22 h22=>?_⟩⟩
 have e22:Ext w18 w22:=Ext.fresh a20 h22
 have p20:=a20.here
 have z10:=e10.size;have z13:=e13.size;have z18:=e18.size;have z22:=e22.size
 have hC:OwS w22 th 3 (o.chs.flatMap chL):=hO.cc.ext e22
 refine⟨fun n y V=>∃i:Nat,1<=i/\(i<=o.chs.length\/i=1)/\n+i=o.chs.length+1/\y=(i:Int)/\Ext w22 V,⟨o.chs.length,1,Nat.le_refl _,.inr rfl,rfl,rfl,Ch.refl _ _⟩,?_⟩
 rintro n _ V g ⟨i,hi1,hi,hni,rfl,eV⟩
 unfold F7j1
 refine⟨th,boxAt h22.new 8 eV,IfB.dec (fun hlt=>?_) fun hge=>?_⟩
 ·have hi':i<o.chs.length:=by omega
  have eVd:=eV.trans (extDrew V)
  have hx:o.chs[i]? =some o.chs[i]:=List.getElem?_eq_getElem hi'
  have hy:o.chs[i-1]? =some (o.chs[i-1]'(by omega)):=List.getElem?_eq_getElem (by omega)
  have hlt2:(o.chs[i-1]'(by omega)).1<o.chs[i].1:=by
   have:=List.pairwise_iff_getElem.1 hsrt (i-1) i (by rw[List.length_map];omega) (by rw[List.length_map];omega) (by omega)
   simpa using this
  generalize o.chs[i]=c at hx hlt2
  generalize o.chs[i-1]'(by omega)=d at hy hlt2
  obtain⟨pb,po,hp,hcx⟩:=(hC.ext eVd).rd.elem (i:=i) (by omega) (by omega) (flatGet chL_len hx)
  obtain⟨pb2,po2,hp2,hcy⟩:=(hC.ext eVd).rd.elem (i:=i-1) (by omega) (by omega) (flatGet chL_len hy)
  have ei:IntKind.i64.wrap ((i:Int)-1)=((i-1:Nat):Int):=by rw[wrap_of (by omega) (by omega)];omega
  refine⟨th,boxAt h22.new 8 eVd,pb,po,hp,⟨by omega,hlt⟩,c.1,by rw[Int.toNat_natCast];exact hcx 0 _ rfl,th,boxAt h22.new 8 eVd,pb2,po2,hp2,by rw[ei];exact⟨by omega,by have:(i:Int)<(th.n:Int):=hlt;show _<(th.n:Int);omega⟩,d.1,by rw[ei,Int.toNat_natCast];exact hcy 0 _ rfl,IfB.no (decide_eq_false (by omega)) ⟨rfl,n-1,by omega,i+1,by omega,.inl hi',by omega,by rw[wrap_of (by omega) (by omega)];rfl,eVd⟩⟩
 have D22:=(D13.trans e18).trans e22
 have SV:StA (fun i=>w10.heap.size<=i/\i<w13.heap.size) V bS (putL [] lp):=hS13.ext ((e18.trans e22).trans eV)
 have zV:=eV.size
 have thb:∀j∈blk th,w13.heap.size<=j/\j<w18.heap.size:=fun j hj=>⟨hO.bc j hj,hO.cc.lt j hj⟩
 refine⟨th,boxAt h22.new 8 eV,(c24 SV hI (hC.ext eV).rd (by omega) fun _ j hj h=>by have:=thb j hj;omega).use ?_⟩
 rintro _ w42 ⟨rfl,hS42,hC42⟩
 obtain⟨hI1,hs1⟩:=appQ_ok o.chs hI
 have z42:=hC42.size
 have C42:Ch (fun i=>w10.heap.size<=i/\i<w13.heap.size) w22 w42:=(eV.mono fun _ _ h=>h.elim).then hC42 fun _ _ h=>h
 refine⟨(),rfl,(stScan hS42 hI1).use ?_⟩
 rintro _ w45 ⟨to,rfl,hto,e45,kto⟩
 have z45:=e45.size
 have C45:=C42.thenExt e45
 have k45:=C45.at h22.new (by omega)
 have hC45:OwS w45 th 3 (o.chs.flatMap chL):=hC.ch C45 fun j hj h=>by have:=thb j hj;omega
 have S45:StA (fun i=>(w10.heap.size<=i/\i<w13.heap.size)\/(V.heap.size<=i/\i<w42.heap.size)) w45 bS (appQ (putL [] lp) o.chs):=(hS42.mono (B:=fun i=>(w10.heap.size<=i/\i<w13.heap.size)\/(V.heap.size<=i/\i<w42.heap.size)) fun i hi h=>h.imp id fun h=>⟨h,hi⟩).ext e45
 refine⟨to,rfl,th,boxAt k45 8 (Ch.refl _ _),(c24 S45 hI1 hC45.rd (by omega) fun _ j hj h=>by have:=thb j hj;omega).use ?_⟩
 rintro _ w49 ⟨rfl,hS49,hC49⟩
 obtain⟨hI2,hs2⟩:=appQ_ok o.chs hI1
 have z49:=hC49.size
 have heq:stP (appQ (appQ (putL [] lp) o.chs) o.chs)=stP (appQ (putL [] lp) o.chs):=by rw[hs2,hs1,appM_twice _ hsrt hkr]
 have lt20:=heap_lt h22.new
 have k49:=hC49.at k45 fun h=>by omega
 have hC49':OwS w49 th 3 (o.chs.flatMap chL):=hC45.ch hC49 fun j hj h=>by have:=thb j hj;omega
 have hto':OwS w49 to 2 (prs (pairsL (stP (appQ (putL [] lp) o.chs)) 1000)):=hto.ch hC49 fun j hj h=>by have:=kto j hj;omega
 have E49:Ext w w49:=((E6.trans D22).chN C45 fun i h=>by have:=E6.size;omega).chN hC49 fun i h=>by have:=E6.size;have:=D22.size;omega
 generalize hQ:appQ (appQ (putL [] lp) o.chs) o.chs=Q at hS49 hI2 hs2 heq
 refine⟨(),rfl,fun n y W=>∃i:Nat,i<=o.chs.length/\n+i=o.chs.length/\y=(i:Int)/\Ext w49 W,⟨o.chs.length,0,Nat.zero_le _,rfl,rfl,Ch.refl _ _⟩,?_⟩
 rintro n _ W g ⟨i,hi,hni,rfl,eW⟩
 unfold F7j2
 refine⟨th,boxAt k49 8 eW,IfB.dec (fun hlt=>?_) fun hge=>?_⟩
 ·have hi':i<o.chs.length:=by omega
  have hx:o.chs[i]? =some o.chs[i]:=List.getElem?_eq_getElem hi'
  have hmem:=List.getElem_mem hi'
  generalize o.chs[i]=c at hx hmem
  have get:∀ {X:World},Ext w49 X->∃pb po,th.p=some ⟨pb,po,none⟩/\CellsAt X pb (po+i*3) (chL c):=fun e=>(hC49'.ext e).rd.elem (i:=i) (by omega) (by omega) (flatGet chL_len hx)
  obtain⟨pb,po,hp,hcx⟩:=get eW
  have hb:(0:Int)<=(i:Int)/\(i:Int)<(th.n:Int):=⟨by omega,hlt⟩
  have hk:=hkr c hmem
  obtain⟨s,ps,hSt,hP,_⟩:=hS49.ext eW
  refine⟨th,boxAt k49 8 eW,pb,po,hp,hb,c.1,by rw[Int.toNat_natCast];exact hcx 0 _ rfl,(c26 hSt hP hI2 c.1).use ?_⟩
  rintro _ w64 ⟨rfl,e64⟩
  have e64':=eW.trans e64
  obtain⟨pb2,po2,hp2,hcy⟩:=get e64'
  have hst:stP Q c.1=if c.2.1=true then none else some c.2.2:=by rw[hs2,appM_at _ _ c hsrt hmem hk]
  have hgP:=getP_st hI2 hk
  rw[hst] at hgP
  have next:([]:List Df)=[]/\∃b78:Nat,b78<n/\∃i':Nat,i'<=o.chs.length/\b78+i'=o.chs.length/\IntKind.i64.wrap ((i:Int)+1)=(i':Int)/\Ext w49 w64:=⟨rfl,n-1,by omega,i+1,hi',by omega,by rw[wrap_of (by omega) (by omega)];rfl,e64'⟩
  refine⟨getP Q c.1,rfl,th,boxAt k49 8 e64',pb2,po2,hp2,hb,c.2.1,by rw[Int.toNat_natCast];exact hcy 1 _ rfl,?_⟩
  cases hgn:c.2.1 with
  | true=>
   rw[hgn,if_pos rfl] at hgP
   dsimp only at hgP
   rw[hgP]
   exact IfB.no rfl ⟨th,boxAt k49 8 e64',pb2,po2,hp2,hb,true,by rw[Int.toNat_natCast,<-hgn];exact hcy 1 _ rfl,IfB.no rfl next⟩
  | false=>
   rw[hgn,if_neg (by simp)] at hgP
   dsimp only at hgP
   rw[hgP]
   exact IfB.no rfl ⟨th,boxAt k49 8 e64',pb2,po2,hp2,hb,false,by rw[Int.toNat_natCast,<-hgn];exact hcy 1 _ rfl,IfB.yes rfl ⟨th,boxAt k49 8 e64',pb2,po2,hp2,hb,c.2.2,by rw[Int.toNat_natCast];exact hcy 2 _ rfl,IfB.no (by simp) next⟩⟩
 ·refine(stScan (hS49.ext eW) hI2).use ?_
  rintro _ w81 ⟨u,rfl,hu,e81,_⟩
  refine⟨u,rfl,(c21 (hto'.ext (eW.trans e81)).rd hu.rd (by have:=pairsL_len (stP (appQ (putL [] lp) o.chs)) 1000;omega)).use ?_⟩
  rintro _ w84 ⟨rfl,e84⟩
  rw[heq]
  exact⟨_,rfl,by rw[decide_eq_true rfl],((E49.trans eW).trans e81).trans e84⟩
end Go.Proofs.YtoahfpabpdjkkaaGreat.Gx
namespace Go.Proofs.YtoahfpabpdjkkaaGreat.stepTwice
open Go.ChangeShapes Go.WideShapes Go.ChangeAt Go.RowKit
open Go.ChangeMaps (open_string shut_string)
set_option linter.unusedVariables false
theorem own:ownKnob Tryz.prog.godebug=none:=by kernel_rfl
set_option maxRecDepth 100000 in
theorem lifted(os:Os)(started:os.Started)(H:Type)(enc:TypeId×Value->H):
  ReturnsInHanded {} Tryz.checked os 7 .any (Rows.stepTwiceSpec.pre6 enc Tryz.prog Tryz.f7 Rows.stepTwiceRow.domain false) (Rows.stepTwiceSpec.post enc Tryz.prog Tryz.f7 false true false false):=by
 refine returnsInHanded_of_change (C:=Tryz.checked) own started (by kernel_rfl) Tryz.func7
  (ChangeSpec.witness6 (enc:=enc) (C:=Tryz.checked) false ⟨#[],#[.agg #[.slice none 0 0,.slice none 0 0],.slice none 0 0,.agg #[.int .i64 0,.int .i64 0,.int .i64 0,.int .i64 0],.slice none 0 0],[]⟩ 8 (by kernel_rfl) (by kernel_rfl) (by kernel_rfl) (by kernel_rfl)) ?_
 intro W base args ds gs before hval0 hW hcnd _
 have hval:∀(j:Nat) t v,Tryz.f7.params[j]? =some t->args[j]? =some v->Value.okWide Tryz.prog W .any base t v:=hval0
 have hW':=hW
 have hlt:=hW.lt
 obtain⟨p,q,hA0,hV,rfl,hfz,hnd⟩:=hW
 have hA:DataW.TrodAll enc Tryz.prog W 0 (fun _=>true) true Tryz.f7.params.toList args.toList ds p:=hA0
 have hpar:Tryz.f7.params=#[36,37,23,38]:=rfl
 rw[hpar] at hA hval
 obtain⟨v0,vs0,d0,ds0,p0,q0,hargs,rfl,rfl,h0,r0⟩:=trodAll_cons hA
 obtain⟨v1,vs1,d1,ds1,p1,q1,rfl,rfl,rfl,h1,r1⟩:=trodAll_cons r0
 obtain⟨v2,vs2,d2,ds2,p2,q2,rfl,rfl,rfl,h2,r2⟩:=trodAll_cons r1
 obtain⟨v3,vs3,d3,ds3,p3,q3,rfl,rfl,rfl,h3,r3⟩:=trodAll_cons r2
 obtain⟨rfl,rfl,rfl⟩:=trodAll_nil r3
 obtain rfl:args=#[v0,v1,v2,v3]:=by cases args;simp_all
 obtain⟨rfl,rfl⟩:=trodVars_none hV
 clear hA0 hval0
 obtain⟨x0,e0⟩:=Gx.open_arg (d:=12) (ty:=(.pair (.sl (.pair (.int .i64) (.pair (.int .i64) (.pair (.int .i64) (.pair (.int .i64) (.pair (.pair (.int .i64) (.int .i64)) (.pair (.pair (.int .i64) (.int .i64)) (.int .i64)))))))) (.sl (.pair (.pair (.int .i64) (.int .i64)) (.pair (.pair (.int .i64) (.int .i64)) .bool))))) (by kernel_rfl) h0
 have f0:v0=.agg v0.cells:=Gx.val_agg (hval 0 36 v0 rfl rfl) (.inl ⟨_,Tryz.underlying36⟩)
 obtain⟨x1,e1⟩:=Gx.open_arg (d:=12) (ty:=(.sl (.int .i64))) (by kernel_rfl) h1
 obtain⟨c1,g1⟩:∃c,v1.cells.toList=[c]:=List.length_eq_one_iff.1 (Gx.rep_len e1)
 have f1:v1=c1:=Gx.val_of_cells (hval 1 37 v1 rfl rfl) (fun fs n e=>by rw[Tryz.underlying37];exact⟨by simp,by simp⟩) g1
 rw[g1] at e1
 obtain⟨x2,e2⟩:=Gx.open_arg (d:=12) (ty:=(.arr 4 (.int .i64))) (by kernel_rfl) h2
 have f2:v2=.agg v2.cells:=Gx.val_agg (hval 2 23 v2 rfl rfl) (.inr ⟨_,_,Tryz.underlying23⟩)
 obtain⟨x3,e3⟩:=Gx.open_arg (d:=12) (ty:=(.sl (.pair (.int .i64) (.int .i64)))) (by kernel_rfl) h3
 obtain⟨c3,g3⟩:∃c,v3.cells.toList=[c]:=List.length_eq_one_iff.1 (Gx.rep_len e3)
 have f3:v3=c3:=Gx.val_of_cells (hval 3 38 v3 rfl rfl) (fun fs n e=>by rw[Tryz.underlying38];exact⟨by simp,by simp⟩) g3
 rw[g3] at e3
 have call:Calls Tryz.prog 7 #[v0,v1,v2,v3] W fun e w'=>e=.returned (.bool true)/\Below W.heap.size W w':=by
  rw[f0,f1,f2,f3]
  refine(Gx.stepTwice W e0 e1 e2 e3).calls.mono ?_
  rintro e w' ⟨v,rfl,rfl,hx⟩
  exact⟨rfl,hx.below⟩
 refine call.mono fun e W' ⟨he,hg⟩=>?_
 subst he
 have b3:∀sp:Nat->Bool,(∀x∈p3,sp x.block=true)->DataW.Trod enc Tryz.prog W' 0 sp true 38 v3 d3 p3:=fun sp hsp=>Gx.trod_keep (by kernel_rfl) (by kernel_rfl) (by decide+kernel) h3 hg (fun x hx=>hlt x (by simp[hx])) hsp
 have b2:∀sp:Nat->Bool,(∀x∈p2,sp x.block=true)->DataW.Trod enc Tryz.prog W' 0 sp true 23 v2 d2 p2:=fun sp hsp=>Gx.trod_keep (by kernel_rfl) (by kernel_rfl) (by decide+kernel) h2 hg (fun x hx=>hlt x (by simp[hx])) hsp
 have b1:∀sp:Nat->Bool,(∀x∈p1,sp x.block=true)->DataW.Trod enc Tryz.prog W' 0 sp true 37 v1 d1 p1:=fun sp hsp=>Gx.trod_keep (by kernel_rfl) (by kernel_rfl) (by decide+kernel) h1 hg (fun x hx=>hlt x (by simp[hx])) hsp
 have b0:∀sp:Nat->Bool,(∀x∈p0,sp x.block=true)->DataW.Trod enc Tryz.prog W' 0 sp true 36 v0 d0 p0:=fun sp hsp=>Gx.trod_keep (by kernel_rfl) (by kernel_rfl) (by decide+kernel) h0 hg (fun x hx=>hlt x (by simp[hx])) hsp
 exact⟨_,rfl,Gx.post_of_below (pa:=(p0++(p1++(p2++(p3++[]))))) (pv:=[]) hW' hg (fun _ _ _=>(trodAll_cons_mk (shut_bool Tryz.underlying4 _) trodAll_mk0)) (fun sp hsp=>by rw[hpar];exact(trodAll_cons_mk (b0 sp fun x hx=>hsp x (by simp[hx])) (trodAll_cons_mk (b1 sp fun x hx=>hsp x (by simp[hx])) (trodAll_cons_mk (b2 sp fun x hx=>hsp x (by simp[hx])) (trodAll_cons_mk (b3 sp fun x hx=>hsp x (by simp[hx])) trodAll_mk0))))) (fun _ _=>rfl) (by simp)
  (ok_one (by kernel_rfl) rfl (okWide_bool_mk Tryz.underlying4 _))⟩
set_option maxRecDepth 100000
theorem ft1:(laidOutB Tryz.checked.prog&&mapsRowed Tryz.checked.prog)=true:=by kernel_rfl
theorem ft2:(Rows.stepTwiceRow.inPlace == Tryz.checked.prog.inPlace 7)=true:=by kernel_rfl
theorem ft3:(Rows.stepTwiceRow.unfollowed == Tryz.checked.prog.unfollowed 7)=true:=by kernel_rfl
theorem ft4:(Rows.stepTwiceRow.named == Tryz.checked.prog.varsNamed 7)=true:=by kernel_rfl
theorem ft6:((Tryz.checked.prog.stops == [])&&(Tryz.checked.prog.stopKnobs == []))=true:=by kernel_rfl
theorem ft7:(Rows.stepTwiceRow.plainKeys == Tryz.checked.prog.plainKeys)=true:=by kernel_rfl
theorem ft8:Tryz.checked.prog.stopsHeard=true:=by kernel_rfl
theorem ft9:(Tryz.checked.prog.mayEnter&&((Rows.stepTwiceRow.lifted == Tryz.checked.prog.liftsFinal)&&(Tryz.checked.prog.make == some Rows.stepTwiceRow.make)))=true:=by kernel_rfl
theorem ft5:(Rows.stepTwiceRow.recurses == Tryz.checked.prog.recurses 7)=true:=by
 have h:Tryz.checked.prog.unfollowed 7=true:=by have:=ft3;rw[beq_iff_eq] at this;exact this.symm
 unfold Program.recurses;rw[h];rfl
theorem facts:joinedFacts Tryz.checked.prog 7 Tryz.f7 Rows.stepTwiceSpec Rows.stepTwiceRow=true:=by
 obtain⟨h1,h2⟩:=Bool.and_eq_true_iff.1 ft1
 obtain⟨h3,h4⟩:=Bool.and_eq_true_iff.1 ft6
 obtain⟨h5,h6⟩:=Bool.and_eq_true_iff.1 ft9
 obtain⟨h7,h8⟩:=Bool.and_eq_true_iff.1 h6
 unfold joinedFacts
 rw[h1,h2,ft2,ft3,ft4,ft5,h3,h4,ft7,ft8,h5,h7,h8]
 kernel_rfl
theorem over:Rows.stepTwiceRow.holds Tryz.pinned (OpenSpec.ofChange Rows.stepTwiceSpec):=
 OpenClaim.holds_of_wide 7 Tryz.f7 rfl rfl rfl rfl rfl rfl rfl ⟨rfl,rfl,rfl,rfl,rfl⟩ rfl rfl rfl rfl rfl (by kernel_rfl) Tryz.func7 facts
  (of_decide_eq_true (by kernel_rfl)) (by unfold Func.isWrapper;first|(rw[if_pos (by decide+kernel)];kernel_rfl)|(rw[if_neg (by decide+kernel)];exact⟨rfl,rfl⟩))
  (fun os started H enc _=>lifted os started H enc)
theorem proved:Rows.StepTwiceSaid:=
 over
#print axioms proved
end Go.Proofs.YtoahfpabpdjkkaaGreat.stepTwice
