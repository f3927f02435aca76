/- gimmallaw19.WaitsBlockers returns true for all arguments, and leaves what was there as it was. No condition beyond the statement. -/
/- Merged by pack.py: WayD, WayE, DepB, DepC, MxA, GxNT, DepE, DepF, GxNL, DepG, GxOI, GreA, GxOJ, RsgA, SrAI, GxSGA, SrAJ, RsgB, ArcC, RsgC, RsgD, RsgE, RsgF, RsgG, FairP, FairQ, AlvC, OpnP, GxOU, OpnA, GxOM, AlvD, RsgH, GxOL, RefE, RefF, GxON, RefG, RefH, IntE, GxOP, RsgK, WayH, WayI, WaBlk. -/
import Derived.Test.YtlpgdngcgbeegaaGreatWb1
import Derived.Test.YtlpgdngcgbeegaaGreatWb2
import Derived.Test.YtlpgdngcgbeegaaGreatWb3
import Derived.Test.YtlpgdngcgbeegaaGreatWb4
import Derived.Test.YtlpgdngcgbeegaaGreatWb5
import Derived.Test.YtlpgdngcgbeegaaGreatRows
import Derived.WalkKit
import Derived.ProofKit
import Derived.OpenShut
import Derived.ShutString
import Derived.Below
import Derived.Carry
namespace Go.Proofs.YtlpgdngcgbeegaaGreat.Gx
open Go
set_option linter.unusedSimpArgs false
set_option linter.unusedVariables false
theorem notMap{w:World}{b j:Nat}{cs:Array Value}{T:TypeId}{p:Option Nat}{f:List (Int×WE)}(hb:w.heap[b]? =some (.cells cs T (0,0)))(h:MpO encW w p f):p≠some b:=by
 rintro rfl
 obtain⟨es,ck,h1,_⟩:=h
 rw[hb] at h1;cases h1
theorem mem_of_law{f f':List (Int×WE)}{i:Int}{x:WE}(hn:(f'.map (·.1)).Nodup)(hf:∀k,getM f' k=if i=k then some x else getM f k):∀e∈f',e=(i,x)\/e∈f:=fun e he=>by
 have h1:=getM_of hn (k:=e.1) (v:=e.2) he
 rw[hf] at h1
 by_cases hk:i=e.1
 ·rw[if_pos hk] at h1
  left
  have:=Option.some.inj h1
  rw[Prod.ext_iff];exact⟨hk.symm,this.symm⟩
 ·rw[if_neg hk] at h1
  exact .inr (getM_mem h1)
theorem len_of_law{f f':List (Int×WE)}{i:Int}{x:WE}(hn:(f'.map (·.1)).Nodup)(hf:∀k,getM f' k=if i=k then some x else getM f k):f'.length<=f.length+1:=by
 have:=nodup_le (b:=i::f.map (·.1)) hn fun k hk=>by
  obtain⟨e,he,rfl⟩:=List.mem_map.1 hk
  rcases mem_of_law hn hf e he with rfl|he
  ·simp
  ·exact List.mem_cons_of_mem _ (List.mem_map_of_mem he)
 simpa using this
def setW(f:List (Int×WE))(i:Int)(o:Option WE)(k:Int):Option WE:=if i=k then o else getM f k
theorem c130{w:World}{b:Nat}{p:Option Nat}{f:List (Int×WE)}(h:Wt w b p f){b1 b3:Nat}{i:Int}{T1 T3:TypeId}(hb1:w.heap[b1]? =some (.cells #[.pointer (some ⟨b,0,none⟩)] T1 (0,0)))(hb3:w.heap[b3]? =some (.cells #[iv i] T3 (0,0)))(n1:b1≠b)(n3:b3≠b)
  {t:Sl}{x:List Int}(some':Bool)(hx:some'=true->Rd w t 1 (x.map iv)/\x≠[]/\x.length<=1000/\∀j∈blk t,j<w.heap.size/\j≠b/\p≠some j)(hf:f.length<=999):
  Cw 130 #[slV t,.bool some',.pointer (some ⟨b1,0,none⟩),.pointer (some ⟨b3,0,none⟩)] w fun v w'=>v=.tuple #[]/\∃p' f',Wt w' b p' f'/\(∀k,getM f' k=setW f i (if some' then some (t,x) else none) k)/\f'.length<=f.length+1/\(∀e∈f',e=(i,(t,x))/\some'=true\/e∈f)/\(p'=p\/∃r,p'=some r/\w.heap.size<=r)/\Ch (fun j=>j=b\/p=some j) w w':=by
 refine F130_ok t some' b1 b3 w _ ?_
 have ed:=extDrew w
 have H:=h.ext ed
 obtain⟨T,hT⟩:=h.box
 have pb:p≠some b:=notMap (j:=0) hT h.map
 have pb1:p≠some b1:=notMap (j:=0) hb1 h.map
 have pb3:p≠some b3:=notMap (j:=0) hb3 h.map
 have q1:∀ {W:World},W.heap[b1]? =some (.cells #[.pointer (some ⟨b,0,none⟩)] T1 (0,0))->W.cell? ⟨b1,0,none⟩=some (.pointer (some ⟨b,0,none⟩)):=fun h=>by rw[cell_of h];rfl
 have q3:∀ {W:World},W.heap[b3]? =some (.cells #[iv i] T3 (0,0))->W.cell? ⟨b3,0,none⟩=some (iv i):=fun h=>by rw[cell_of h];rfl
 refine⟨_,q1 hb1,b,0,rfl,p,H.cell,i,q3 hb3,H.map.del fun f1 w6 hf1 hm1 hl1 hM6 hc6=>?_⟩
 have hC6:Ch (fun j=>j=b\/p=some j) w w6:=(ed.mono fun _ _ h=>h.elim).then hc6 fun j _ e=>.inr e
 have hb1':=hc6.at (ed.at hb1) pb1
 have hb3':=hc6.at (ed.at hb3) pb3
 have hT6:=hc6.at (ed.at hT) pb
 have keep:∀ {W:World}{F:Nat->Prop},Ch F w W->(∀j,F j->j=b\/p=some j)->∀e∈f,∀p':Option Nat,(∀j∈blk e.2.1,p'≠some j)->Rd W e.2.1 1 (e.2.2.map iv)/\e.2.2≠[]/\e.2.2.length<=1000/\∀i∈blk e.2.1,i<W.heap.size/\i≠b/\p'≠some i:=by
  intro W F hC hF e he p' hp'
  obtain⟨r1,r2,r3,r4⟩:=h.rd e he
  refine⟨r1.ch hC fun j hj hFj=>?_,r2,r3,fun j hj=>⟨Nat.lt_of_lt_of_le (r4 j hj).1 hC.size,(r4 j hj).2.1,hp' j hj⟩⟩
  rcases hF j hFj with e|e
  ·exact(r4 j hj).2.1 e
  ·exact(r4 j hj).2.2 e
 cases some' with
 | false=>
  refine IfB.no rfl ⟨rfl,p,f1,⟨⟨T,hT6⟩,hM6,fun e he=>keep hC6 (fun _ h=>h) e (hm1 e he) p fun j hj=>((h.rd e (hm1 e he)).2.2.2 j hj).2.2,by omega⟩,hf1,by omega,fun e he=>.inr (hm1 e he),.inl rfl,hC6⟩
 | true=>
  obtain⟨x1,x2,x3,x4⟩:=hx rfl
  have setLaw:∀ {f':List (Int×WE)},(∀k,getM f' k=if i=k then some (t,x) else getM f1 k)->∀k,getM f' k=if i=k then some (t,x) else getM f k:=fun h k=>by
   rw[h,hf1]
   by_cases hk:i=k
   ·rw[if_pos hk,if_pos hk]
   ·rw[if_neg hk,if_neg hk,if_neg hk]
  refine IfB.yes rfl ⟨_,q1 hb1',b,0,rfl,p,by rw[cell_of hT6];rfl,?_⟩
  cases hp:p with
  | none=>
   subst hp
   refine IfB.yes rfl ⟨_,q1 hb1',fun b12 w13 a13=>⟨b,0,rfl,rfl,?_⟩⟩
   have e13:Ext w6 w13:=a13.ch _
   have hp13:=a13.here
   have z13:=a13.size
   have z6:=hC6.size
   have hbl:=heap_lt hT
   have hb1l:=heap_lt hb1
   have hb3l:=heap_lt hb3
   refine store_one (e13.at hT6) (by simp) rfl fun w16 u16=>?_
   have hb1'':=u16.ch.at (e13.at hb1') n1
   have hb3'':=u16.ch.at (e13.at hb3') n3
   have hN:Mp encW w16 b12 []:=(Mp.new a13).ch u16.ch (fun e=>by omega)
   have e16:=extDrew w16
   refine⟨_,q1 hb1'',b,0,rfl,some b12,by rw[cell_of (e16.at u16.new)];rfl,i,q3 hb3'',Mp.set (enc:=encW) (v:=(t,x)) (hN.ext e16) fun f' w22 hf' hM' hc'=>?_⟩
   have hf1e:f1=[]:=hM6
   subst hf1e
   have law:=setLaw hf'
   have hC:Ch (fun j=>j=b\/(none:Option Nat)=some j) w w22:=(((hC6.then e13 fun _ _ h=>h.elim).then u16.ch fun j _ e=>.inl e).then e16 fun _ _ h=>h.elim).then hc' fun j hj e=>by omega
   have hnod:(f'.map (·.1)).Nodup:=MpO.nodup (p:=some b12) hM'
   have hmem:=mem_of_law hnod law
   refine⟨rfl,some b12,f',⟨⟨T,?_⟩,hM',fun e he=>?_,by have:=len_of_law hnod law;omega⟩,law,len_of_law hnod law,fun e he=>(hmem e he).imp (fun h=>⟨h,rfl⟩) id,.inr ⟨b12,rfl,by omega⟩,hC⟩
   ·rw[hc'.old b (by rw[show w16.drew.heap.size=w16.heap.size from rfl,u16.size];omega) (by omega)]
    exact u16.new
   ·rcases hmem e he with rfl|he
    ·refine⟨x1.ch hC fun j hj hFj=>?_,x2,x3,fun j hj=>⟨Nat.lt_of_lt_of_le (x4 j hj).1 hC.size,(x4 j hj).2.1,fun e=>?_⟩⟩
     ·rcases hFj with e|e
      ·exact(x4 j hj).2.1 e
      ·cases e
     ·have:=(x4 j hj).1;cases e;omega
    ·exact keep hC (fun _ h=>h) e he _ fun j hj e'=>by have:=((h.rd e he).2.2.2 j hj).1;cases e';omega
  | some r=>
   subst hp
   have e6:=extDrew w6
   refine IfB.no rfl ⟨_,q1 hb1',b,0,rfl,some r,by rw[cell_of (e6.at hT6)];rfl,i,q3 hb3',Mp.set (enc:=encW) (v:=(t,x)) (Mp.ext hM6 e6) fun f' w28 hf' hM' hc'=>?_⟩
   have law:=setLaw hf'
   have hC:Ch (fun j=>j=b\/some r=some j) w w28:=(hC6.then e6 fun _ _ h=>h.elim).then hc' fun j _ e=>.inr (by rw[e])
   have hnod:(f'.map (·.1)).Nodup:=MpO.nodup (p:=some r) hM'
   have hmem:=mem_of_law hnod law
   refine⟨rfl,some r,f',⟨⟨T,?_⟩,hM',fun e he=>?_,by have:=len_of_law hnod law;omega⟩,law,len_of_law hnod law,fun e he=>(hmem e he).imp (fun h=>⟨h,rfl⟩) id,.inl rfl,hC⟩
   ·exact hc'.at (e6.at hT6) fun e=>pb (by rw[e])
   ·rcases hmem e he with rfl|he
    ·refine⟨x1.ch hC fun j hj hFj=>?_,x2,x3,fun j hj=>⟨Nat.lt_of_lt_of_le (x4 j hj).1 hC.size,(x4 j hj).2⟩⟩
     rcases hFj with e|e
     ·exact(x4 j hj).2.1 e
     ·exact(x4 j hj).2.2 e
    ·exact keep hC (fun _ h=>h) e he _ fun j hj=>((h.rd e he).2.2.2 j hj).2.2
def EnS(f:List (Int×WE))(i:Int)(l:List Int)(a c:Int):Prop:=c∈if i=a then l else wl f a
def valW(o:Option WE):List Int:=match o with
 | some x=>x.2
 | none=>[]
theorem wl_set{f f':List (Int×WE)}{i:Int}{o:Option WE}(h:∀k,getM f' k=setW f i o k)(k:Int):wl f' k=if i=k then valW o else wl f k:=by
 have e:∀f k,wl f k=valW (getM f k):=fun _ _=>rfl
 rw[e,e,h]
 unfold setW
 by_cases hk:i=k
 ·rw[if_pos hk,if_pos hk]
 ·rw[if_neg hk,if_neg hk]
theorem MpO.get'{β:Type}{enc:β->Value}{w:World}{p:Option Nat}{f:List (Int×β)}(h:MpO enc w p f){k:Int}{z:Value}{K:Value->Bool->Prop}(hK:∀o:Option β,getM f k=o->K ((o.map enc).getD z) o.isSome):
  MapGetP (.int .i64) w (.map p) (.int .i64 k) z K:=h.get (by
 have:=hK _ rfl
 cases hg:getM f k with
 | none=>rw[hg] at this;exact this
 | some v=>rw[hg] at this;exact this)
theorem c131(t:Sl)(w:World):Cw 131 #[slV t] w fun v w'=>∃b T,v=.func (.func 184) #[] #[.pointer (some ⟨b,0,none⟩)]/\IsAlloc w (.cells #[slV t] T (0,0)) b w':=
 F131_ok t w _ fun b w' a=>⟨b,_,rfl,a⟩
theorem c69{w:World}{b:Nat}{p:Option Nat}{f:List (Int×WE)}(h:Wt w b p f)(i:Int){t:Sl}{l:List Int}(hr:Rd w t 1 (l.map iv))(hl:l.length<=1000)(hf:f.length<=998):
  Cw 69 #[.pointer (some ⟨b,0,none⟩),iv i,slV t] w fun v w'=>∃p' f',∃pl:List Int,Wt w' b p' f'/\f'.length<=f.length+2/\Ch (fun j=>j=b\/p=some j) w w'/\(∀j,inWt b p' f' j->inWt b p f j\/w.heap.size<=j)/\pl.Pairwise (· < ·)/\(∀k,k∈pl↔k∈l)/\
   ((TC (EnS f i pl) i i/\v=.bool false/\∀k,wl f' k=wl f k)\/(¬TC (EnS f i pl) i i/\v=.bool true/\∀k,wl f' k=if i=k then pl else wl f k)):=by
 refine F69_ok _ i t w _ ?_
 intro b1 w2 a2 b3 w4 a4
 have e2:Ext w w2:=a2.ch _
 have e4:Ext w2 w4:=a4.ch _
 have p2:=a2.here;have p4:=a4.here;have z2:=a2.size;have z4:=a4.size
 have ed:=extDrew w4
 have x4:Ext w w4.drew:=(e2.trans e4).trans ed
 have hB1:w4.heap[b1]? =some (.cells #[.pointer (some ⟨b,0,none⟩)] 157 (0,0)):=e4.at a2.new
 have hB3:w4.heap[b3]? =some (.cells #[iv i] 3 (0,0)):=a4.new
 have H4:=h.ext x4
 obtain⟨Tb,hTb⟩:=h.box
 have hbl:=heap_lt hTb
 refine⟨some ⟨b,0,none⟩,by rw[cell_of hB1];rfl,IfB.no rfl ⟨some ⟨b,0,none⟩,by rw[cell_of (ed.at hB1)];rfl,b,0,rfl,p,H4.cell,i,by rw[cell_of (ed.at hB3)];rfl,H4.map.get' fun o ho=>?_⟩⟩
 obtain⟨s13,hs13a,hs13⟩:∃s13:Sl,(o.map encW).getD (Value.slice none 0 0)=slV s13/\(∀x,o=some x->s13=x.1):=by
  cases o with
  | none=>exact⟨⟨none,0,0⟩,rfl,fun x h=>by cases h⟩
  | some x=>exact⟨x.1,rfl,fun y h=>by cases h;rfl⟩
 refine⟨s13,hs13a,(c131 t w4.drew).use ?_⟩
 rintro _ w15 ⟨b',T',rfl,a15⟩
 have e15:Ext w4.drew w15:=a15.ch _
 have hrv:IntIt 184 #[.pointer (some ⟨b',0,none⟩)] w15 fun ys=>ys=l:=valuesIt a15.new ((hr.ext x4).ext e15) (fun h0 j hj=>by
  have:=rd_lt hr (by omega) h0 j hj
  have:=x4.size;have:=e15.size;omega) (by omega)
 refine⟨(184,_),rfl,(sorted_of hrv).use ?_⟩
 rintro _ w18 ⟨s19,xs,ys,rfl,rfl,hp,_,hs,ho19,e18,hb19⟩
 have hxl:xs.length<=1000:=by rw[hp.length_eq];exact hl
 refine⟨s19,rfl,(c132 ho19 (by omega)).use ?_⟩
 rintro _ w21 ⟨s22,rfl,ho22,hp22,hc22⟩
 have hbk:∀j∈blk s22,w15.heap.size<=j:=fun j hj=>hb19 j (by unfold blk at hj ⊢;rw[hp22] at hj;exact hj)
 have x15:=x4.trans e15
 have x18:=x15.trans e18
 have z4d:w4.drew.heap.size=w4.heap.size:=rfl
 have z15:=e15.size
 have z18:=e18.size
 have x21:Ext w w21:=x18.then hc22 fun j hj h=>by have:=hb19 j h;omega
 have y21:Ext w4 w21:=((ed.trans e15).trans e18).then hc22 fun j hj h=>by have:=hb19 j h;omega
 have H21:=h.ext x21
 have foot1:∀ {p' f'},(∀e∈f',e∈f\/(∀j∈blk e.2.1,w.heap.size<=j))->(p'=p\/∃r,p'=some r/\w.heap.size<=r)->∀j,inWt b p' f' j->inWt b p f j\/w.heap.size<=j:=by
  rintro p' f' hm hp' j (rfl|hj|⟨e,he,hj⟩)
  ·exact .inl (.inl rfl)
  ·rcases hp' with rfl|⟨r,rfl,hr⟩
   ·exact .inl (.inr (.inl hj))
   ·cases hj;exact .inr hr
  ·rcases hm e he with h'|h'
   ·exact .inl (.inr (.inr ⟨e,h',hj⟩))
   ·exact .inr (h' j hj)
 have hpll:=compactL_len xs
 have hn22:=owsI ho22
 generalize hpl:compactL xs=pl at ho22 hpll hn22
 have hpls:pl.Pairwise (· < ·):=by rw[<-hpl];exact compactL_sorted hs
 have hplm:∀k,k∈pl↔k∈ys:=fun k=>by rw[<-hpl,compactL_mem];exact hp.mem_iff
 have hpne:decide ((0:Int)<(s22.n:Int))=true->pl≠[]:=fun h e=>by
  rw[e] at hn22
  have:=of_decide_eq_true h
  simp at hn22;omega
 have zx:=x21.size
 refine⟨s22,rfl,(c130 H21 (y21.at hB1) (y21.at hB3) (by omega) (by omega) (t:=s22) (x:=pl) _ (fun hsome=>⟨ho22.rd,hpne hsome,by omega,fun j hj=>⟨ho22.lt j hj,by have:=hbk j hj;omega,fun e=>by have:=hbk j hj;have:=h.map.lt j e;omega⟩⟩) (by omega)).use ?_⟩
 rintro _ w24 ⟨rfl,p1,f1,H24,law1,len1,mem1,hp1,hc24⟩
 have z24:=hc24.size
 have hB1n:¬(b1=b\/p=some b1):=fun h'=>h'.elim (fun e=>by omega) fun e=>by have:=h.map.lt b1 e;omega
 have hB3n:¬(b3=b\/p=some b3):=fun h'=>h'.elim (fun e=>by omega) fun e=>by have:=h.map.lt b3 e;omega
 have hB1':=hc24.at (y21.at hB1) hB1n
 have hB3':=hc24.at (y21.at hB3) hB3n
 have e24:=extDrew w24
 have hwl1:∀k,wl f1 k=if i=k then pl else wl f k:=fun k=>by
  rw[wl_set law1 k]
  by_cases hk:i=k
  ·rw[if_pos hk,if_pos hk]
   cases hd:decide ((0:Int)<(s22.n:Int)) with
   | true=>rfl
   | false=>
    have:=of_decide_eq_false hd
    have:pl=[]:=List.eq_nil_of_length_eq_zero (by omega)
    rw[this];rfl
  ·rw[if_neg hk,if_neg hk]
 have hEn:∀a c,En f1 a c↔EnS f i pl a c:=fun a c=>by unfold En EnS;rw[hwl1]
 have hTC:∀ {a c},TC (En f1) a c↔TC (EnS f i pl) a c:=fun{a c}=>⟨fun h=>h.mono fun a c=>(hEn a c).1,fun h=>h.mono fun a c=>(hEn a c).2⟩
 refine⟨(),rfl,_,by rw[cell_of (e24.at hB1')];rfl,i,by rw[cell_of (e24.at hB3')];rfl,i,by rw[cell_of (e24.at hB3')];rfl,(c133 (H24.ext e24) i).use ?_⟩
 rintro _ w30 ⟨s31,zs,rfl,hzs,hzm,hzl,ho31,e30,hb31⟩
 have x30:Ext w24 w30:=e24.trans e30
 refine⟨s31,rfl,by rw[cell_of (x30.at hB3')];rfl,(c107 ho31.rd hzl i).use ?_⟩
 rintro _ _ ⟨rfl,rfl⟩
 have C30:Ch (fun j=>j=b\/p=some j) w w30:=((x21.mono fun _ _ h=>h.elim).trans hc24).then x30 fun _ _ h=>h.elim
 refine⟨_,rfl,IfB.dec (fun hin=>?_) fun hin=>?_⟩
 ·have hcyc:=hTC.1 ((hzm i).1 hin)
  have H30:=H24.ext x30
  have hsome:o.isSome=true->Rd w30 s13 1 (((o.map (·.2)).getD []).map iv)/\((o.map (·.2)).getD [])≠[]/\((o.map (·.2)).getD []).length<=1000/\∀j∈blk s13,j<w30.heap.size/\j≠b/\p1≠some j:=fun hs=>by
   cases o with
   | none=>cases hs
   | some x=>
    have hs13:=hs13 x rfl
    subst hs13
    obtain⟨r1,r2,r3,r4⟩:=h.rd _ (getM_mem ho)
    refine⟨r1.ch C30 fun j hj hFj=>?_,r2,r3,fun j hj=>⟨Nat.lt_of_lt_of_le (r4 j hj).1 C30.size,(r4 j hj).2.1,?_⟩⟩
    ·rcases hFj with e|e
     ·exact(r4 j hj).2.1 e
     ·exact(r4 j hj).2.2 e
    ·rcases hp1 with rfl|⟨r,rfl,hr'⟩
     ·exact(r4 j hj).2.2
     ·intro e;cases e;have:=(r4 j hj).1;omega
  refine(c130 H30 (x30.at hB1') (x30.at hB3') (by omega) (by omega) (t:=s13) (x:=(o.map (·.2)).getD []) o.isSome hsome (by omega)).use ?_
  rintro _ w36 ⟨rfl,p2,f2,H36,law2,len2,mem2,hp2',hc36⟩
  refine⟨(),rfl,p2,f2,pl,H36,by omega,C30.then hc36 fun j hj h'=>?_,?_,hpls,hplm,.inl ⟨hcyc,rfl,fun k=>?_⟩⟩
  ·rcases h' with h'|h'
   ·exact .inl h'
   ·rcases hp1 with rfl|⟨r,rfl,hr'⟩
    ·exact .inr h'
    ·cases h';omega
  ·refine foot1 (fun e he=>?_) ?_
   ·rcases mem2 e he with ⟨rfl,hs⟩|he
    ·cases o with
     | none=>cases hs
     | some x=>
      have hs13:=hs13 x rfl
      subst hs13
      exact .inl (getM_mem ho)
    ·rcases mem1 e he with ⟨rfl,_⟩|he
     ·exact .inr fun j hj=>by have:=hbk j hj;have:=x15.size;omega
     ·exact .inl he
   ·have zz:=C30.size
    rcases hp2' with rfl|⟨r,rfl,hr'⟩
    ·rcases hp1 with rfl|⟨r,rfl,hr'⟩
     ·exact .inl rfl
     ·exact .inr ⟨r,rfl,by omega⟩
    ·exact .inr ⟨r,rfl,by omega⟩
  ·rw[wl_set law2 k]
   by_cases hk:i=k
   ·subst hk
    rw[if_pos rfl]
    rw[show wl f i=valW (getM f i) from rfl,ho]
    cases o with
    | none=>rfl
    | some x=>rfl
   ·rw[if_neg hk,hwl1,if_neg hk]
 ·refine⟨p1,f1,pl,H24.ext x30,by omega,C30,?_,hpls,hplm,.inr ⟨fun hc=>hin ((hzm i).2 (hTC.2 hc)),rfl,hwl1⟩⟩
  refine foot1 (fun e he=>?_) (hp1.imp id fun⟨r,e,hr'⟩=>⟨r,e,by omega⟩)
  rcases mem1 e he with ⟨rfl,_⟩|he
  ·exact .inr fun j hj=>by have:=hbk j hj;have:=x15.size;omega
  ·exact .inl he
theorem single{pl:List Int}{a:Int}(hs:pl.Pairwise (· < ·))(hm:∀k,k∈pl↔k=a):pl=[a]:=by
 match pl,hs,hm with
 | [],_,hm=>exact absurd ((hm a).2 rfl) (by simp)
 | [x],_,hm=>rw[(hm x).1 (by simp)]
 | x::y::l,hs,hm=>
  have hx:=(hm x).1 (by simp)
  have hy:=(hm y).1 (by simp)
  have:=(List.pairwise_cons.1 hs).1 y (by simp)
  omega
theorem Wt.new{w w':World}{b:Nat}{T:TypeId}(h:IsAlloc w (.cells #[.map none] T (0,0)) b w'):Wt w' b none []:=
 ⟨⟨T,h.new⟩,rfl,by simp,by simp⟩
theorem wl_nil(k:Int):wl [] k=[]:=rfl
theorem c20(w:World):Cw 20 #[] w fun v w'=>v=.bool true/\Ext w w':=by
 refine F20_ok w _ ?_
 intro b1 w2 a2
 refine⟨by decide,fun b3 w4 a4=>?_⟩
 have e2:Ext w w2:=a2.ch _
 have e4:Ext w2 w4:=a4.ch _
 have p2:=a2.here;have p4:=a4.here;have z2:=a2.size
 have H:=(Wt.new a2).ext e4
 have hr:Rd w4 ⟨some ⟨b3,0,none⟩,1,1⟩ 1 (([2]:List Int).map iv):=(OwS.new (n:=1) (sz:=1) a4 rfl).rd
 refine(c69 H 1 hr (by simp) (by simp)).use ?_
 rintro v w6 ⟨p,f,pl,H6,l6,hc6,hf6,hs,hm,hv⟩
 have hpl:pl=[2]:=single hs fun k=>by rw[hm];simp
 subst hpl
 have no:¬TC (EnS [] 1 [2]) 1 1:=fun h=>by
  obtain⟨c,h1,h2⟩:=h.first
  unfold EnS at h1
  rw[if_pos rfl] at h1
  have:c=2:=by simpa using h1
  subst this
  rcases h2 with h2|h2
  ·cases h2
  ·obtain⟨d,h3,_⟩:=h2.first
   unfold EnS at h3
   rw[if_neg (by decide),wl_nil] at h3
   cases h3
 rcases hv with ⟨h,_⟩|⟨_,rfl,hw⟩
 ·exact absurd h no
 have C6:Ch (fun j=>w.heap.size<=j) w w6:=((e2.trans e4).mono fun _ _ h=>h.elim).then hc6 fun j _ h=>by
  rcases h with h|h
  ·omega
  ·cases h
 refine⟨true,rfl,IfB.yes rfl ⟨by decide,fun b8 w9 a9=>?_⟩⟩
 have e9:Ext w6 w9:=a9.ch _
 have hr9:Rd w9 ⟨some ⟨b8,0,none⟩,1,1⟩ 1 (([1]:List Int).map iv):=(OwS.new (n:=1) (sz:=1) a9 rfl).rd
 refine(c69 (H6.ext e9) 2 hr9 (by simp) (by simp at l6;omega)).use ?_
 rintro v w11 ⟨p',f',pl,H11,l11,hc11,hf11,hs',hm',hv'⟩
 have hpl:pl=[1]:=single hs' fun k=>by rw[hm'];simp
 subst hpl
 have yes:TC (EnS f 2 [1]) 2 2:=.more (.one (b:=1) (by unfold EnS;simp)) (by unfold EnS;rw[if_neg (by decide),hw,if_pos rfl];simp)
 obtain⟨rfl,hw'⟩:v=.bool false/\∀k,wl f' k=wl f k:=by
  rcases hv' with ⟨_,h1,h2⟩|⟨h,_⟩
  ·exact⟨h1,h2⟩
  ·exact absurd yes h
 refine⟨false,rfl,IfB.yes rfl ((c70 H11 1).use ?_)⟩
 rintro _ w14 ⟨t,rfl,ho,e14,_⟩
 have hn:=owsI ho
 rw[hw',hw,if_pos rfl] at hn
 refine⟨t,rfl,?_,?_⟩
 ·rw[show t.2=t.n from rfl,hn];rfl
 ·have:=((C6.then e9 fun _ _ h=>h.elim).then hc11 fun j hj h=>by
   rcases h with h|h
   ·omega
   ·rcases hf6 j (.inr (.inl h)) with h'|h'
    ·rcases h' with h'|h'|⟨e,he,_⟩
     ·omega
     ·cases h'
     ·cases he
    ·have:=(e2.trans e4).size;omega).then e14 fun _ _ h=>h.elim
  exact this.mono fun j hj h=>by omega
abbrev RwL:=Sl×List Int
abbrev hR(x:RwL):Value:=slV x.1
section
variable {E:Nat->Nat->Prop}
end
abbrev MxR:=Sl×List Bool
abbrev hM(x:MxR):Value:=slV x.1
set_option maxRecDepth 100000
theorem maxLen_le:maxLen<=9223372036854775807:=by decide+kernel
def F134j1(R:RV)(s14:Sl)(y16:Nat->Int->World->Prop)(b18:Nat)(n19:Int)(w20:World):Prop:=IfB (decide (n19<(s14.n:Int))) (Qx s14.1 n19 (s14.2:Int) fun b23 b24=>Qs w20 b23 (b24+n19.toNat*2+0) fun s25=>IfB (decide (40<(s25.n:Int))) (R (Value.bool true) w20) (Qx s14.1 n19 (s14.2:Int) fun b26 b27=>Qs w20 b26 (b27+n19.toNat*2+1) fun s28=>IfB (decide (40<(s28.n:Int))) (R (Value.bool true) w20) (Qn y16 b18 (IntKind.i64.wrap (n19+1)) w20))) (R (Value.bool false) w20)
theorem F134_ok(t0:ByteArray×Int×Sl×Sl×Bool)(w:World)(R:RV)(h:AllocP w (Obj.cells (lC49 t0).toArray 49) fun b1 w2=>∃z3:ByteArray,w2.cell? ⟨b1,0+0,none⟩=some (Value.string z3)/\IfB (decide (300<(z3.size:Int))) (R (Value.bool true) w2) (Qs w2 b1 (0+2) fun s4=>IfB (decide (20<(s4.n:Int))) (R (Value.bool true) w2) (Qs w2 b1 (0+3) fun s5=>IfB (decide (20<(s5.n:Int))) (R (Value.bool true) w2) (Qs w2.drew b1 (0+2) fun s6=>Qs w2.drew b1 (0+3) fun s7=>0*2<=16777216/\AllocP w2.drew (Obj.cells #[] 99) fun b8 w9=>w9.cell? ⟨b1,0+3,none⟩=some (Qy s7)/\w9.cell? ⟨b1,0+2,none⟩=some (Qy s6)/\∃(l10:List Value),ReadC w9 s6.1 (s6.2*2) l10/\AppendP tt99 99 w9 (some ⟨b8,0,none⟩) 0 0 s6.2 l10 fun s11 w12=>w12.cell? ⟨b1,0+3,none⟩=some (Qy s7)/\∃(l13:List Value),ReadC w12 s7.1 (s7.2*2) l13/\AppendP tt99 99 w12 s11.1 s11.2 s11.3 s7.2 l13 fun s14 w15=>Ql (α:=Int) 0 w15 fun y16 b18 n19 w20=>(F134j1 R s14 y16 b18 n19 w20))))):Cw 134 #[(.agg (lC49 t0).toArray)] w R:=
 ckF Tryz.func134 (nd (nd (.node (.draw (sts [1,2,4,5] (.ac 0 [5,4,2,1] (.ac 3 [5,4] (.ac 6 [] (.st 7 .fin) .non) .non) .non))) (.node (nd (.loop [(4,oi)] (rg [2,2,4,4,28,49]) .nil)) .nil)))) h (by kernel_rfl) (by kernel_rfl)
def F71j1(R:RV)(b1:Nat)(y3:Nat->Int->World->Prop)(b5:Nat)(n6:Int)(w7:World):Prop:=Qs w7 b1 (0+0) fun s10=>IfB (decide (n6<(s10.n:Int))) (Qs w7 b1 (0+0) fun s11=>Qx s11.1 n6 (s11.2:Int) fun b12 b13=>∃(x14:ByteArray×Int×Sl×Sl×Bool),CellsAt w7 b12 (b13+n6.toNat*5) (lC49 x14)/\Qv' 134 #[Value.agg (lC49 x14).toArray] w7 fun t17 w16=>IfB t17 (R (Value.bool true) w16) (Qn y3 b5 (IntKind.i64.wrap (n6+1)) w16)) (Qs w7 b1 (0+0) fun s19=>R (Value.bool (decide (12<(s19.n:Int)))) w7)
theorem F71_ok(t0:Sl×List Value)(w:World)(R:RV)(h:AllocP w (Obj.cells { toList:=Qy t0.fst::t0.2 } 26) fun b1 w2=>Ql (α:=Int) 0 w2 fun y3 b5 n6 w7=>(F71j1 R b1 y3 b5 n6 w7)):Cw 71 #[Value.agg { toList:=Qy t0.fst::t0.2 }] w R:=
 ckF Tryz.func71 (nd (.node (nd (.loop [(3,oi)] (rg [2,16]) .nil)) .nil)) h (by kernel_rfl) (by kernel_rfl)
theorem stC_all(ss:List (Sl×Sl)):One (ss.flatMap stC):=by
 intro v hv
 obtain⟨x,_,hx⟩:=List.mem_flatMap.1 hv
 exact stC_one x v hx
theorem stC_flat(ss:List (Sl×Sl)):(ss.flatMap stC).length=ss.length*2:=flatLen stC_len ss
theorem c134{w:World}{v:ClsV}{x:ClsD}(h:ClsM w v x):Cw 134 #[clV v] w fun r w'=>∃b,r=.bool b/\Ext w w':=by
 refine F134_ok v w _ fun b1 w2 a2=>?_
 have e2:Ext w w2:=a2.ch _
 have q:=fun{W:World} (o:Nat) (e:Ext w2 W)=>boxAt (cs:=clsC v) a2.new o e
 have r2:=Ch.refl (fun _=>False) w2
 obtain⟨ss,hs1,hs2,hs3⟩:=h.st.list
 obtain⟨cs,hc1,hc2,hc3⟩:=h.co.list
 have hsn:=rdN stC_len (by omega) hs2
 have hcn:=rdN stC_len (by omega) hc2
 refine⟨_,q 0 r2,IfB.dec (fun _=>⟨true,rfl,e2⟩) fun _=>⟨_,q 2 r2,IfB.dec (fun _=>⟨true,rfl,e2⟩) fun g1=>⟨_,q 3 r2,IfB.dec (fun _=>⟨true,rfl,e2⟩) fun g2=>?_⟩⟩⟩
 have g1:¬(20:Int)<(v.2.2.1.n:Int):=g1
 have g2:¬(20:Int)<(v.2.2.2.1.n:Int):=g2
 have ed:=extDrew w2
 refine⟨_,q 2 ed,_,q 3 ed,by decide,fun b8 w9 a8=>?_⟩
 have e9:Ext w2 w9:=ed.trans (a8.ch _)
 have E9:Ext w w9:=e2.trans e9
 have p8:=a8.here;have z8:=a8.size;have z2:=a2.size;have p2:=a2.here
 have zd:w2.drew.heap.size=w2.heap.size:=rfl
 have r9:Rd w9 v.2.2.1 2 (ss.flatMap stC):=hs2.ext E9
 refine⟨q 3 e9,q 2 e9,_,r9.2,OwS.append (s:=⟨some ⟨b8,0,none⟩,0,0⟩) (cs:=[]) (new:=ss.flatMap stC) (sz:=2) (cnt:=v.2.2.1.n) (OwS.new (cs:=[]) (n:=0) a8 rfl) rfl rfl (by rw[stC_flat,hsn]) (stC_all ss) ⟨by dsimp only;omega,Nat.le_trans (Nat.mul_le_mul (show 2*(0+v.2.2.1.n)<=1000 by omega) (show _<=100000 by decide)) (by decide)⟩ fun s11 w12 ho hn hC hb _=>?_⟩
 have e12:Ext w2 w12:=e9.chN hC fun j hj=>by
  have:j=b8:=by simpa [blk] using hj
  omega
 have E12:Ext w w12:=e2.trans e12
 have r12:Rd w12 v.2.2.2.1 2 (cs.flatMap stC):=hc2.ext E12
 rw[List.nil_append] at ho
 dsimp only at hn
 refine⟨q 3 e12,_,r12.2,OwS.append (new:=cs.flatMap stC) (cnt:=v.2.2.2.1.n) ho rfl rfl (by rw[stC_flat,hcn]) (stC_all cs) ⟨by omega,Nat.le_trans (Nat.mul_le_mul (show 2*(s11.n+v.2.2.2.1.n)<=1000 by omega) (show _<=100000 by decide)) (by decide)⟩ fun s14 w15 ho' hn' hC' hb' _=>?_⟩
 have zz:=E9.size
 have e15:Ext w w15:=E12.chN hC' fun j hj=>by
  rcases hb j hj with h'|h'
  ·have:j=b8:=by simpa [blk] using h'
   have:=e2.size;omega
  ·omega
 rw[<-List.flatMap_append] at ho'
 have hl:=rdN stC_len (by omega) ho'.rd
 have hla:(ss++cs).length=ss.length+cs.length:=List.length_append
 refine⟨fun m z W=>∃i:Nat,i<=(ss++cs).length/\m+i=(ss++cs).length/\z=(i:Int)/\W=w15,⟨_,0,Nat.zero_le _,rfl,rfl,rfl⟩,?_⟩
 rintro m _ _ g ⟨i,hi,hm,rfl,rfl⟩
 unfold F134j1
 refine IfB.dec (fun hlt=>?_) fun _=>⟨false,rfl,e15⟩
 have hi':i<(ss++cs).length:=by omega
 have hx:(ss++cs)[i]? =some (ss++cs)[i]:=List.getElem?_eq_getElem hi'
 generalize (ss++cs)[i]=y at hx
 obtain⟨b,o,hp,hc⟩:=ho'.rd.elem (i:=i) (by omega) (by omega) (flatGet stC_len hx)
 exact⟨b,o,hp,⟨by omega,hlt⟩,y.1,by rw[Int.toNat_natCast];exact hc 0 _ rfl,IfB.dec (fun _=>⟨true,rfl,e15⟩) fun _=>⟨b,o,hp,⟨by omega,hlt⟩,y.2,by rw[Int.toNat_natCast];exact hc 1 _ rfl,IfB.dec (fun _=>⟨true,rfl,e15⟩) fun _=>⟨rfl,m-1,by omega,i+1,hi',by omega,by rw[wrap_of (by omega) (by omega)];rfl,rfl⟩⟩⟩
theorem c71{w:World}{v:CatV}{x:CatD}(h:CatM w v x):Cw 71 #[cxV v] w fun r w'=>∃b,r=.bool b/\Ext w w':=by
 have hn:=cat_cl h
 have hcap:=h.cl.cap
 have hml:=maxLen_le
 refine F71_ok v w _ fun b1 w2 a2=>?_
 have e2:Ext w w2:=a2.ch _
 have q:=fun{W:World} (e:Ext w2 W)=>boxAt (cs:=cxC v) a2.new 0 e
 refine⟨fun m z W=>∃i:Nat,i<=x.1.length/\m+i=x.1.length/\z=(i:Int)/\Ext w2 W,⟨_,0,Nat.zero_le _,rfl,rfl,Ch.refl _ _⟩,?_⟩
 rintro m _ W g ⟨i,hi,hm,rfl,e⟩
 unfold F71j1
 refine⟨_,q e,IfB.dec (fun hlt=>?_) fun _=>⟨_,q e,_,rfl,e2.trans e⟩⟩
 have hlt:(i:Int)<(v.1.n:Int):=hlt
 have hi':i<x.1.length:=by omega
 have hx:x.1[i]? =some x.1[i]:=List.getElem?_eq_getElem hi'
 generalize x.1[i]=y at hx
 obtain⟨b,o,cv,hp,hc,hM⟩:=ClsR.at (SlR.ext h.cl (e2.trans e)) hx
 refine⟨_,q e,b,o,hp,⟨by omega,hlt⟩,cv,by rw[Int.toNat_natCast];exact hc,(c134 hM).use ?_⟩
 rintro _ w16 ⟨r,rfl,e16⟩
 exact⟨r,rfl,IfB.intro (fun _=>⟨true,rfl,(e2.trans e).trans e16⟩) fun _=>⟨rfl,m-1,by omega,i+1,hi',by omega,by rw[wrap_of (by omega) (by omega)];rfl,e.trans e16⟩⟩
theorem uN_of{x:CatD}{c d:Int}(hc:0<=c)(hd:0<=d)(k:Nat):uN x c d k=unitN x c.toNat d.toNat k:=by unfold uN;rw[if_pos ⟨hc,hd⟩]
end Go.Proofs.YtlpgdngcgbeegaaGreat.Gx
namespace Go.Proofs.YtlpgdngcgbeegaaGreat.Gx.SfA
open Go Go.Proofs.YtlpgdngcgbeegaaGreat.Gx
abbrev El:=Int×Int×Int
def key(x:El):Int:=x.1*1000000+x.2.1*1000+x.2.2
def Q(x:El):Prop:=(0<=x.1/\x.1<=999)/\(0<=x.2.1/\x.2.1<=999)/\0<=x.2.2/\x.2.2<=999
@[reducible] def ins:SrtC El:=⟨fun i=>[88,155,204,205,206,207,208,209,210,211,242,245,246,278].getD i 0,fun x=>[.int .i64 x.1,.int .i64 x.2.1,.int .i64 x.2.2],3,(0,0,0),key,Q⟩
set_option linter.unusedVariables false
set_option maxRecDepth 100000
theorem k1(t0:Sl)(t1:Int)(t2:Int)(t3:Int)(t4:Nat×Array Value)(w:World)(R:RV)(h: @G1 El ins t0 t1 t2 t3 t4 w R):Cw 155 #[Value.slice t0.1 t0.2 t0.3,Value.int IntKind.i64 t1,Value.int IntKind.i64 t2,Value.int IntKind.i64 t3,Value.func (Fn.func t4.1) #[] t4.2] w R:=
 call_of tbOk mixed en155 Tryz.func155 rfl (nd (nd (.loop [(1,oi),(2,oi),(3,oi),(10,ob),(11,ob)] (rg [1,3,10,147]) (nd (nd (nd (.join [(3,oi)] (rg [3,3,38,46]) .nil (nd (.join [(13,oi),(14,oi)] (rg [13,14,55,67]) .nil (.join [] (rg [68,80]) .nil (.node (.node (.draw (sts [0,1,2,3,4,5,6,7,8,9,10,11,12] (.ac 13 [] (sts [14,15,16] .fin) .non))) .nil) .nil))))))))))) (by kernel_rfl) (Nat.le_of_ble_eq_true (by kernel_rfl)) (Eq.mp (α:= @G1 El ins t0 t1 t2 t3 t4 w R) (by kernel_rfl) h)
theorem k2(t0:Sl)(t1:Int)(t2:Int)(t3:Nat×Array Value)(w:World)(R:RV)(h: @G2 El ins t0 t1 t2 t3 w R):Cw 204 #[Value.slice t0.1 t0.2 t0.3,Value.int IntKind.i64 t1,Value.int IntKind.i64 t2,Value.func (Fn.func t3.1) #[] t3.2] w R:=
 call_of tbOk mixed en204 Tryz.func204 rfl (nd (.loop [(8,oi)] (rg [8,9,12,52]) (nd (.node (nd (.loop [(9,oi)] (rg [9,9,18,52]) (.node (.node (.draw (sts [0,1,2,3,4,5,6,7,8,9,10,11,12,13] (.ac 14 [] (sts [15,16] .fin) .non))) .nil) (.node (.draw (sts [0,1,2,3,4,5,6,7,8,9,10,11,12,13,14] (.ac 15 [4,3,2] (.st 16 (.ac 17 [] .fin .non)) .non))) .nil)))) .nil)))) (by kernel_rfl) (Nat.le_of_ble_eq_true (by kernel_rfl)) (Eq.mp (α:= @G2 El ins t0 t1 t2 t3 w R) (by kernel_rfl) h)
theorem k3(t0:Sl)(t1:Int)(t2:Int)(t3:Nat×Array Value)(w:World)(R:RV)(h: @G3 El ins t0 t1 t2 t3 w R):Cw 205 #[Value.slice t0.1 t0.2 t0.3,Value.int IntKind.i64 t1,Value.int IntKind.i64 t2,Value.func (Fn.func t3.1) #[] t3.2] w R:=
 call_of tbOk mixed en205 Tryz.func205 rfl (nd (nd (nd (.node (nd (.loop [(11,oi)] (rg [11,11,20,29]) .nil)) (nd (.loop [(12,oi)] (rg [12,12,32,59]) (nd (.node (.node (.draw (sts [0,1,2,3,4,5,6,7,8,9,10,11,12,13,14,15,16] (.ac 17 [5,4,3,2] (.st 18 (.ac 19 [] .fin .non)) .non))) .nil) .nil)))))))) (by kernel_rfl) (Nat.le_of_ble_eq_true (by kernel_rfl)) (Eq.mp (α:= @G3 El ins t0 t1 t2 t3 w R) (by kernel_rfl) h)
end Go.Proofs.YtlpgdngcgbeegaaGreat.Gx.SfA
namespace Go.Proofs.YtlpgdngcgbeegaaGreat.Gx
open Go
set_option linter.unusedSimpArgs false
set_option linter.unusedVariables false
section
variable {α:Type} [DecidableEq α]
end
theorem nSt_le{x:CatD}(h:CatOk x)(c:Nat):nSt x c<=4:=by
 unfold nSt
 split
 ·rename_i y hy
  exact(h.cls y (List.mem_of_getElem? hy)).l4
 ·omega
set_option maxRecDepth 100000
def F25j1(t0:Sl)(t1:Sl)(R:RV)(y1:Nat->Int->World->Prop)(b3:Nat)(n4:Int)(w5:World):Prop:=IfB (decide (n4<(t0.n:Int))) (Qx t0.1 n4 (t0.2:Int) fun b8 b9=>Qi w5.drew b8 (b9+n4.toNat) fun n10=>Qx t1.1 n4 (t1.2:Int) fun b11 b12=>Qi w5.drew b11 (b12+n4.toNat) fun n13=>IfB (n10 != n13) (R (Value.bool false) w5.drew) (Qn y1 b3 (IntKind.i64.wrap (n4+1)) w5.drew)) (R (Value.bool true) w5)
theorem F25_ok(t0:Sl)(t1:Sl)(w:World)(R:RV)(h:IfB ((t0.2:Int) != (t1.2:Int)) (R (Value.bool false) w) (Ql (α:=Int) 0 w fun y1 b3 n4 w5=>(F25j1 t0 t1 R y1 b3 n4 w5))):Cw 25 #[Qy t0,Qy t1] w R:=
 ckF Tryz.func25 (nd (nd (.node (nd (.loop [(5,oi)] (rg [4,5,11,25]) (nd (.node (.node (.draw (sts [0,1,2,3,4,5,6,7,8] .fin)) .nil) .nil)))) .nil))) h (by kernel_rfl) (by kernel_rfl)
theorem c25{w:World}{s t:Sl}{xs ys:List Int}(hs:Rd w s 1 (xs.map iv))(ht:Rd w t 1 (ys.map iv))(hl:xs.length<=1000000):
  Cw 25 #[slV s,slV t] w fun v w'=>v=.bool (decide (xs=ys))/\Ext w w':=by
 have hsn:=rdI hs
 have htn:=rdI ht
 refine F25_ok s t w _ (IfB.intro (fun hne=>⟨?_,Ch.refl _ _⟩) fun he=>?_)
 ·have:s.n≠t.n:=fun e=>by simp[e] at hne
  rw[decide_eq_false (fun e=>this (by rw[hsn,htn,e]))]
 ·have he:s.n=t.n:=by simp at he;omega
  refine⟨fun m x W=>∃i:Nat,i<=xs.length/\m+i=xs.length/\x=(i:Int)/\Ext w W/\xs.take i=ys.take i,⟨xs.length,0,Nat.zero_le _,rfl,rfl,Ch.refl _ _,rfl⟩,?_⟩
  rintro m _ W g ⟨i,hi,hmi,rfl,hE,hsame⟩
  unfold F25j1
  refine IfB.dec (fun hlt=>?_) fun hge=>?_
  ·have hi':i<xs.length:=by omega
   have hx:xs[i]? =some xs[i]:=List.getElem?_eq_getElem hi'
   have hy:ys[i]? =some (ys[i]'(by omega)):=List.getElem?_eq_getElem (by omega)
   generalize xs[i]=x at hx
   generalize ys[i]'_=y at hy
   have ed:=hE.trans (extDrew W)
   obtain⟨b1,o1,hp1,hc1⟩:=rdI_get (hs.ext ed) hx
   obtain⟨b2,o2,hp2,hc2⟩:=rdI_get (ht.ext ed) hy
   refine⟨b1,o1,hp1,⟨by omega,hlt⟩,x,by rw[Int.toNat_natCast];exact hc1,b2,o2,hp2,⟨by omega,by omega⟩,y,by rw[Int.toNat_natCast];exact hc2,IfB.intro (fun hne=>⟨?_,ed⟩) fun hxy=>⟨rfl,m-1,by omega,i+1,hi',by omega,by rw[wrap_of (by omega) (by omega)];rfl,ed,?_⟩⟩
   ·have hne:x≠y:=by simpa using hne
    rw[decide_eq_false (fun e=>hne (by rw[e,hy] at hx;exact(Option.some.inj hx).symm))]
   ·have hxy:x=y:=by simpa using hxy
    rw[take_succ_get hx,take_succ_get hy,hsame,hxy]
  ·have hi':i=xs.length:=by omega
   subst hi'
   rw[List.take_length,List.take_of_length_le (by omega)] at hsame
   exact⟨by rw[decide_eq_true hsame],hE⟩
theorem arr_plain{A:Nat->Prop}{w:World}{e:Ty}{n:Nat}{f:e.den->List Value}{Q:e.den->Prop}{l:List e.den}{cs:List Value}(h:rep A w (.arr n e) l cs)(hp:∀x c,rep A w e x c->c=f x/\Q x):l.length=n/\cs=l.flatMap f/\∀x∈l,Q x:=by
 obtain⟨hn,css,hl,hr,rfl⟩:=h
 have hi:∀(i:Nat)(hi:i<l.length),css[i]? =some (f l[i])/\Q l[i]:=fun i hi=>by
  have hc:css[i]? =some (css[i]'(by omega)):=List.getElem?_eq_getElem (by omega)
  obtain⟨h1,h2⟩:=hp _ _ (hr i _ _ hc (List.getElem?_eq_getElem hi))
  exact⟨by rw[hc,h1],h2⟩
 have hcs:css=l.map f:=by
  apply List.ext_getElem?
  intro i
  by_cases h:i<l.length
  ·rw[(hi i h).1,List.getElem?_map,List.getElem?_eq_getElem h];rfl
  ·rw[List.getElem?_eq_none (by omega),List.getElem?_eq_none (by rw[List.length_map];omega)]
 refine⟨hn,by rw[hcs,List.flatMap_def],fun x hx=>?_⟩
 obtain⟨i,h,rfl⟩:=List.getElem_of_mem hx
 exact(hi i h).2
abbrev catOf(x:tyCat.den):CatD:=(x.1,x.2.flatten)
theorem rep_cat{A:Nat->Prop}{w:World}{x:tyCat.den}{cs:List Value}(h:rep A w tyCat x cs):∃v:CatV,cs=cxC v/\CatM w v (catOf x):=by
 obtain⟨c,d,rfl,h1,h2⟩:=h
 have h1:=rep_mono (B:=fun _=>True) (fun _ _=>trivial) h1
 obtain⟨s,rfl,_⟩:=id h1
 obtain⟨k1,k2,k3⟩:=arr_plain (n:=4) (e:=.arr 4 tyI) (f:=fun r=>r.map fun n=>Value.int .i64 n) (Q:=fun r=>r.length=4/\∀n∈r, -9223372036854775808<=n/\n<=9223372036854775807) (l:=x.2) h2 fun r c hr=>by
  obtain⟨g1,g2,g3⟩:=arr_plain (n:=4) (e:=tyI) (f:=fun n=>[Value.int .i64 n]) (Q:=fun n=> -9223372036854775808<=n/\n<=9223372036854775807) (l:=r) hr fun n c hc=>⟨hc.1,hc.2.1,hc.2.2⟩
  refine⟨by rw[g2,List.map_eq_flatMap],g1,g3⟩
 refine⟨(s,d),rfl,h1,?_,?_,fun n hn=>?_⟩
 ·rw[k2]
  show List.flatMap _ x.2=x.2.flatten.map _
  rw[List.map_flatten,List.flatMap_def]
 ·show x.2.flatten.length=16
  rw[List.length_flatten]
  have:∀l:List (List Int),(∀r∈l,r.length=4)->(l.map List.length).sum=l.length*4:=fun l=>by
   induction l with
   | nil=>intro _;rfl
   | cons r l ih=>
    intro h
    rw[List.map_cons,List.sum_cons,ih fun q hq=>h q (List.mem_cons_of_mem _ hq),h r (by simp),List.length_cons];omega
  rw[this _ fun r hr=>(k3 r hr).1]
  have k1:x.2.length=4:=k1
  omega
 ·obtain⟨r,hr,hn⟩:=List.mem_flatten.1 hn
  exact(k3 r hr).2 n hn
theorem arr_eq{cs:Array Value}{l:List Value}(h:cs.toList=l):cs=l.toArray:=by rw[<-h]
theorem c24{w:World}{v:CatV}{x:CatD}{t:Sl}{l:List Acv}(h:CatM w v x)(hL:AcL w t l):
  Cw 24 #[cxV v,slV t] w fun r w'=>∃b,r=.bool b/\(b=true↔AMay x l)/\Ext w w':=by
 have hn:=hL.n
 have hvn:=cat_cl h
 refine F24_ok v t w _ fun b1 w2 a2=>?_
 have e2:Ext w w2:=a2.ch _
 refine⟨v,cxN h a2.new (Ch.refl _ _),(c53 (h.ext e2)).use ?_⟩
 rintro _ w7 ⟨r,rfl,hr,e7⟩
 have E7:=e2.trans e7
 have no:∀ {W:World},Ext w W->¬AMay x l->∃b,Value.bool false=.bool b/\(b=true↔AMay x l)/\Ext w W:=fun e h=>⟨false,rfl,⟨fun h=>(by cases h),fun h'=>absurd h' h⟩,e⟩
 refine⟨r,rfl,IfB.intro (fun h1=>no E7 fun h=>?_) fun h1=>IfB.dec (fun h2=>no E7 fun h=>by have:=h.l12;omega) fun h2=>?_⟩
 ·have h1:r=false:=by simpa using h1
  rw[hr.2 h.cat] at h1;cases h1
 have hk:=hr.1 (by simpa using h1)
 refine⟨fun m z W=>∃i:Nat,i<=l.length/\m+i=l.length/\z=(i:Int)/\(∀a∈l.take i,AcOk x a)/\Ext w7 W,⟨l.length,0,Nat.zero_le _,rfl,rfl,by simp,Ch.refl _ _⟩,?_⟩
 rintro m _ W g ⟨i,hi,hmi,rfl,hall,eW⟩
 unfold F24j1
 have EW:=E7.trans eW
 refine IfB.dec (fun hlt=>?_) fun hge=>?_
 ·have hi':i<l.length:=by omega
  have hx:l[i]? =some l[i]:=List.getElem?_eq_getElem hi'
  have hxm:l[i]∈l:=List.getElem_mem hi'
  have htk:=take_succ_get hx
  generalize l[i]=a at hx hxm htk
  have nok:¬AcOk x a->¬AMay x l:=fun h h'=>h (h'.all a hxm)
  unfold F24k1
  obtain⟨sb,so,hsp,hsc⟩:=(hL.ext EW).at hx
  refine⟨sb,so,hsp,⟨by omega,hlt⟩,a.v,by rw[Int.toNat_natCast];exact hsc,fun b19 w20 a20=>⟨rfl,store_all (vs:=acC a.v) a20.new rfl (acC_one a.v) fun w21 u21=>?_⟩⟩
  have ed:=extDrew w21
  have e21:Ext W w21.drew:=(Ext.fresh a20 u21).trans ed
  have E21:=EW.trans e21
  have x21:Ext w2 w21.drew:=(e7.trans eW).trans e21
  have qa:=fun{V:World} (k:Nat) (e:Ext w21.drew V)=>boxAt (cs:=acC a.v) u21.new k (ed.trans e)
  have qc:w21.drew.cell? ⟨b1,0+0,none⟩=some (slV v.1):=boxAt (cs:=cxC v) a2.new 0 x21
  have r0:Ext w21.drew w21.drew:=Ch.refl _ _
  have han:=(hL.ok a hxm).n
  refine⟨_,qa 0 r0,IfB.dec (fun h3=>no E21 (nok fun h=>by have:=h.c0;omega)) fun h3=>⟨_,qa 0 r0,v.1,qc,IfB.dec (fun h4=>no E21 (nok fun h=>by have:=h.cn;omega)) fun h4=>?_⟩⟩
  obtain⟨pb,po,u,y,hy,hyk,hp,hpn,hpc,hu,hun⟩:=(h.ext E21).steps hk (a:=a) (by omega) (by omega)
  have hns:=nSt_of hy
  refine⟨_,qa 1 r0,v.1,qc,_,qa 0 r0,pb,po,hp,hpn,u.2.1,hpc 1 _ rfl,IfB.intro (fun h5=>no E21 (nok fun h=>?_)) fun h5=>?_⟩
  ·have:=h.na y hy
   have h5:(a.v.2.1.n:Int)≠u.2.1:=by simpa using h5
   rw[hu.ar] at h5
   exact h5 (by rw[han,this])
  have h5:(a.ar.length:Int)=y.2.1:=by
   have h5:(a.v.2.1.n:Int)=u.2.1:=by simpa using h5
   rw[<-hu.ar,<-h5,han]
  refine⟨_,qa 2 r0,IfB.dec (fun h6=>no E21 (nok fun h=>by have:=h.d0;omega)) fun h6=>⟨_,qa 2 r0,v.1,qc,_,qa 0 r0,pb,po,hp,hpn,u.2.2.1,hpc 2 _ rfl,IfB.dec (fun h7=>no E21 (nok fun h=>by have:=h.dl;omega)) fun h7=>⟨_,qa 3 r0,IfB.dec (fun h8=>no E21 (nok fun h=>by have:=h.p0;omega)) fun h8=>⟨_,qa 3 r0,IfB.dec (fun h9=>no E21 (nok fun h=>by have:=h.p3;omega)) fun h9=>?_⟩⟩⟩⟩
  refine⟨fun m2 z W2=>∃j:Nat,j<=a.ar.length/\m2+j=a.ar.length/\z=(j:Int)/\(∀k∈a.ar.take j,0<=k/\k<=99)/\Ext w21.drew W2,⟨a.ar.length,0,Nat.zero_le _,rfl,rfl,by simp,r0⟩,?_⟩
  rintro m2 _ W2 g2 ⟨j,hj,hmj,rfl,hargs,eW2⟩
  unfold F24j2
  have ha3:=hyk.a3
  refine⟨_,qa 1 eW2,IfB.dec (fun hlt2=>?_) fun hge2=>⟨(by trivial),m-1,by omega,i+1,hi',by omega,by rw[wrap_of (by omega) (by omega)];rfl,fun a' ha'=>?_,(eW.trans e21).trans eW2⟩⟩
  ·have hj':j<a.ar.length:=by omega
   have hxa:a.ar[j]? =some a.ar[j]:=List.getElem?_eq_getElem hj'
   have hxam:a.ar[j]∈a.ar:=List.getElem_mem hj'
   have htka:=take_succ_get hxa
   generalize a.ar[j]=k at hxa hxam htka
   obtain⟨kb,ko,hkp,hkc⟩:=rdI_get ((hL.ok a hxm).ext (E21.trans eW2)) hxa
   refine⟨_,qa 1 eW2,kb,ko,hkp,⟨by omega,hlt2⟩,k,by rw[Int.toNat_natCast];exact hkc,IfB.dec (fun h10=>no (E21.trans eW2) (nok fun h=>by have:=(h.ao k hxam).1;omega)) fun h10=>⟨_,qa 1 eW2,kb,ko,hkp,⟨by omega,hlt2⟩,k,by rw[Int.toNat_natCast];exact hkc,IfB.dec (fun h11=>no (E21.trans eW2) (nok fun h=>by have:=(h.ao k hxam).2;omega)) fun h11=>⟨(by trivial),m2-1,by omega,j+1,hj',by omega,by rw[wrap_of (by omega) (by omega)];rfl,fun k' hk'=>?_,eW2⟩⟩⟩
   rw[htka] at hk'
   rcases List.mem_append.1 hk' with h'|h'
   ·exact hargs k' h'
   ·rw[List.mem_singleton.1 h'];omega
  ·have hj':j=a.ar.length:=by omega
   subst hj'
   rw[List.take_length] at hargs
   rw[htk] at ha'
   rcases List.mem_append.1 ha' with h'|h'
   ·exact hall a' h'
   ·rw[List.mem_singleton.1 h']
    exact⟨by omega,by omega,fun y' hy'=>(by rw[hy] at hy';cases hy';exact h5),hargs,by omega,by omega,by omega,by omega⟩
 ·have hi':i=l.length:=by omega
  subst hi'
  rw[List.take_length] at hall
  exact⟨true,rfl,⟨fun _=>⟨hk,by omega,hall⟩,fun _=>rfl⟩,EW⟩
theorem footS_all(l:List SpTD)(args:List Int):footS (fun s=>s.2.2 || !false) l args=footS (fun _=>true) l args:=by
 unfold footS;congr 2;funext s;simp
theorem footS_wr(l:List SpTD)(args:List Int):footS (fun s=>s.2.2 || !true) l args=footS (fun s=>s.2.2) l args:=by
 unfold footS;congr 2;funext s;simp
theorem meet_nat{A B:List Spn}:(∃k:Nat,k<1000/\hasS A (k:Int)/\hasS B (k:Int))↔∃k:Int,hasS A k/\hasS B k:=by
 constructor
 ·rintro⟨k,_,h⟩;exact⟨_,h⟩
 ·rintro⟨k,h1,h2⟩
  obtain⟨s,_,⟨g1,g2,g3⟩,g4,g5⟩:=id h1
  exact⟨k.toNat,by omega,by rw[Int.toNat_of_nonneg (by omega)];exact h1,by rw[Int.toNat_of_nonneg (by omega)];exact h2⟩
theorem setQ{q:SpTD->Bool}{wr:Bool}(hq:∀l args,footS (fun s=>s.2.2 || !wr) l args=footS q l args){w:World}{t u:Sl}{s:StpD}{x:CatD}{a:Acv}{i:Nat}(h:Rd w t 5 (s.2.flatMap spTC))(ha:AcM w a)(hu:u=a.v.2.1)(hf:FootOk s.2 a.ar.length)(hargs:ArgsOk a.ar)(hat:stepAt x a.v.1.toNat i=some s):
  Cw 144 #[slV t,slV u,.bool wr] w fun v w'=>∃b,v=.pointer (some ⟨b,0,none⟩)/\SetP w' b (fun k=>FtP q x a i k)/\Ext w w':=by
 subst hu
 refine(c144 h ha hf hargs wr).mono ?_
 rintro _ w1 ⟨b1,rfl,⟨bs,h1,h2,h3⟩,_,e1⟩
 rw[hq] at h3
 exact⟨b1,rfl,⟨bs,h1,h2,fun k hk=>(h3 k hk).trans ⟨fun h=>⟨s,hat,h⟩,fun⟨s',hs',h⟩=>by rw[hat] at hs';cases hs';exact h⟩⟩,e1⟩
theorem c77{w:World}{v:CatV}{x:CatD}{s o:Acv}(h:CatM w v x)(hk:CatOk x)(hs:AcM w s)(hso:AcOk x s)(ho:AcM w o)(hoo:AcOk x o)(hod:o.v.2.2.1<(nSt x o.v.1.toNat:Int)):
  Cw 77 #[cxV v,acV s.v,acV o.v] w fun r w'=>∃b,r=.bool b/\(b=true↔BlkP x s o)/\Ext w w':=by
 have hd0:=hso.d0;have hdl:=hso.dl;have hc0:=hso.c0;have hcn:=hso.cn;have ho0:=hoo.c0;have hon:=hoo.cn;have hod0:=hoo.d0
 have hn4:∀c,nSt x c<=4:=nSt_le hk
 have hsn:=hn4 s.v.1.toNat
 have hargs:=hso.args hk
 have hargo:=hoo.args hk
 refine F77_ok v s.v o.v w _ fun b1 w2 a2 b3 w4 a4 b5 w6 a6=>?_
 have e2:Ext w w2:=a2.ch _
 have e4:Ext w2 w4:=a4.ch _
 have e6:Ext w4 w6:=a6.ch _
 have E6:=(e2.trans e4).trans e6
 have qs:=fun{W:World} (k:Nat) (e:Ext w6 W)=>boxAt (cs:=acC s.v) a4.new k (e6.trans e)
 have qo:=fun{W:World} (k:Nat) (e:Ext w6 W)=>boxAt (cs:=acC o.v) a6.new k e
 have qc:=fun{W:World} (e:Ext w6 W)=>cxN h a2.new ((e4.trans e6).trans e)
 have qc0:=fun{W:World} (e:Ext w6 W)=>boxAt (cs:=cxC v) a2.new 0 ((e4.trans e6).trans e)
 have no:∀ {W:World},Ext w W->¬BlkP x s o->∃b,Value.bool false=.bool b/\(b=true↔BlkP x s o)/\Ext w W:=fun e h=>⟨false,rfl,⟨fun h=>(by cases h),fun h'=>absurd h' h⟩,e⟩
 refine⟨s.v.2.2.2.1,qs 3 (Ch.refl _ _),IfB.intro (fun h1=>no E6 fun h=>?_) fun h1=>⟨s.v.2.2.1,qs 2 (Ch.refl _ _),IfB.intro (fun h2=>no E6 fun h=>?_) fun h2=>?_⟩⟩
 ·rw[h.1] at h1;cases h1
 ·have h2:s.v.2.2.1=0:=by simpa using h2
  have:=h.2.1;omega
 have h1:s.v.2.2.2.1=0:=by simpa using h1
 have h2:s.v.2.2.1≠0:=by simpa using h2
 unfold F77k1
 have hw:IntKind.i64.wrap (s.v.2.2.1-1)=s.v.2.2.1-1:=wrap_of (by omega) (by omega)
 have hbo:BndOk x s.v.1 o.v.1 (s.v.2.2.1-1):=⟨⟨hc0,hcn⟩,⟨ho0,hon⟩,by omega,by omega⟩
 refine⟨v,qc (Ch.refl _ _),s.v.1,qs 0 (Ch.refl _ _),o.v.1,qo 0 (Ch.refl _ _),s.v.2.2.1,qs 2 (Ch.refl _ _),?_⟩
 (try dsimp only);rw[hw]
 refine((c143 (h.ext E6) hk s.v.1 o.v.1 (s.v.2.2.1-1)).use ?_)
 rintro _ w16 ⟨lo,hi,b,rfl,hb,hlu,_,e16⟩
 obtain⟨l,u,rfl,rfl,hB⟩:=hlu (hb.2 hbo)
 have E16:=E6.trans e16
 refine⟨((l:Int),(u:Int),b),rfl,s.v.2.2.1,qs 2 e16,IfB.dec (fun h3=>no E16 fun h=>?_) fun h3=>?_⟩
 ·obtain⟨_,_,l',u',h4,h5,_⟩:=h
  obtain⟨rfl,rfl⟩:=h4.uniq hB
  dsimp only at h3;omega
 have ed:=extDrew w16
 have x16:Ext w6 w16.drew:=e16.trans ed
 have E16d:=E16.trans ed
 obtain⟨pb,po,uo,yo,hyo,hyok,hp,hpn,hpc,huo,huon⟩:=(h.ext E16d).steps hk (a:=o) ho0 hon
 have hsi:o.v.2.2.1.toNat<yo.2.2.1.length:=by rw[<-nSt_of hyo];omega
 have hsx:yo.2.2.1[o.v.2.2.1.toNat]? =some yo.2.2.1[o.v.2.2.1.toNat]:=List.getElem?_eq_getElem hsi
 have hsm:yo.2.2.1[o.v.2.2.1.toNat]∈yo.2.2.1:=List.getElem_mem hsi
 generalize yo.2.2.1[o.v.2.2.1.toNat]=so at hsx hsm
 obtain⟨sb,sx,tt,hps,hcs,hS⟩:=StsR.at huo.st hsx
 have hato:stepAt x o.v.1.toNat o.v.2.2.1.toNat=some so:=by unfold stepAt;rw[hyo];exact hsx
 have hfo:FootOk so.2 (o.ar.length:Int):=by rw[hoo.na yo hyo];exact(hyok.st so hsm).2
 have edd:=extDrew w16.drew
 have x17:=x16.trans edd
 have E17:=E16d.trans edd
 refine⟨v.1,qc0 x16,o.v.1,qo 0 x16,pb,po,hp,hpn,uo.2.2.1,hpc 2 _ rfl,o.v.2.2.1,qo 2 x16,sb,sx,hps,⟨hod0,by omega⟩,tt.2,hcs 1 _ rfl,o.v.2.1,qo 1 x17,o.v.2.1,qo 1 x17,(setQ (wr:=false) (q:=fun _=>true) footS_all (hS.foot.ext edd) (ho.ext E17) rfl hfo hargo hato).use ?_⟩
 rintro _ w31 ⟨br,rfl,hRo,e31⟩
 refine⟨_,rfl,qo 1 (x17.trans e31),(setQ (wr:=true) (q:=fun s=>s.2.2) footS_wr ((hS.foot.ext edd).ext e31) (ho.ext (E17.trans e31)) rfl hfo hargo hato).use ?_⟩
 rintro _ w34 ⟨bw,rfl,hWo,e34⟩
 have x34:=(x17.trans e31).trans e34
 have E34:=(E17.trans e31).trans e34
 have hRo:=hRo.ext e34
 refine⟨_,rfl,fun m z W=>∃i:Nat,i<=nSt x s.v.1.toNat/\m+i=nSt x s.v.1.toNat/\z=(i:Int)/\(∀j,j<i->l<=j->j<=u->¬CrP x s o j)/\Ext w34 W,⟨nSt x s.v.1.toNat,0,Nat.zero_le _,rfl,rfl,fun j hj=>absurd hj (Nat.not_lt_zero _),Ch.refl _ _⟩,?_⟩
 rintro m _ W g ⟨i,hi,hmi,rfl,hlow,eW⟩
 unfold F77j1
 have xW:=x34.trans eW
 have EW:=E34.trans eW
 obtain⟨pb2,po2,us,ys,hys,hysk,hp2,hpn2,hpc2,hus,husn⟩:=(h.ext EW).steps hk (a:=s) hc0 hcn
 refine⟨v.1,qc0 xW,s.v.1,qs 0 xW,pb2,po2,hp2,hpn2,us.2.2.1,hpc2 2 _ rfl,IfB.dec (fun hlt=>?_) fun hge=>no EW fun hh=>?_⟩
 ·have hi':i<nSt x s.v.1.toNat:=by omega
  unfold F77k2
  have edW:=extDrew W
  have xWd:=xW.trans edW
  have EWd:=EW.trans edW
  have hw1:IntKind.i64.wrap ((i:Int)+1)=((i+1:Nat):Int):=by rw[wrap_of (by omega) (by omega)];rfl
  refine⟨v,qc xWd,s.v.1,qs 0 xWd,o.v.1,qo 0 xWd,v,qc xWd,s.v.1,qs 0 xWd,o.v.1,qo 0 xWd,s.v.2.2.1,qs 2 xWd,(c145 (h.ext EWd) hk s.v.1 o.v.1 (i:Int) (by omega)).use ?_⟩
  rintro _ w60 ⟨rfl,e60⟩
  have x60:=xWd.trans e60
  refine⟨_,rfl,qs 2 x60,qo 0 x60,qs 0 x60,qc x60,?_⟩
  (try dsimp only);rw[hw]
  refine((c145 (h.ext (EWd.trans e60)) hk s.v.1 o.v.1 (s.v.2.2.1-1) (by omega)).use ?_)
  rintro _ w65 ⟨rfl,e65⟩
  have x65:=x60.trans e65
  have E65:=(EWd.trans e60).trans e65
  have hunit:uN x s.v.1 o.v.1 (i:Int).toNat=uN x s.v.1 o.v.1 (s.v.2.2.1-1).toNat↔l<=i/\i<=u:=by
   rw[Int.toNat_natCast,uN_of hc0 ho0,uN_of hc0 ho0]
   exact hB.iff hi'
  have e65':=((eW.trans edW).trans e60).trans e65
  have next:∀ {W':World},Ext w65 W'->(l<=i->i<=u->¬CrP x s o i)->([]:List Nat)=[]/\∃b:Nat,b<m/\(fun m z W=>∃i:Nat,i<=nSt x s.v.1.toNat/\m+i=nSt x s.v.1.toNat/\z=(i:Int)/\(∀j,j<i->l<=j->j<=u->¬CrP x s o j)/\Ext w34 W:Nat->Int->World->Prop) b (IntKind.i64.wrap ((i:Int)+1)) W':=fun e hn=>⟨(by trivial),m-1,by omega,i+1,hi',by omega,by rw[hw1],fun j hj hlj hju=>by
   rcases Nat.lt_or_ge j i with h'|h'
   ·exact hlow j h' hlj hju
   ·rw[show j=i by omega] at hlj hju ⊢;exact hn hlj hju,e65'.trans e⟩
  refine⟨_,rfl,IfB.intro (fun h4=>next (Ch.refl _ _) fun g1 g2=>?_) fun h4=>?_⟩
  ·have h4:((uN x s.v.1 o.v.1 (i:Int).toNat:Nat):Int)≠((uN x s.v.1 o.v.1 (s.v.2.2.1-1).toNat:Nat):Int):=by simpa using h4
   exact absurd (by rw[hunit.2 ⟨g1,g2⟩]) h4
  have h4:l<=i/\i<=u:=by
   have h4:((uN x s.v.1 o.v.1 (i:Int).toNat:Nat):Int)=((uN x s.v.1 o.v.1 (s.v.2.2.1-1).toNat:Nat):Int):=by simpa using h4
   exact hunit.1 (Int.ofNat.inj h4)
  obtain⟨pb3,po3,us3,ys3,hys3,hysk3,hp3,hpn3,hpc3,hus3,husn3⟩:=(h.ext E65).steps hk (a:=s) hc0 hcn
  have hsi2:i<ys3.2.2.1.length:=by rw[<-nSt_of hys3];omega
  have hsx2:ys3.2.2.1[i]? =some ys3.2.2.1[i]:=List.getElem?_eq_getElem hsi2
  have hsm2:ys3.2.2.1[i]∈ys3.2.2.1:=List.getElem_mem hsi2
  generalize ys3.2.2.1[i]=ss at hsx2 hsm2
  obtain⟨sb2,sx2,tt2,hps2,hcs2,hS2⟩:=StsR.at hus3.st hsx2
  have hats:stepAt x s.v.1.toNat i=some ss:=by unfold stepAt;rw[hys3];exact hsx2
  have hfs:FootOk ss.2 (s.ar.length:Int):=by rw[hso.na ys3 hys3];exact(hysk3.st ss hsm2).2
  have ed65:=extDrew w65
  have x66:=x65.trans ed65
  have E66:=E65.trans ed65
  refine⟨v.1,qc0 x65,s.v.1,qs 0 x65,pb3,po3,hp3,hpn3,us3.2.2.1,hpc3 2 _ rfl,sb2,sx2,hps2,⟨by omega,by omega⟩,tt2.2,by rw[Int.toNat_natCast];exact hcs2 1 _ rfl,s.v.2.1,qs 1 x66,s.v.2.1,qs 1 x66,(setQ (wr:=false) (q:=fun _=>true) footS_all (hS2.foot.ext ed65) (hs.ext E66) rfl hfs hargs hats).use ?_⟩
  rintro _ w79 ⟨ba,rfl,hRs,e79⟩
  refine⟨_,rfl,qs 1 (x66.trans e79),(setQ (wr:=true) (q:=fun s=>s.2.2) footS_wr ((hS2.foot.ext ed65).ext e79) (hs.ext (E66.trans e79)) rfl hfs hargs hats).use ?_⟩
  rintro _ w82 ⟨bb,rfl,hWs,e82⟩
  have hRs:=hRs.ext e82
  have E82:=(E66.trans e79).trans e82
  have e82':=(ed65.trans e79).trans e82
  have hRo:=hRo.ext (e65'.trans e82')
  have hWo:=hWo.ext (e65'.trans e82')
  have meet:∀ {p q:SpTD->Bool},(∃k:Nat,k<1000/\FtP p x s i (k:Int)/\FtP q x o o.v.2.2.1.toNat (k:Int))↔∃k:Int,FtP p x s i k/\FtP q x o o.v.2.2.1.toNat k:=fun{p q}=>by
   have a1:∀k,FtP p x s i k↔hasS (footS p ss.2 s.ar) k:=fun k=>⟨fun⟨s',hs',h⟩=>by rw[hats] at hs';cases hs';exact h,fun h=>⟨ss,hats,h⟩⟩
   have a2:∀k,FtP q x o o.v.2.2.1.toNat k↔hasS (footS q so.2 o.ar) k:=fun k=>⟨fun⟨s',hs',h⟩=>by rw[hato] at hs';cases hs';exact h,fun h=>⟨so,hato,h⟩⟩
   simp only[a1,a2]
   exact meet_nat
  have yes:CrP x s o i->∃b,Value.bool true=.bool b/\(b=true↔BlkP x s o)/\Ext w w82:=fun hc=>⟨true,rfl,⟨fun _=>⟨h1,by omega,l,u,hB,by dsimp only at h3;omega,i,h4,hc⟩,fun _=>rfl⟩,E82⟩
  refine⟨_,rfl,(c98 hWs hRo).use ?_⟩
  rintro _ _ ⟨t86,rfl,h86,rfl⟩
  refine⟨t86,rfl,IfB.intro (fun h5=>yes ?_) fun h5=>(c98 hWs hWo).use ?_⟩
  ·obtain⟨k,hk⟩:=meet.1 (h86.1 h5);exact⟨k,.inl hk⟩
  rintro _ _ ⟨t89,rfl,h89,rfl⟩
  refine⟨t89,rfl,IfB.intro (fun h6=>yes ?_) fun h6=>(c98 hRs hWo).use ?_⟩
  ·obtain⟨k,hk⟩:=meet.1 (h89.1 h6);exact⟨k,.inr (.inl hk)⟩
  rintro _ _ ⟨t92,rfl,h92,rfl⟩
  refine⟨t92,rfl,IfB.intro (fun h7=>yes ?_) fun h7=>next e82' fun _ _=>?_⟩
  ·obtain⟨k,hk⟩:=meet.1 (h92.1 h7);exact⟨k,.inr (.inr hk)⟩
  rintro⟨k,hk|hk|hk⟩
  ·rw[h86.2 (meet.2 ⟨k,hk⟩)] at h5;cases h5
  ·rw[h89.2 (meet.2 ⟨k,hk⟩)] at h6;cases h6
  ·rw[h92.2 (meet.2 ⟨k,hk⟩)] at h7;cases h7
 ·obtain⟨_,_,l',u',h4,_,j,hj,hc⟩:=hh
  obtain⟨rfl,rfl⟩:=h4.uniq hB
  have:=hB.n
  exact hlow j (by omega) hj.1 hj.2 hc
theorem c26{w:World}{v:CatV}{x:CatD}{t:Sl}{l:List Acv}(h:CatM w v x)(hL:AcL w t l)(hM:AMay x l)(i:Int):
  Cw 26 #[cxV v,slV t,iv i] w fun r w'=>∃(t':Sl)(os:List Nat),r=slV t'/\OwS w' t' 1 (os.map natV)/\(AsksP x l i->os=BlL x l i.toNat l.length)/\(¬AsksP x l i->os=[])/\Ext w w':=by
 have hn:=hL.n
 have hl12:=hM.l12
 refine F26_ok v t i w _ fun b1 w2 a2=>?_
 have e2:Ext w w2.drew:=(a2.ch _).trans (extDrew _)
 have x2:Ext w2 w2.drew:=extDrew _
 have no:¬AsksP x l i->∃(t':Sl)(os:List Nat),Value.slice none 0 0=slV t'/\OwS w2.drew t' 1 (os.map natV)/\(AsksP x l i->os=BlL x l i.toNat l.length)/\(¬AsksP x l i->os=[])/\Ext w w2.drew:=fun h=>⟨⟨none,0,0⟩,[],rfl,.nil _ _,fun h'=>absurd h' h,fun _=>rfl,e2⟩
 refine IfB.dec (fun h2=>no fun h=>by have:=h.1;omega) fun h2=>IfB.dec (fun h3=>no fun h=>by have:=h.2.1;omega) fun h3=>?_
 have hi:i.toNat<l.length:=by omega
 have hx:l[i.toNat]? =some l[i.toNat]:=List.getElem?_eq_getElem hi
 have hxm:l[i.toNat]∈l:=List.getElem_mem hi
 generalize l[i.toNat]=o at hx hxm
 have hoo:=hM.all o hxm
 have hod:=hoo.dl
 obtain⟨ob,oo,hop,hoc⟩:=(hL.ext e2).at hx
 have hbn:(0:Int)<=i/\i<(t.n:Int):=⟨by omega,by omega⟩
 refine⟨ob,oo,hop,hbn,_,hoc 3 _ rfl,IfB.intro (fun h4=>no fun h=>?_) fun h4=>?_⟩
 ·obtain⟨_,_,o',ho',h5,_⟩:=h
  rw[hx] at ho';cases ho'
  rw[h5] at h4;cases h4
 have h4:o.v.2.2.2.1=0:=by simpa using h4
 obtain⟨pb,po,u,y,hy,hyk,hp,hpn,hpc,hu,hun⟩:=(h.ext e2).steps hM.cat hoo.c0 hoo.cn
 refine⟨ob,oo,hop,hbn,_,hoc 2 _ rfl,v.1,boxAt (cs:=cxC v) a2.new 0 x2,ob,oo,hop,hbn,_,hoc 0 _ rfl,pb,po,hp,hpn,u.2.2.1,hpc 2 _ rfl,IfB.intro (fun h5=>no fun h=>?_) fun h5=>?_⟩
 ·obtain⟨_,_,o',ho',_,h6⟩:=h
  rw[hx] at ho';cases ho'
  apply h6
  have h5:o.v.2.2.1=(u.2.2.1.n:Int):=by simpa using h5
  rw[h5,hun]
 have h5:o.v.2.2.1≠(nSt x o.v.1.toNat:Int):=by
  rw[<-hun];simpa using h5
 have hA:AsksP x l i:=⟨by omega,by omega,o,hx,h4,h5⟩
 refine⟨fun m z W=>∃(k:Nat)(so:Sl),k<=l.length/\m+k=l.length/\z=(so,(k:Int))/\OwS W so 1 ((BlL x l i.toNat k).map natV)/\Ext w2.drew W/\∀j∈blk so,w2.drew.heap.size<=j,⟨l.length,0,⟨none,0,0⟩,Nat.zero_le _,rfl,rfl,.nil _ _,Ch.refl _ _,by simp[blk]⟩,?_⟩
 rintro m _ W g ⟨k,so,hk,hmk,rfl,hO,eW,hb⟩
 unfold F26j1
 refine IfB.dec (fun hlt=>?_) fun hge=>?_
 ·have hk':k<l.length:=by dsimp only at hlt;omega
  have hx2:l[k]? =some l[k]:=List.getElem?_eq_getElem hk'
  have hxm2:l[k]∈l:=List.getElem_mem hk'
  generalize l[k]=a at hx2 hxm2
  have ed:=extDrew W
  have hw1:IntKind.i64.wrap ((k:Int)+1)=((k+1:Nat):Int):=by rw[wrap_of (by omega) (by omega)];rfl
  refine IfB.intro (fun h6=>?_) fun h6=>⟨(by trivial),m-1,by omega,k+1,so,hk',by omega,by dsimp only;rw[hw1],?_,eW.trans ed,hb⟩
  ·have h6:k≠i.toNat:=by
    have h6:(k:Int)≠i:=by simpa using h6
    omega
   unfold F26k1
   have ED:=(e2.trans eW).trans ed
   obtain⟨sb,so',hsp,hsc⟩:=(hL.ext ED).at hx2
   obtain⟨ob2,oo2,hop2,hoc2⟩:=(hL.ext ED).at hx
   refine⟨v,cxN h a2.new ((x2.trans eW).trans ed),sb,so',hsp,(⟨by omega,hlt⟩:(0:Int)<=(k:Int)/\(k:Int)<(t.n:Int)),a.v,by dsimp only;rw[Int.toNat_natCast];exact hsc,ob2,oo2,hop2,hbn,o.v,hoc2,(c77 (h.ext ED) hM.cat ((hL.ext ED).ok a hxm2) (hM.all a hxm2) ((hL.ext ED).ok o hxm) hoo (by omega)).use ?_⟩
   rintro _ w43 ⟨t44,rfl,h44,e43⟩
   have eq:InWay x l i.toNat k↔t44=true:=by
    rw[h44]
    exact⟨fun⟨_,a',o',ha',ho',hB⟩=>by rw[hx2] at ha';rw[hx] at ho';cases ha';cases ho';exact hB,fun hB=>⟨h6,a,o,hx2,hx,hB⟩⟩
   have e43':=ed.trans e43
   refine⟨t44,rfl,IfB.intro (fun h7=>⟨by decide,fun b45 w46 a46=>?_⟩) fun h7=>⟨(by trivial),m-1,by omega,k+1,so,hk',by omega,by dsimp only;rw[hw1],?_,eW.trans e43',hb⟩⟩
   ·have e46:Ext W w46:=e43'.trans (a46.ch _)
    have hon:=hO.len
    rw[List.length_map,Nat.mul_one] at hon
    have hbl:=BlL_len x l i.toNat k
    refine(hO.ext e46).lit (new:=[natV k]) (T':=3) a46.new rfl (by intro v hv;rw[List.mem_singleton.1 hv];rfl) rfl rfl (by omega) (by decide) fun s' w' ho' hn' hC' hbk=>⟨(by trivial),m-1,by omega,k+1,s',hk',by omega,by dsimp only;rw[hw1],?_,(eW.trans e46).chN hC' hb,fun j hj=>?_⟩
    ·rw[BlL_succ,if_pos (bq_iff.2 (eq.2 h7)),List.map_append]
     exact ho'
    ·rcases hbk j hj with h'|h'
     ·exact hb j h'
     ·have:=eW.size;have:=e46.size;omega
   ·rw[BlL_succ,if_neg (by rw[bq_iff,eq];intro h;rw[h] at h7;cases h7),List.append_nil]
    exact hO.ext e43'
  ·have h6:k=i.toNat:=by
    have h6:(k:Int)=i:=by simpa using h6
    omega
   rw[BlL_succ,if_neg (by rw[bq_iff];exact fun h=>h.1 h6),List.append_nil]
   exact hO.ext ed
 ·have hk':k=l.length:=by dsimp only at hge;omega
  subst hk'
  exact⟨so,_,rfl,hO,fun _=>rfl,fun h=>absurd hA h,e2.trans eW⟩
theorem c21{w:World}{v:CatV}{x:CatD}{t:Sl}{l:List Acv}(h:CatM w v x)(hL:AcL w t l)(hl:l.length<=9223372036854775807):
  Cw 21 #[cxV v,slV t] w fun r w'=>∃b,r=.bool b/\Ext w w':=by
 have hn:=hL.n
 refine F21_ok v t w _ fun b1 w2 a2=>?_
 have e2:Ext w w2:=a2.ch _
 refine⟨fun m z W=>∃i:Nat,i<=l.length/\m+i=l.length/\z=(i:Int)/\Ext w2 W,⟨l.length,0,Nat.zero_le _,rfl,rfl,Ch.refl _ _⟩,?_⟩
 rintro m _ W g ⟨i,hi,hmi,rfl,eW⟩
 unfold F21j1
 have EW:=e2.trans eW
 refine IfB.dec (fun hlt=>?_) fun hge=>?_
 ·have hi':i<l.length:=by omega
  have hx:l[i]? =some l[i]:=List.getElem?_eq_getElem hi'
  generalize l[i]=a at hx
  obtain⟨sb,so,hsp,hsc⟩:=(hL.ext EW).at hx
  exact⟨sb,so,hsp,⟨by omega,hlt⟩,a.v.2.1,by rw[Int.toNat_natCast];exact hsc 1 _ rfl,IfB.dec (fun _=>⟨true,rfl,EW⟩) fun _=>⟨(by trivial),m-1,by omega,i+1,hi',by omega,by rw[wrap_of (by omega) (by omega)];rfl,eW⟩⟩
 ·refine⟨v,cxN h a2.new eW,(c71 (h.ext EW)).use ?_⟩
  rintro _ w18 ⟨t19,rfl,e18⟩
  exact⟨t19,rfl,IfB.intro (fun _=>⟨true,rfl,EW.trans e18⟩) fun _=>⟨_,rfl,EW.trans e18⟩⟩
abbrev tyAc:Ty:=.pair (.int .i64) (.pair (.sl (.int .i64)) (.pair (.int .i64) (.pair (.int .i64) (.pair (.arr 4 (.int .i64)) (.int .i64)))))
theorem rep_ac{A:Nat->Prop}{w:World}{x:tyAc.den}{cs:List Value}(h:rep A w tyAc x cs):∃a:Acv,cs=aL a/\AcM w a:=by
 obtain⟨c1,d1,rfl,⟨rfl,_⟩,c2,d2,rfl,h2,c3,d3,rfl,⟨rfl,_⟩,c4,d4,rfl,⟨rfl,_⟩,c5,d5,rfl,h5,⟨rfl,_⟩⟩:=h
 obtain⟨s,rfl,hR,_,_,_⟩:=rep_ints h2
 obtain⟨g1,g2,_⟩:=arr_plain (n:=4) (e:=.int .i64) (f:=fun n=>[Value.int .i64 n]) (Q:=fun _=>True) (l:=x.2.2.2.2.1) h5 fun n c hc=>⟨hc.1,trivial⟩
 match hq:x.2.2.2.2.1,g1,g2 with
 | [r1,r2,r3,r4],_,g2=>
  subst g2
  exact⟨⟨(x.1,s,x.2.2.1,x.2.2.2.1,r1,r2,r3,r4,x.2.2.2.2.2),x.2.1⟩,rfl,hR⟩
theorem rep_acs{w:World}{l:List tyAc.den}{c:Value}(h:rep (fun _=>True) w (.sl tyAc) l [c]):∃(t:Sl)(L:List Acv),c=slV t/\AcL w t L/\L.length<=9223372036854775807:=by
 obtain⟨s,ns,h1,h2,h3,h4,h5,h6,h7⟩:=rep_list (f:=aL) (Q:=fun _ a=>AcM w a) h fun x _ c hc=>rep_ac hc
 simp only[List.cons.injEq,and_true] at h1
 refine⟨s,ns,h1,⟨h2,fun a ha=>?_⟩,by have:=maxLen_le;omega⟩
 obtain⟨i,hi,rfl⟩:=List.getElem_of_mem ha
 exact h7 i _ _ (List.getElem?_eq_getElem (by omega)) (List.getElem?_eq_getElem hi)
theorem map_nat_int(os:List Nat):os.map natV=(os.map fun k:Nat=>(k:Int)).map iv:=by rw[List.map_map];rfl
theorem waitsBlockers(w:World){x:tyCat.den}{cs:Array Value}(h0:rep (fun _=>True) w tyCat x cs.toList){l:List tyAc.den}{c1:Value}(h1:rep (fun _=>True) w (.sl tyAc) l [c1]){i:Int}{c2:Value}(h2:rep (fun _=>True) w (.int .i64) i [c2]):
  Cw 3 #[.agg cs,c1,c2] w fun v w'=>v=.bool true/\Ext w w':=by
 obtain⟨v,e0,hC⟩:=rep_cat h0
 obtain⟨t,L,rfl,hL,hlen⟩:=rep_acs h1
 obtain⟨e2,_⟩:=h2
 simp only[List.cons.injEq,and_true] at e2
 subst e2
 rw[arr_eq e0]
 refine F3_ok v t i w _ fun b1 w2 a2=>(c20 w2).use ?_
 rintro _ w4 ⟨rfl,e4⟩
 have e2:Ext w w2:=a2.ch _
 have E4:=e2.trans e4
 refine⟨true,rfl,IfB.no rfl ?_⟩
 unfold F3k1
 refine⟨v,cxN hC a2.new e4,(c21 (hC.ext E4) (hL.ext E4) hlen).use ?_⟩
 rintro _ w10 ⟨g,rfl,e10⟩
 have x10:=e4.trans e10
 have E10:=E4.trans e10
 refine⟨g,rfl,IfB.intro (fun _=>⟨rfl,E10⟩) fun _=>⟨v,cxN hC a2.new x10,(c22 (hC.ext E10) (hL.ext E10) i).use ?_⟩⟩
 rintro _ w16 ⟨s17,os,rfl,ho,hos1,hos2,e16⟩
 have ed:=extDrew w16
 have x16:=(x10.trans e16).trans ed
 have E16:=(E10.trans e16).trans ed
 refine⟨s17,rfl,v,cxN hC a2.new x16,v,cxN hC a2.new x16,(c23 (hC.ext E16) (hL.ext E16)).use ?_⟩
 rintro _ w25 ⟨t26,rfl,h26,e25⟩
 have x25:=x16.trans e25
 have E25:=E16.trans e25
 refine⟨t26,rfl,cxN hC a2.new x25,(c24 (hC.ext E25) (hL.ext E25)).use ?_⟩
 rintro _ w30 ⟨t31,rfl,h31,e30⟩
 have x30:=x25.trans e30
 have E30:=E25.trans e30
 have hsame:t26=t31:=by rw[Bool.eq_iff_iff,h26,h31]
 refine⟨t31,rfl,IfB.no (by rw[hsame];cases t31<;>rfl) ⟨v,cxN hC a2.new x30,(c24 (hC.ext E30) (hL.ext E30)).use ?_⟩⟩
 rintro _ w36 ⟨t37,rfl,h37,e36⟩
 have x36:=x30.trans e36
 have E36:=E30.trans e36
 have hn:=ho.len
 rw[List.length_map,Nat.mul_one] at hn
 refine⟨t37,rfl,IfB.intro (fun h3=>⟨?_,E36⟩) fun h3=>?_⟩
 ·have hno:¬AMay (catOf x) L:=fun h=>by rw[h37.2 h] at h3;cases h3
  have:=hos2 fun h=>hno h.1
  subst this
  rw[<-hn];rfl
 have hM:=h37.1 (by simpa using h3)
 refine⟨v,cxN hC a2.new x36,(c26 (hC.ext E36) (hL.ext E36) hM i).use ?_⟩
 rintro _ w42 ⟨s43,os',rfl,ho',hos1',hos2',e42⟩
 have hsm:os=os':=by
  by_cases hA:AsksP (catOf x) L i
  ·rw[hos1 ⟨hM,hA⟩,hos1' hA]
  ·rw[hos2 fun h=>hA h.2,hos2' hA]
 have e16':Ext w16 w42:=(((ed.trans e25).trans e30).trans e36).trans e42
 have hl:=hM.l12
 have hbl:os.length<=L.length:=by
  by_cases hA:AsksP (catOf x) L i
  ·rw[hos1 ⟨hM,hA⟩];exact BlL_len _ _ _ _
  ·rw[hos2 fun h=>hA h.2];exact Nat.zero_le _
 refine⟨s43,rfl,(c25 (xs:=os.map fun k:Nat=>(k:Int)) (ys:=os'.map fun k:Nat=>(k:Int)) (by rw[<-map_nat_int];exact(ho.ext e16').rd) (by rw[<-map_nat_int];exact ho'.rd) (by rw[List.length_map];omega)).use ?_⟩
 rintro _ w45 ⟨rfl,e45⟩
 exact⟨_,rfl,by rw[hsm];simp,(E36.trans e42).trans e45⟩
end Go.Proofs.YtlpgdngcgbeegaaGreat.Gx
namespace Go.Proofs.YtlpgdngcgbeegaaGreat.waitsBlockers
open Go.ChangeShapes Go.WideShapes Go.ChangeAt Go.RowKit
open Go.ChangeMaps (open_string shut_string)
set_option linter.unusedVariables false
theorem own:ownKnob Tryz.prog.godebug=none:=by kernel_rfl
set_option maxRecDepth 100000 in
theorem lifted(os:Os)(started:os.Started)(H:Type)(enc:TypeId×Value->H):
  ReturnsInHanded {} Tryz.checked os 3 .any (Rows.waitsBlockersSpec.pre6 enc Tryz.prog Tryz.f3 Rows.waitsBlockersRow.domain false) (Rows.waitsBlockersSpec.post enc Tryz.prog Tryz.f3 false true false false):=by
 refine returnsInHanded_of_change (C:=Tryz.checked) own started (by kernel_rfl) Tryz.func3
  (ChangeSpec.witness6 (enc:=enc) (C:=Tryz.checked) false ⟨#[],#[.agg #[.slice none 0 0,.int .i64 0,.int .i64 0,.int .i64 0,.int .i64 0,.int .i64 0,.int .i64 0,.int .i64 0,.int .i64 0,.int .i64 0,.int .i64 0,.int .i64 0,.int .i64 0,.int .i64 0,.int .i64 0,.int .i64 0,.int .i64 0],.slice none 0 0,.int .i64 0],[]⟩ 8 (by kernel_rfl) (by kernel_rfl) (by kernel_rfl) (by kernel_rfl)) ?_
 intro W base args ds gs before hval0 hW hcnd _
 have hval:∀(j:Nat) t v,Tryz.f3.params[j]? =some t->args[j]? =some v->Value.okWide Tryz.prog W .any base t v:=hval0
 have hW':=hW
 have hlt:=hW.lt
 obtain⟨p,q,hA0,hV,rfl,hfz,hnd⟩:=hW
 have hA:DataW.TrodAll enc Tryz.prog W 0 (fun _=>true) true Tryz.f3.params.toList args.toList ds p:=hA0
 have hpar:Tryz.f3.params=#[26,27,3]:=rfl
 rw[hpar] at hA hval
 obtain⟨v0,vs0,d0,ds0,p0,q0,hargs,rfl,rfl,h0,r0⟩:=trodAll_cons hA
 obtain⟨v1,vs1,d1,ds1,p1,q1,rfl,rfl,rfl,h1,r1⟩:=trodAll_cons r0
 obtain⟨v2,vs2,d2,ds2,p2,q2,rfl,rfl,rfl,h2,r2⟩:=trodAll_cons r1
 obtain⟨rfl,rfl,rfl⟩:=trodAll_nil r2
 obtain rfl:args=#[v0,v1,v2]:=by cases args;simp_all
 obtain⟨rfl,rfl⟩:=trodVars_none hV
 clear hA0 hval0
 obtain⟨x0,e0⟩:=Gx.open_arg (d:=12) (ty:=(.pair (.sl (.pair .str (.pair (.int .i64) (.pair (.sl (.pair (.sl (.pair (.int .i64) (.pair (.int .i64) (.pair (.int .i64) (.pair (.int .i64) (.pair (.pair (.int .i64) (.int .i64)) (.pair (.pair (.int .i64) (.int .i64)) (.int .i64)))))))) (.sl (.pair (.pair (.int .i64) (.int .i64)) (.pair (.pair (.int .i64) (.int .i64)) .bool))))) (.pair (.sl (.pair (.sl (.pair (.int .i64) (.pair (.int .i64) (.pair (.int .i64) (.pair (.int .i64) (.pair (.pair (.int .i64) (.int .i64)) (.pair (.pair (.int .i64) (.int .i64)) (.int .i64)))))))) (.sl (.pair (.pair (.int .i64) (.int .i64)) (.pair (.pair (.int .i64) (.int .i64)) .bool))))) .bool))))) (.arr 4 (.arr 4 (.int .i64))))) (by kernel_rfl) h0
 have f0:v0=.agg v0.cells:=Gx.val_agg (hval 0 26 v0 rfl rfl) (.inl ⟨_,Tryz.underlying26⟩)
 obtain⟨x1,e1⟩:=Gx.open_arg (d:=12) (ty:=(.sl (.pair (.int .i64) (.pair (.sl (.int .i64)) (.pair (.int .i64) (.pair (.int .i64) (.pair (.arr 4 (.int .i64)) (.int .i64)))))))) (by kernel_rfl) h1
 obtain⟨c1,g1⟩:∃c,v1.cells.toList=[c]:=List.length_eq_one_iff.1 (Gx.rep_len e1)
 have f1:v1=c1:=Gx.val_of_cells (hval 1 27 v1 rfl rfl) (fun fs n e=>by rw[Tryz.underlying27];exact⟨by simp,by simp⟩) g1
 rw[g1] at e1
 obtain⟨x2,e2⟩:=Gx.open_arg (d:=12) (ty:=(.int .i64)) (by kernel_rfl) h2
 obtain⟨c2,g2⟩:∃c,v2.cells.toList=[c]:=List.length_eq_one_iff.1 (Gx.rep_len e2)
 have f2:v2=c2:=Gx.val_of_cells (hval 2 3 v2 rfl rfl) (fun fs n e=>by rw[Tryz.underlying3];exact⟨by simp,by simp⟩) g2
 rw[g2] at e2
 have call:Calls Tryz.prog 3 #[v0,v1,v2] W fun e w'=>e=.returned (.bool true)/\Below W.heap.size W w':=by
  rw[f0,f1,f2]
  refine(Gx.waitsBlockers W e0 e1 e2).calls.mono ?_
  rintro e w' ⟨v,rfl,rfl,hx⟩
  exact⟨rfl,hx.below⟩
 refine call.mono fun e W' ⟨he,hg⟩=>?_
 subst he
 have b2:∀sp:Nat->Bool,(∀x∈p2,sp x.block=true)->DataW.Trod enc Tryz.prog W' 0 sp true 3 v2 d2 p2:=fun sp hsp=>Gx.trod_keep (by kernel_rfl) (by kernel_rfl) (by decide+kernel) h2 hg (fun x hx=>hlt x (by simp[hx])) hsp
 have b1:∀sp:Nat->Bool,(∀x∈p1,sp x.block=true)->DataW.Trod enc Tryz.prog W' 0 sp true 27 v1 d1 p1:=fun sp hsp=>Gx.trod_keep (by kernel_rfl) (by kernel_rfl) (by decide+kernel) h1 hg (fun x hx=>hlt x (by simp[hx])) hsp
 have b0:∀sp:Nat->Bool,(∀x∈p0,sp x.block=true)->DataW.Trod enc Tryz.prog W' 0 sp true 26 v0 d0 p0:=fun sp hsp=>Gx.trod_keep (by kernel_rfl) (by kernel_rfl) (by decide+kernel) h0 hg (fun x hx=>hlt x (by simp[hx])) hsp
 exact⟨_,rfl,Gx.post_of_below (pa:=(p0++(p1++(p2++[])))) (pv:=[]) hW' hg (fun _ _ _=>(trodAll_cons_mk (shut_bool Tryz.underlying4 _) trodAll_mk0)) (fun sp hsp=>by rw[hpar];exact(trodAll_cons_mk (b0 sp fun x hx=>hsp x (by simp[hx])) (trodAll_cons_mk (b1 sp fun x hx=>hsp x (by simp[hx])) (trodAll_cons_mk (b2 sp fun x hx=>hsp x (by simp[hx])) trodAll_mk0)))) (fun _ _=>rfl) (by simp)
  (ok_one (by kernel_rfl) rfl (okWide_bool_mk Tryz.underlying4 _))⟩
set_option maxRecDepth 100000
theorem ft1:(laidOutB Tryz.checked.prog&&mapsRowed Tryz.checked.prog)=true:=by kernel_rfl
theorem ft2:(Rows.waitsBlockersRow.inPlace == Tryz.checked.prog.inPlace 3)=true:=by kernel_rfl
theorem ft3:(Rows.waitsBlockersRow.unfollowed == Tryz.checked.prog.unfollowed 3)=true:=by kernel_rfl
theorem ft4:(Rows.waitsBlockersRow.named == Tryz.checked.prog.varsNamed 3)=true:=by kernel_rfl
theorem ft6:((Tryz.checked.prog.stops == [])&&(Tryz.checked.prog.stopKnobs == []))=true:=by kernel_rfl
theorem ft7:(Rows.waitsBlockersRow.plainKeys == Tryz.checked.prog.plainKeys)=true:=by kernel_rfl
theorem ft8:Tryz.checked.prog.stopsHeard=true:=by kernel_rfl
theorem ft9:(Tryz.checked.prog.mayEnter&&((Rows.waitsBlockersRow.lifted == Tryz.checked.prog.liftsFinal)&&(Tryz.checked.prog.make == some Rows.waitsBlockersRow.make)))=true:=by kernel_rfl
theorem ft5:(Rows.waitsBlockersRow.recurses == Tryz.checked.prog.recurses 3)=true:=by
 have h:Tryz.checked.prog.unfollowed 3=true:=by have:=ft3;rw[beq_iff_eq] at this;exact this.symm
 unfold Program.recurses;rw[h];rfl
theorem facts:joinedFacts Tryz.checked.prog 3 Tryz.f3 Rows.waitsBlockersSpec Rows.waitsBlockersRow=true:=by
 obtain⟨h1,h2⟩:=Bool.and_eq_true_iff.1 ft1
 obtain⟨h3,h4⟩:=Bool.and_eq_true_iff.1 ft6
 obtain⟨h5,h6⟩:=Bool.and_eq_true_iff.1 ft9
 obtain⟨h7,h8⟩:=Bool.and_eq_true_iff.1 h6
 unfold joinedFacts
 rw[h1,h2,ft2,ft3,ft4,ft5,h3,h4,ft7,ft8,h5,h7,h8]
 kernel_rfl
theorem over:Rows.waitsBlockersRow.holds Tryz.pinned (OpenSpec.ofChange Rows.waitsBlockersSpec):=
 OpenClaim.holds_of_wide 3 Tryz.f3 rfl rfl rfl rfl rfl rfl rfl ⟨rfl,rfl,rfl,rfl,rfl⟩ rfl rfl rfl rfl rfl (by kernel_rfl) Tryz.func3 facts
  (of_decide_eq_true (by kernel_rfl)) (by unfold Func.isWrapper;first|(rw[if_pos (by decide+kernel)];kernel_rfl)|(rw[if_neg (by decide+kernel)];exact⟨rfl,rfl⟩))
  (fun os started H enc _=>lifted os started H enc)
theorem proved:Rows.WaitsBlockersSaid:=
 over
#print axioms proved
end Go.Proofs.YtlpgdngcgbeegaaGreat.waitsBlockers
