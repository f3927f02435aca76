/- Merged by pack.py: GxOI, GreA, GxOJ, RsgA, SrAI, GxSGA, SrAJ, RsgB, ArcC, RsgC, RsgD, RsgE, RsgF, RsgG, FairP, FairQ, AlvC, GxOM, AlvD, RsgH, GxOL, RefE, RefF, GxON, RefG, RefH, IntE, GxOP, RsgK, GxOQ, CloN, OrdN, RsgI, GxOR, WitA, WitB, WitC, WitD. -/
import Derived.Test.YtlpgdngcgbeegaaGreatWh1
import Derived.Test.YtlpgdngcgbeegaaGreatWh2
import Derived.Test.YtlpgdngcgbeegaaGreatWh3
import Derived.Test.YtlpgdngcgbeegaaGreatWh4
import Derived.Test.YtlpgdngcgbeegaaGreatWh5
namespace Go.Proofs.YtlpgdngcgbeegaaGreat.Gx
open Go
set_option linter.unusedVariables false
set_option maxRecDepth 100000
def F134j1(R:RV)(s14:Sl)(y16:Nat->Int->World->Prop)(b18:Nat)(n19:Int)(w20:World):Prop:=IfB (decide (n19<(s14.n:Int))) (Qx s14.1 n19 (s14.2:Int) fun b23 b24=>Qs w20 b23 (b24+n19.toNat*2+0) fun s25=>IfB (decide (40<(s25.n:Int))) (R (Value.bool true) w20) (Qx s14.1 n19 (s14.2:Int) fun b26 b27=>Qs w20 b26 (b27+n19.toNat*2+1) fun s28=>IfB (decide (40<(s28.n:Int))) (R (Value.bool true) w20) (Qn y16 b18 (IntKind.i64.wrap (n19+1)) w20))) (R (Value.bool false) w20)
theorem F134_ok(t0:ByteArray×Int×Sl×Sl×Bool)(w:World)(R:RV)(h:AllocP w (Obj.cells (lC49 t0).toArray 49) fun b1 w2=>∃z3:ByteArray,w2.cell? ⟨b1,0+0,none⟩=some (Value.string z3)/\IfB (decide (300<(z3.size:Int))) (R (Value.bool true) w2) (Qs w2 b1 (0+2) fun s4=>IfB (decide (20<(s4.n:Int))) (R (Value.bool true) w2) (Qs w2 b1 (0+3) fun s5=>IfB (decide (20<(s5.n:Int))) (R (Value.bool true) w2) (Qs w2.drew b1 (0+2) fun s6=>Qs w2.drew b1 (0+3) fun s7=>0*2<=16777216/\AllocP w2.drew (Obj.cells #[] 99) fun b8 w9=>w9.cell? ⟨b1,0+3,none⟩=some (Qy s7)/\w9.cell? ⟨b1,0+2,none⟩=some (Qy s6)/\∃(l10:List Value),ReadC w9 s6.1 (s6.2*2) l10/\AppendP tt99 99 w9 (some ⟨b8,0,none⟩) 0 0 s6.2 l10 fun s11 w12=>w12.cell? ⟨b1,0+3,none⟩=some (Qy s7)/\∃(l13:List Value),ReadC w12 s7.1 (s7.2*2) l13/\AppendP tt99 99 w12 s11.1 s11.2 s11.3 s7.2 l13 fun s14 w15=>Ql (α:=Int) 0 w15 fun y16 b18 n19 w20=>(F134j1 R s14 y16 b18 n19 w20))))):Cw 134 #[(.agg (lC49 t0).toArray)] w R:=
 ckF Tryz.func134 (nd (nd (.node (.draw (sts [1,2,4,5] (.ac 0 [5,4,2,1] (.ac 3 [5,4] (.ac 6 [] (.st 7 .fin) .non) .non) .non))) (.node (nd (.loop [(4,oi)] (rg [2,2,4,4,28,49]) .nil)) .nil)))) h (by kernel_rfl) (by kernel_rfl)
def F71j1(R:RV)(b1:Nat)(y3:Nat->Int->World->Prop)(b5:Nat)(n6:Int)(w7:World):Prop:=Qs w7 b1 (0+0) fun s10=>IfB (decide (n6<(s10.n:Int))) (Qs w7 b1 (0+0) fun s11=>Qx s11.1 n6 (s11.2:Int) fun b12 b13=>∃(x14:ByteArray×Int×Sl×Sl×Bool),CellsAt w7 b12 (b13+n6.toNat*5) (lC49 x14)/\Qv' 134 #[Value.agg (lC49 x14).toArray] w7 fun t17 w16=>IfB t17 (R (Value.bool true) w16) (Qn y3 b5 (IntKind.i64.wrap (n6+1)) w16)) (Qs w7 b1 (0+0) fun s19=>R (Value.bool (decide (12<(s19.n:Int)))) w7)
theorem F71_ok(t0:Sl×List Value)(w:World)(R:RV)(h:AllocP w (Obj.cells { toList:=Qy t0.fst::t0.2 } 26) fun b1 w2=>Ql (α:=Int) 0 w2 fun y3 b5 n6 w7=>(F71j1 R b1 y3 b5 n6 w7)):Cw 71 #[Value.agg { toList:=Qy t0.fst::t0.2 }] w R:=
 ckF Tryz.func71 (nd (.node (nd (.loop [(3,oi)] (rg [2,16]) .nil)) .nil)) h (by kernel_rfl) (by kernel_rfl)
def F82j1(t1:Sl)(R:RV)(b1:Nat)(y3:Nat->Int->World->Prop)(b5:Nat)(n6:Int)(w7:World):Prop:=IfB (decide (n6<(t1.n:Int))) (Qx t1.1 n6 (t1.2:Int) fun b10 b11=>Qs w7 b10 (b11+n6.toNat*6+4) fun s12=>IfB (decide (60<(s12.n:Int))) (R (Value.bool true) w7) (Qx t1.1 n6 (t1.2:Int) fun b13 b14=>Qs w7 b13 (b14+n6.toNat*6+5) fun s15=>IfB (decide (60<(s15.n:Int))) (R (Value.bool true) w7) (Qn y3 b5 (IntKind.i64.wrap (n6+1)) w7))) (∃(x17:Sl×List Value),CellsN w7 b1 0 17 (Qy x17.fst::x17.2)/\Qv' 71 #[Value.agg { toList:=Qy x17.fst::x17.2 }] w7 fun t22 w21=>IfB t22 (R (Value.bool true) w21) (R (Value.bool (decide (110<(t1.n:Int)))) w21))
theorem F82_ok(t0:Sl×List Value)(t1:Sl)(w:World)(R:RV)(h:AllocP w (Obj.cells { toList:=Qy t0.fst::t0.2 } 26) fun b1 w2=>Ql (α:=Int) 0 w2 fun y3 b5 n6 w7=>(F82j1 t1 R b1 y3 b5 n6 w7)):Cw 82 #[Value.agg { toList:=Qy t0.fst::t0.2 },Qy t1] w R:=
 ckF Tryz.func82 (nd (.node (nd (.loop [(5,oi)] (rg [4,27]) .nil)) .nil)) h (by kernel_rfl) (by kernel_rfl)
theorem F29_ok(t0:Sl×List Value)(t1:Sl)(w:World)(R:RV)(h:AllocP w (Obj.cells { toList:=Qy t0.fst::t0.2 } 26) fun b1 w2=>∃(x3:Sl×List Value),CellsN w2 b1 0 17 (Qy x3.fst::x3.2)/\Qv' 82 #[Value.agg { toList:=Qy x3.fst::x3.2 },Qy t1] w2 fun t8 w7=>IfB t8 (R (Value.bool true) w7) (Qv' 83 #[Qy t1] w7 fun t11 w10=>IfB t11 (R (Value.bool true) w10) (R (Value.bool (decide (24<(t1.n:Int)))) w10))):Cw 29 #[Value.agg { toList:=Qy t0.fst::t0.2 },Qy t1] w R:=
 ckF Tryz.func29 .nil h (by kernel_rfl) (by kernel_rfl)
set_option linter.unusedSimpArgs false
theorem stC_all(ss:List (Sl×Sl)):One (ss.flatMap stC):=by
 intro v hv
 obtain⟨x,_,hx⟩:=List.mem_flatMap.1 hv
 exact stC_one x v hx
theorem stC_flat(ss:List (Sl×Sl)):(ss.flatMap stC).length=ss.length*2:=flatLen stC_len ss
theorem c134{w:World}{v:ClsV}{x:ClsD}(h:ClsM w v x):Cw 134 #[clV v] w fun r w'=>∃b,r=.bool b/\Ext w w':=by
 refine F134_ok v w _ fun b1 w2 a2=>?_
 have e2:Ext w w2:=a2.ch _
 have q:=fun{W:World} (o:Nat) (e:Ext w2 W)=>boxAt (cs:=clsC v) a2.new o e
 have r2:=Ch.refl (fun _=>False) w2
 obtain⟨ss,hs1,hs2,hs3⟩:=h.st.list
 obtain⟨cs,hc1,hc2,hc3⟩:=h.co.list
 have hsn:=rdN stC_len (by omega) hs2
 have hcn:=rdN stC_len (by omega) hc2
 refine⟨_,q 0 r2,IfB.dec (fun _=>⟨true,rfl,e2⟩) fun _=>⟨_,q 2 r2,IfB.dec (fun _=>⟨true,rfl,e2⟩) fun g1=>⟨_,q 3 r2,IfB.dec (fun _=>⟨true,rfl,e2⟩) fun g2=>?_⟩⟩⟩
 have g1:¬(20:Int)<(v.2.2.1.n:Int):=g1
 have g2:¬(20:Int)<(v.2.2.2.1.n:Int):=g2
 have ed:=extDrew w2
 refine⟨_,q 2 ed,_,q 3 ed,by decide,fun b8 w9 a8=>?_⟩
 have e9:Ext w2 w9:=ed.trans (a8.ch _)
 have E9:Ext w w9:=e2.trans e9
 have p8:=a8.here;have z8:=a8.size;have z2:=a2.size;have p2:=a2.here
 have zd:w2.drew.heap.size=w2.heap.size:=rfl
 have r9:Rd w9 v.2.2.1 2 (ss.flatMap stC):=hs2.ext E9
 refine⟨q 3 e9,q 2 e9,_,r9.2,OwS.append (s:=⟨some ⟨b8,0,none⟩,0,0⟩) (cs:=[]) (new:=ss.flatMap stC) (sz:=2) (cnt:=v.2.2.1.n) (OwS.new (cs:=[]) (n:=0) a8 rfl) rfl rfl (by rw[stC_flat,hsn]) (stC_all ss) ⟨by dsimp only;omega,Nat.le_trans (Nat.mul_le_mul (show 2*(0+v.2.2.1.n)<=1000 by omega) (show _<=100000 by decide)) (by decide)⟩ fun s11 w12 ho hn hC hb _=>?_⟩
 have e12:Ext w2 w12:=e9.chN hC fun j hj=>by
  have:j=b8:=by simpa [blk] using hj
  omega
 have E12:Ext w w12:=e2.trans e12
 have r12:Rd w12 v.2.2.2.1 2 (cs.flatMap stC):=hc2.ext E12
 rw[List.nil_append] at ho
 dsimp only at hn
 refine⟨q 3 e12,_,r12.2,OwS.append (new:=cs.flatMap stC) (cnt:=v.2.2.2.1.n) ho rfl rfl (by rw[stC_flat,hcn]) (stC_all cs) ⟨by omega,Nat.le_trans (Nat.mul_le_mul (show 2*(s11.n+v.2.2.2.1.n)<=1000 by omega) (show _<=100000 by decide)) (by decide)⟩ fun s14 w15 ho' hn' hC' hb' _=>?_⟩
 have zz:=E9.size
 have e15:Ext w w15:=E12.chN hC' fun j hj=>by
  rcases hb j hj with h'|h'
  ·have:j=b8:=by simpa [blk] using h'
   have:=e2.size;omega
  ·omega
 rw[<-List.flatMap_append] at ho'
 have hl:=rdN stC_len (by omega) ho'.rd
 have hla:(ss++cs).length=ss.length+cs.length:=List.length_append
 refine⟨fun m z W=>∃i:Nat,i<=(ss++cs).length/\m+i=(ss++cs).length/\z=(i:Int)/\W=w15,⟨_,0,Nat.zero_le _,rfl,rfl,rfl⟩,?_⟩
 rintro m _ _ g ⟨i,hi,hm,rfl,rfl⟩
 unfold F134j1
 refine IfB.dec (fun hlt=>?_) fun _=>⟨false,rfl,e15⟩
 have hi':i<(ss++cs).length:=by omega
 have hx:(ss++cs)[i]? =some (ss++cs)[i]:=List.getElem?_eq_getElem hi'
 generalize (ss++cs)[i]=y at hx
 obtain⟨b,o,hp,hc⟩:=ho'.rd.elem (i:=i) (by omega) (by omega) (flatGet stC_len hx)
 exact⟨b,o,hp,⟨by omega,hlt⟩,y.1,by rw[Int.toNat_natCast];exact hc 0 _ rfl,IfB.dec (fun _=>⟨true,rfl,e15⟩) fun _=>⟨b,o,hp,⟨by omega,hlt⟩,y.2,by rw[Int.toNat_natCast];exact hc 1 _ rfl,IfB.dec (fun _=>⟨true,rfl,e15⟩) fun _=>⟨rfl,m-1,by omega,i+1,hi',by omega,by rw[wrap_of (by omega) (by omega)];rfl,rfl⟩⟩⟩
theorem c71{w:World}{v:CatV}{x:CatD}(h:CatM w v x):Cw 71 #[cxV v] w fun r w'=>∃b,r=.bool b/\Ext w w':=by
 have hn:=cat_cl h
 have hcap:=h.cl.cap
 have hml:=maxLen_le
 refine F71_ok v w _ fun b1 w2 a2=>?_
 have e2:Ext w w2:=a2.ch _
 have q:=fun{W:World} (e:Ext w2 W)=>boxAt (cs:=cxC v) a2.new 0 e
 refine⟨fun m z W=>∃i:Nat,i<=x.1.length/\m+i=x.1.length/\z=(i:Int)/\Ext w2 W,⟨_,0,Nat.zero_le _,rfl,rfl,Ch.refl _ _⟩,?_⟩
 rintro m _ W g ⟨i,hi,hm,rfl,e⟩
 unfold F71j1
 refine⟨_,q e,IfB.dec (fun hlt=>?_) fun _=>⟨_,q e,_,rfl,e2.trans e⟩⟩
 have hlt:(i:Int)<(v.1.n:Int):=hlt
 have hi':i<x.1.length:=by omega
 have hx:x.1[i]? =some x.1[i]:=List.getElem?_eq_getElem hi'
 generalize x.1[i]=y at hx
 obtain⟨b,o,cv,hp,hc,hM⟩:=ClsR.at (SlR.ext h.cl (e2.trans e)) hx
 refine⟨_,q e,b,o,hp,⟨by omega,hlt⟩,cv,by rw[Int.toNat_natCast];exact hc,(c134 hM).use ?_⟩
 rintro _ w16 ⟨r,rfl,e16⟩
 exact⟨r,rfl,IfB.intro (fun _=>⟨true,rfl,(e2.trans e).trans e16⟩) fun _=>⟨rfl,m-1,by omega,i+1,hi',by omega,by rw[wrap_of (by omega) (by omega)];rfl,e.trans e16⟩⟩
theorem c82{w:World}{v:CatV}{x:CatD}{t:Sl}{hs:List Nd}(h:CatM w v x)(hH:HIn w t hs):
  Cw 82 #[cxV v,slV t] w fun r w'=>∃b,r=.bool b/\(b=false->hs.length<=110/\∀n∈hs,n.rs.length<=60/\n.ws.length<=60)/\Ext w w':=by
 have hn:=hH.n
 have hml:=maxLen_le
 have hlen:=hH.len
 refine F82_ok v t w _ fun b1 w2 a2=>?_
 have e2:Ext w w2:=a2.ch _
 refine⟨fun m z W=>∃i:Nat,i<=hs.length/\m+i=hs.length/\z=(i:Int)/\(∀n∈hs.take i,n.rs.length<=60/\n.ws.length<=60)/\Ext w2 W,⟨_,0,Nat.zero_le _,rfl,rfl,by simp,Ch.refl _ _⟩,?_⟩
 rintro m _ W g ⟨i,hi,hm,rfl,ha,e⟩
 have yes:∀ {V:World},Ext w V->∃b,Value.bool true=.bool b/\(b=false->hs.length<=110/\∀n∈hs,n.rs.length<=60/\n.ws.length<=60)/\Ext w V:=fun e=>⟨true,rfl,fun h=>(by cases h),e⟩
 unfold F82j1
 refine IfB.dec (fun hlt=>?_) fun hge=>?_
 ·have hi':i<hs.length:=by omega
  have hx:hs[i]? =some hs[i]:=List.getElem?_eq_getElem hi'
  have hxm:hs[i]∈hs:=List.getElem_mem hi'
  have htk:=take_succ_get hx
  generalize hs[i]=y at hx hxm htk
  obtain⟨b,o,hp,hc⟩:=(hH.ext (e2.trans e)).rd.elem (i:=i) (by omega) (by omega) (flatGet nL_len hx)
  obtain⟨hr,hw⟩:=(hH.nd y hxm).rn
  refine⟨b,o,hp,⟨by omega,hlt⟩,y.v.2.2.2.2.1,by rw[Int.toNat_natCast];exact hc 4 _ rfl,IfB.dec (fun _=>yes (e2.trans e)) fun g1=>⟨b,o,hp,⟨by omega,hlt⟩,y.v.2.2.2.2.2,by rw[Int.toNat_natCast];exact hc 5 _ rfl,IfB.dec (fun _=>yes (e2.trans e)) fun g2=>⟨rfl,m-1,by omega,i+1,hi',by omega,by rw[wrap_of (by omega) (by omega)];rfl,?_,e⟩⟩⟩
  rw[htk];intro z hz
  rcases List.mem_append.1 hz with hz|hz
  ·exact ha z hz
  ·rw[List.mem_singleton.1 hz]
   have g1:¬(60:Int)<(y.v.2.2.2.2.1.n:Int):=g1
   have g2:¬(60:Int)<(y.v.2.2.2.2.2.n:Int):=g2
   omega
 ·have hi':i=hs.length:=by omega
  subst hi'
  rw[List.take_length] at ha
  refine⟨v,cxN h a2.new e,(c71 (h.ext (e2.trans e))).use ?_⟩
  rintro _ w21 ⟨r,rfl,e21⟩
  refine⟨r,rfl,IfB.intro (fun _=>yes ((e2.trans e).trans e21)) fun _=>⟨_,rfl,fun hf=>⟨?_,ha⟩,(e2.trans e).trans e21⟩⟩
  rw[decide_eq_false_iff_not] at hf
  omega
theorem c29{w:World}{v:CatV}{x:CatD}{t:Sl}{hs:List Nd}(h:CatM w v x)(hH:HIn w t hs):
  Cw 29 #[cxV v,slV t] w fun r w'=>∃b,r=.bool b/\(b=false->Hst w' t hs/\hs.length<=24)/\Ext w w':=by
 have hn:=hH.n
 have hml:=maxLen_le
 refine F29_ok v t w _ fun b1 w2 a2=>?_
 have e2:Ext w w2:=a2.ch _
 have yes:∀ {V:World},Ext w V->∃b,Value.bool true=.bool b/\(b=false->Hst V t hs/\hs.length<=24)/\Ext w V:=fun e=>⟨true,rfl,fun h=>(by cases h),e⟩
 refine⟨v,cxN h a2.new (Ch.refl _ _),(c82 (h.ext e2) (hH.ext e2)).use ?_⟩
 rintro _ w7 ⟨r,rfl,hr,e7⟩
 have e27:=e2.trans e7
 have h7:=hH.ext e27
 refine⟨r,rfl,IfB.intro (fun _=>yes e27) fun g1=>(c83 h7.rd (fun n hn=>(h7.nd n hn).rn) (Nat.le_trans hH.len hml)).use ?_⟩
 rintro _ _ ⟨r2,rfl,hr2,rfl⟩
 refine⟨r2,rfl,IfB.intro (fun _=>yes e27) fun g2=>⟨_,rfl,fun hf=>⟨h7.hst fun h'=>?_,?_⟩,e27⟩⟩
 ·rw[hr2.2 h'] at g2;cases g2
 ·rw[decide_eq_false_iff_not] at hf
  omega
theorem own_class{x:CatD}{hs:List Nd}(h:HMay x hs)(s:Int):∀i,i<=hs.length->match lastOwn hs i s with
  | none=>∀k b,k<i->hs[k]? =some b->b.v.1≠s
  | some m=>∀k b,k<i->hs[k]? =some b->b.v.1=s->b.v.2.1=m.v.2.1:=by
 intro i
 induction i with
 | zero=>
  intro _
  have:lastOwn hs 0 s=none:=by unfold lastOwn ownL;simp
  rw[this]
  exact fun k b hk=>absurd hk (Nat.not_lt_zero _)
 | succ i ih=>
  intro hi
  have ih:=ih (by omega)
  have hx:hs[i]? =some hs[i]:=List.getElem?_eq_getElem (by omega)
  generalize hs[i]=y at hx
  have hnx:=(h.ok i y hx).nx
  rw[lastOwn_succ hx]
  by_cases hys:y.v.1=s
  ·rw[if_pos hys]
   intro k b hk hb hbs
   rcases Nat.lt_or_ge k i with h'|h'
   ·rw[hys] at hnx
    cases hl:lastOwn hs i s with
    | none=>rw[hl] at ih;exact absurd hbs (ih k b h' hb)
    | some m=>
     rw[hl] at ih hnx
     exact(ih k b h' hb hbs).trans hnx.1.symm
   ·have:k=i:=by omega
    subst this
    rw[hx] at hb;cases hb;rfl
  ·rw[if_neg hys]
   have old:∀k b,k<i+1->hs[k]? =some b->b.v.1=s->k<i:=fun k b hk hb hbs=>by
    rcases Nat.lt_or_ge k i with h'|h'
    ·exact h'
    ·have:k=i:=by omega
     subst this
     rw[hx] at hb;cases hb;exact absurd hbs hys
   cases hl:lastOwn hs i s with
   | none=>
    rw[hl] at ih
    intro k b hk hb hbs
    exact ih k b (old k b hk hb hbs) hb hbs
   | some m=>
    rw[hl] at ih
    intro k b hk hb hbs
    exact ih k b (old k b hk hb hbs) hb hbs
theorem HMay.cls{x:CatD}{hs:List Nd}(h:HMay x hs){i k:Nat}{a b:Nd}(ha:hs[i]? =some a)(hb:hs[k]? =some b)(he:a.v.1=b.v.1):a.v.2.1=b.v.2.1:=by
 have hia:=(List.getElem?_eq_some_iff.1 ha).1
 have hkb:=(List.getElem?_eq_some_iff.1 hb).1
 have:=own_class h b.v.1 hs.length (Nat.le_refl _)
 cases hl:lastOwn hs hs.length b.v.1 with
 | none=>rw[hl] at this;exact absurd rfl (this k b hkb hb)
 | some m=>rw[hl] at this;exact(this i a hia ha he).trans (this k b hkb hb rfl).symm
def FstP(x:CatD)(hs:List Nd)(i:Nat)(d:Int)(f:Nat):Prop:=InP x hs i f d/\∀k,InP x hs i k d->f<=k
def LstP(x:CatD)(hs:List Nd)(i:Nat)(d:Int)(l:Nat):Prop:=InP x hs i l d/\∀k,InP x hs i k d->k<=l
theorem InP.lt{x:CatD}{hs:List Nd}{i k:Nat}{d:Int}(h:InP x hs i k d)(hi:i<hs.length):k<hs.length:=by
 rcases h with rfl|⟨_,b,_,hb,_⟩
 ·exact hi
 ·exact(List.getElem?_eq_some_iff.1 hb).1
theorem uN_of{x:CatD}{c d:Int}(hc:0<=c)(hd:0<=d)(k:Nat):uN x c d k=unitN x c.toNat d.toNat k:=by unfold uN;rw[if_pos ⟨hc,hd⟩]
end Go.Proofs.YtlpgdngcgbeegaaGreat.Gx
namespace Go.Proofs.YtlpgdngcgbeegaaGreat.Gx.SfA
open Go Go.Proofs.YtlpgdngcgbeegaaGreat.Gx
abbrev El:=Int×Int×Int
def key(x:El):Int:=x.1*1000000+x.2.1*1000+x.2.2
def Q(x:El):Prop:=(0<=x.1/\x.1<=999)/\(0<=x.2.1/\x.2.1<=999)/\0<=x.2.2/\x.2.2<=999
@[reducible] def ins:SrtC El:=⟨fun i=>[88,155,204,205,206,207,208,209,210,211,242,245,246,278].getD i 0,fun x=>[.int .i64 x.1,.int .i64 x.2.1,.int .i64 x.2.2],3,(0,0,0),key,Q⟩
set_option linter.unusedVariables false
set_option maxRecDepth 100000
theorem k1(t0:Sl)(t1:Int)(t2:Int)(t3:Int)(t4:Nat×Array Value)(w:World)(R:RV)(h: @G1 El ins t0 t1 t2 t3 t4 w R):Cw 155 #[Value.slice t0.1 t0.2 t0.3,Value.int IntKind.i64 t1,Value.int IntKind.i64 t2,Value.int IntKind.i64 t3,Value.func (Fn.func t4.1) #[] t4.2] w R:=
 call_of tbOk mixed en155 Tryz.func155 rfl (nd (nd (.loop [(1,oi),(2,oi),(3,oi),(10,ob),(11,ob)] (rg [1,3,10,147]) (nd (nd (nd (.join [(3,oi)] (rg [3,3,38,46]) .nil (nd (.join [(13,oi),(14,oi)] (rg [13,14,55,67]) .nil (.join [] (rg [68,80]) .nil (.node (.node (.draw (sts [0,1,2,3,4,5,6,7,8,9,10,11,12] (.ac 13 [] (sts [14,15,16] .fin) .non))) .nil) .nil))))))))))) (by kernel_rfl) (Nat.le_of_ble_eq_true (by kernel_rfl)) (Eq.mp (α:= @G1 El ins t0 t1 t2 t3 t4 w R) (by kernel_rfl) h)
theorem k2(t0:Sl)(t1:Int)(t2:Int)(t3:Nat×Array Value)(w:World)(R:RV)(h: @G2 El ins t0 t1 t2 t3 w R):Cw 204 #[Value.slice t0.1 t0.2 t0.3,Value.int IntKind.i64 t1,Value.int IntKind.i64 t2,Value.func (Fn.func t3.1) #[] t3.2] w R:=
 call_of tbOk mixed en204 Tryz.func204 rfl (nd (.loop [(8,oi)] (rg [8,9,12,52]) (nd (.node (nd (.loop [(9,oi)] (rg [9,9,18,52]) (.node (.node (.draw (sts [0,1,2,3,4,5,6,7,8,9,10,11,12,13] (.ac 14 [] (sts [15,16] .fin) .non))) .nil) (.node (.draw (sts [0,1,2,3,4,5,6,7,8,9,10,11,12,13,14] (.ac 15 [4,3,2] (.st 16 (.ac 17 [] .fin .non)) .non))) .nil)))) .nil)))) (by kernel_rfl) (Nat.le_of_ble_eq_true (by kernel_rfl)) (Eq.mp (α:= @G2 El ins t0 t1 t2 t3 w R) (by kernel_rfl) h)
theorem k3(t0:Sl)(t1:Int)(t2:Int)(t3:Nat×Array Value)(w:World)(R:RV)(h: @G3 El ins t0 t1 t2 t3 w R):Cw 205 #[Value.slice t0.1 t0.2 t0.3,Value.int IntKind.i64 t1,Value.int IntKind.i64 t2,Value.func (Fn.func t3.1) #[] t3.2] w R:=
 call_of tbOk mixed en205 Tryz.func205 rfl (nd (nd (nd (.node (nd (.loop [(11,oi)] (rg [11,11,20,29]) .nil)) (nd (.loop [(12,oi)] (rg [12,12,32,59]) (nd (.node (.node (.draw (sts [0,1,2,3,4,5,6,7,8,9,10,11,12,13,14,15,16] (.ac 17 [5,4,3,2] (.st 18 (.ac 19 [] .fin .non)) .non))) .nil) .nil)))))))) (by kernel_rfl) (Nat.le_of_ble_eq_true (by kernel_rfl)) (Eq.mp (α:= @G3 El ins t0 t1 t2 t3 w R) (by kernel_rfl) h)
theorem k4(t0:Sl)(t1:Int)(t2:Int)(t3:Nat×Array Value)(w:World)(R:RV)(h: @G4 El ins t0 t1 t2 t3 w R):Cw 206 #[Value.slice t0.1 t0.2 t0.3,Value.int IntKind.i64 t1,Value.int IntKind.i64 t2,Value.func (Fn.func t3.1) #[] t3.2] w R:=
 call_of tbOk mixed en206 Tryz.func206 rfl (nd (nd (.node (nd (nd (nd (.loop [(11,oi)] (rg [11,12,28,66]) (nd (.node (nd (.join [(12,oi)] (rg [12,12,43,48]) .nil (.draw (sts [0,1,2,3,4,5,6,7,8,9,10,11,12,13,14,15,16] (.ac 17 [5,4,3,2] (.st 18 (.ac 19 [] .fin .non)) .non))))) .nil)))))) .nil))) (by kernel_rfl) (Nat.le_of_ble_eq_true (by kernel_rfl)) (Eq.mp (α:= @G4 El ins t0 t1 t2 t3 w R) (by kernel_rfl) h)
end Go.Proofs.YtlpgdngcgbeegaaGreat.Gx.SfA
namespace Go.Proofs.YtlpgdngcgbeegaaGreat.Gx
open Go
set_option linter.unusedSimpArgs false
set_option linter.unusedVariables false
abbrev ArcD:=Int×Int×Int
abbrev aC(x:ArcD):List Value:=[.int .i64 x.1,.int .i64 x.2.1,.int .i64 x.2.2]
theorem aC_len(x:ArcD):(aC x).length=3:=rfl
theorem aC_one(x:ArcD):One (aC x):=by intro v hv;simp at hv;rcases hv with rfl|rfl|rfl<;>rfl
def BtwP(x:CatD)(hs:List Nd)(a b:Nat)(xs:List ArcD):Prop:=∃na nb l f,hs[a]? =some na/\hs[b]? =some nb/\LstP x hs a nb.v.2.1 l/\FstP x hs b na.v.2.1 f/\xs=[((a:Int),(b:Int),2),((l:Int),(b:Int),3),((a:Int),(f:Int),4)]
def OwnA(hs:List Nd)(i:Nat)(xs:List ArcD):Prop:=∃n,hs[i]? =some n/\((xs=[]/\∀k m,k<i->hs[k]? =some m->m.v.1≠n.v.1)\/∃k m,k<i/\hs[k]? =some m/\m.v.1=n.v.1/\xs=[((k:Int),(i:Int),1)]/\∀j m,k<j->j<i->hs[j]? =some m->m.v.1≠n.v.1)
section
variable {α:Type} [DecidableEq α]
end
theorem OwnA.uniq{hs:List Nd}{i:Nat}{xs ys:List ArcD}(h:OwnA hs i xs)(k:OwnA hs i ys):xs=ys:=by
 obtain⟨n,hn,h⟩:=h
 obtain⟨n',hn',k⟩:=k
 rw[hn] at hn';cases hn'
 rcases h with ⟨rfl,h⟩|⟨a,ma,a1,a2,a3,rfl,a4⟩<;>rcases k with ⟨rfl,k⟩|⟨b,mb,b1,b2,b3,rfl,b4⟩
 ·rfl
 ·exact absurd b3 (h b mb b1 b2)
 ·exact absurd a3 (k a ma a1 a2)
 ·have:a=b:=by
   rcases Nat.lt_trichotomy a b with h'|h'|h'
   ·exact absurd b3 (a4 b mb h' b1 b2)
   ·exact h'
   ·exact absurd a3 (b4 a ma h' a1 a2)
  rw[this]
theorem FstP.uniq{x:CatD}{hs:List Nd}{i:Nat}{d:Int}{f f':Nat}(h:FstP x hs i d f)(k:FstP x hs i d f'):f=f':=by
 have:=h.2 _ k.1;have:=k.2 _ h.1;omega
theorem LstP.uniq{x:CatD}{hs:List Nd}{i:Nat}{d:Int}{f f':Nat}(h:LstP x hs i d f)(k:LstP x hs i d f'):f=f':=by
 have:=h.2 _ k.1;have:=k.2 _ h.1;omega
theorem BtwP.uniq{x:CatD}{hs:List Nd}{a b:Nat}{xs ys:List ArcD}(h:BtwP x hs a b xs)(k:BtwP x hs a b ys):xs=ys:=by
 obtain⟨na,nb,l,f,h1,h2,h3,h4,rfl⟩:=h
 obtain⟨na',nb',l',f',k1,k2,k3,k4,rfl⟩:=k
 rw[h1] at k1;rw[h2] at k2;cases k1;cases k2
 rw[h3.uniq k3,h4.uniq k4]
def TwoP(hs:List Nd)(i k:Nat):Prop:=∃a b,hs[i]? =some a/\hs[k]? =some b/\b.v.1≠a.v.1
def ArcI(x:CatD)(hs:List Nd)(i:Nat)(e:ArcD):Prop:=(∃xs,OwnA hs i xs/\e∈xs)\/∃k xs,Dp hs i k/\TwoP hs i k/\BtwP x hs k i xs/\e∈xs
def ArcIn(x:CatD)(hs:List Nd)(e:ArcD):Prop:=∃i,i<hs.length/\ArcI x hs i e
structure ArcsP(x:CatD)(hs:List Nd)(ys:List ArcD):Prop where
 srt:ys.Pairwise fun a b=>SfA.key a<SfA.key b
 mem:HMay x hs->∀e,e∈ys↔ArcIn x hs e
 no:¬HMay x hs->ys=[]
theorem ArcIn.q{x:CatD}{hs:List Nd}{e:ArcD}(h:ArcIn x hs e):(0<=e.1/\e.1<(hs.length:Int))/\(0<=e.2.1/\e.2.1<(hs.length:Int))/\1<=e.2.2/\e.2.2<=4:=by
 obtain⟨i,hi,⟨xs,⟨n,hn,h⟩,he⟩|⟨k,xs,hd,_,⟨na,nb,l,f,h1,h2,h3,h4,rfl⟩,he⟩⟩:=h
 ·rcases h with ⟨rfl,_⟩|⟨k,m,k1,k2,k3,rfl,_⟩
  ·cases he
  ·rw[List.mem_singleton.1 he]
   exact⟨⟨by dsimp only;omega,by dsimp only;omega⟩,⟨by dsimp only;omega,by dsimp only;omega⟩,by dsimp only;omega,by dsimp only;omega⟩
 ·have hk:=Dp_lt hd
  have hl:=h3.1.lt (by omega)
  have hf:=h4.1.lt hi
  simp only[List.mem_cons,List.not_mem_nil,or_false] at he
  rcases he with rfl|rfl|rfl<;>exact⟨⟨by dsimp only;omega,by dsimp only;omega⟩,⟨by dsimp only;omega,by dsimp only;omega⟩,by dsimp only;omega,by dsimp only;omega⟩
theorem ArcIn.Q{x:CatD}{hs:List Nd}{e:ArcD}(h:ArcIn x hs e)(hl:hs.length<=100):SfA.Q e:=by
 obtain⟨h1,h2,h3⟩:=h.q
 exact⟨⟨by omega,by omega⟩,⟨by omega,by omega⟩,by omega,by omega⟩
theorem arcKey_inj{a b:ArcD}(ha:SfA.Q a)(hb:SfA.Q b)(h:SfA.key a=SfA.key b):a=b:=by
 obtain⟨a1,a2,a3⟩:=a
 obtain⟨b1,b2,b3⟩:=b
 obtain⟨h1,h2,h3⟩:=ha
 obtain⟨g1,g2,g3⟩:=hb
 unfold SfA.key at h
 dsimp only at*
 have e1:a1=b1:=by omega
 have e2:a2=b2:=by omega
 have e3:a3=b3:=by omega
 rw[e1,e2,e3]
def FnB(W:World)(b n:Nat)(f:Nat->Value):Prop:=∃T,W.heap[b]? =some (.cells ((List.range n).map f).toArray T (0,0))
theorem FnB.ext{W W':World}{b n:Nat}{f:Nat->Value}(h:FnB W b n f)(e:Ext W W'):FnB W' b n f:=h.elim fun T hT=>⟨T,e.at hT⟩
theorem FnB.get{W:World}{b n:Nat}{f:Nat->Value}(h:FnB W b n f){j o:Nat}(hj:j<n)(ho:o=j):W.cell? ⟨b,o,none⟩=some (f j):=by
 subst ho
 obtain⟨T,hT⟩:=h
 rw[cell_of hT,List.getElem?_toArray,List.getElem?_map,List.getElem?_range hj];rfl
theorem FnB.put{W:World}{b n:Nat}{f:Nat->Value}(h:FnB W b n f){j o:Nat}(hj:j<n)(ho:o=j){v:Value}(h1:v.oneCell'=true){K:World->Prop}(hK:∀W',FnB W' b n (fun k=>if k=j then v else f k)->Ch (fun i=>i=b) W W'->K W'):StoreP W b o [v] K:=by
 subst ho
 obtain⟨T,hT⟩:=h
 refine store_one hT (by simpa using hj) h1 fun W' u=>hK W' ⟨T,?_⟩ u.ch
 have e:(((List.range n).map f).toArray.setIfInBounds o v)=((List.range n).map fun k=>if k=o then v else f k).toArray:=by
  rw[List.setIfInBounds_toArray]
  congr 1
  apply List.ext_getElem?
  intro k
  rw[List.getElem?_set,List.getElem?_map,List.getElem?_map,List.length_map,List.length_range]
  by_cases hk:k<n
  ·rw[List.getElem?_range hk]
   by_cases e:o=k
   ·subst e;simp[hk]
   ·rw[if_neg e,Option.map_some,Option.map_some,if_neg fun h=>e h.symm]
  ·rw[List.getElem?_eq_none (by simpa using hk)]
   by_cases e:o=k
   ·omega
   ·simp[e]
 rw[<-e];exact u.new
theorem FnB.new{w w':World}{b n:Nat}{T:TypeId}{v:Value}(a:IsAlloc w (.cells { toList:=zc #[v] n } T (0,0)) b w'):FnB w' b n fun _=>v:=by
 refine⟨T,?_⟩
 have e:zc #[v] n=(List.range n).map fun _=>v:=by
  rw[zc_all (v:=v) (by intro x hx;simpa using hx)]
  simp[List.map_const']
 have:=a.new
 rw[e] at this;exact this
theorem FnB.congr{W:World}{b n:Nat}{f g:Nat->Value}(h:FnB W b n f)(e:∀j,j<n->f j=g j):FnB W b n g:=by
 obtain⟨T,hT⟩:=h
 refine⟨T,?_⟩
 rw[hT,List.map_congr_left fun j hj=>e j (List.mem_range.1 hj)]
def holdB(out:List Nat)(j:Nat)(e:ArcD):Bool:=e.2.1 == (j:Int) && !(out.any fun k=>e.1 == (k:Int))
def holds(arcs:List ArcD)(out:List Nat)(j:Nat):Nat:=arcs.countP (holdB out j)
inductive TRun(arcs:List ArcD)(n:Nat):List Nat->Prop
 | nil:TRun arcs n []
 | snoc {out:List Nat} {i:Nat}:TRun arcs n out->i<n->i∉out->holds arcs out i=0->(∀j,j<i->j∈out\/0<holds arcs out j)->TRun arcs n (out++[i])
structure ToldP(arcs:List ArcD)(n:Nat)(out:List Nat):Prop where
 run:TRun arcs n out
 all:∀j,j<n->j∈out\/0<holds arcs out j
theorem TRun.nodup{arcs:List ArcD}{n:Nat}{out:List Nat}(h:TRun arcs n out):out.Nodup/\∀i∈out,i<n:=by
 induction h with
 | nil=>simp
 | snoc h hi hn _ _ ih=>
  refine⟨List.nodup_append.2 ⟨ih.1,by simp,fun a ha b hb=>?_⟩,fun j hj=>?_⟩
  ·rw[List.mem_singleton.1 hb];exact fun e=>hn (e ▸ ha)
  ·rcases List.mem_append.1 hj with hj|hj
   ·exact ih.2 j hj
   ·rw[List.mem_singleton.1 hj];exact hi
theorem TRun.len{arcs:List ArcD}{n:Nat}{out:List Nat}(h:TRun arcs n out):out.length<=n:=by
 have:=nodup_le (a:=out) (b:=List.range n) h.nodup.1 fun i hi=>List.mem_range.2 (h.nodup.2 i hi)
 simpa using this
theorem TRun.at{arcs:List ArcD}{n:Nat}{L:List Nat}(h:TRun arcs n L):∀ {p q:List Nat}{a:Nat},L=p++a::q->a<n/\a∉p/\holds arcs p a=0/\∀j,j<a->j∈p\/0<holds arcs p j:=by
 induction h with
 | nil=>intro p q a h;simp at h
 | @snoc out i h1 h2 h3 h4 h5 ih=>
  intro p q a h
  rcases List.eq_nil_or_concat q with rfl|⟨q',z,rfl⟩
  ·obtain⟨e1,e2⟩:=List.append_inj' h rfl
   cases e2;subst e1
   exact⟨h2,h3,h4,h5⟩
  ·have:out++[i]=(p++a::q')++[z]:=by rw[h];simp
   exact ih (List.append_inj' this rfl).1
theorem least{P:Nat->Prop}:∀ {n k:Nat},k<=n->P k->∃f,P f/\∀j,P j->f<=j:=by
 intro n
 induction n with
 | zero=>intro k hk h;exact⟨k,h,fun j _=>by omega⟩
 | succ n ih=>
  intro k hk h
  by_cases hx:∃j,j<=n/\P j
  ·obtain⟨j,hj,hp⟩:=hx;exact ih hj hp
  ·refine⟨k,h,fun j hj=>?_⟩
   rcases Nat.lt_or_ge j k with h'|h'
   ·exact absurd ⟨j,by omega,hj⟩ hx
   ·exact h'
theorem greatest{P:Nat->Prop}{n k:Nat}(h:P k)(hb:∀j,P j->j<n):∃l,P l/\∀j,P j->j<=l:=by
 obtain⟨m,⟨j,hj,hm⟩,hmin⟩:=least (P:=fun m=>∃j,P j/\m+j=n) (n:=n) (k:=n-k) (by omega) ⟨k,h,by have:=hb k h;omega⟩
 refine⟨j,hj,fun i hi=>?_⟩
 have h1:=hb i hi
 have h2:=hmin (n-i) ⟨i,hi,by omega⟩
 omega
theorem get_lt{α:Type}{l:List α}{i:Nat}{a:α}(h:l[i]? =some a):i<l.length:=(List.getElem?_eq_some_iff.1 h).1
theorem InP.sym{x:CatD}{hs:List Nd}(hM:HMay x hs){i k:Nat}{d:Int}(h:InP x hs i k d):InP x hs k i d:=by
 rcases h with rfl|⟨a,b,ha,hb,h1,h2,h3,h4⟩
 ·exact .inl rfl
 ·exact .inr ⟨b,a,hb,ha,h1.symm,h3,h2,by rw[hM.cls hb ha h1.symm];exact h4.symm⟩
theorem InP.tr{x:CatD}{hs:List Nd}(hM:HMay x hs){i j k:Nat}{d:Int}(h:InP x hs i j d)(g:InP x hs j k d):InP x hs i k d:=by
 rcases h with rfl|⟨a,b,ha,hb,h1,h2,h3,h4⟩
 ·exact g
 ·rcases g with rfl|⟨b',c,hb',hc,g1,g2,g3,g4⟩
  ·exact .inr ⟨a,b,ha,hb,h1,h2,h3,h4⟩
  ·rw[hb] at hb';cases hb'
   exact .inr ⟨a,c,ha,hc,h1.trans g1,h2,g3,h4.trans (by rw[hM.cls ha hb h1];exact g4)⟩
theorem InP.saga{x:CatD}{hs:List Nd}{i k:Nat}{d:Int}{a:Nd}(h:InP x hs i k d)(ha:hs[i]? =some a):∃b,hs[k]? =some b/\b.v.1=a.v.1:=by
 rcases h with rfl|⟨a',b,ha',hb,h1,_⟩
 ·exact⟨a,ha,rfl⟩
 ·rw[ha] at ha';cases ha';exact⟨b,hb,h1.symm⟩
theorem LstP.ex{x:CatD}{hs:List Nd}{i:Nat}(hi:i<hs.length)(d:Int):∃l,LstP x hs i d l:=greatest (P:=fun k=>InP x hs i k d) (.inl rfl) fun _ h=>h.lt hi
theorem FstP.ex{x:CatD}{hs:List Nd}{i:Nat}(hi:i<hs.length)(d:Int):∃l,FstP x hs i d l:=least (P:=fun k=>InP x hs i k d) (Nat.le_refl i) (.inl rfl)
def ArcE(x:CatD)(hs:List Nd)(a b:Nat):Prop:=∃c:Int,ArcIn x hs ((a:Int),(b:Int),c)
theorem arc_own{x:CatD}{hs:List Nd}:∀ {n i k:Nat}{m nd:Nd},i<=n->hs[k]? =some m->hs[i]? =some nd->m.v.1=nd.v.1->k<i->TC (ArcE x hs) k i:=by
 intro n
 induction n with
 | zero=>intro i k m nd h1 h2 h3 h4 h5;omega
 | succ n ih=>
  intro i k m nd h1 h2 h3 h4 h5
  obtain⟨j,⟨hj,nj,hnj,hsj⟩,hmax⟩:=greatest (P:=fun j=>j<i/\∃nj,hs[j]? =some nj/\nj.v.1=nd.v.1) (n:=i) (k:=k) ⟨h5,m,h2,h4⟩ fun j h=>h.1
  have harc:ArcE x hs j i:=⟨1,i,get_lt h3,.inl ⟨_,⟨nd,h3,.inr ⟨j,nj,hj,hnj,hsj,rfl,fun q mq g1 g2 g3 g4=>by have:=hmax q ⟨g2,mq,g3,g4⟩;omega⟩⟩,by simp⟩⟩
  have hkj:=hmax k ⟨h5,m,h2,h4⟩
  rcases Nat.lt_or_ge k j with h|h
  ·exact(ih (by omega) h2 hnj (h4.trans hsj.symm) h).more harc
  ·have:k=j:=by omega
   subst this;exact .one harc
theorem arc_btw{x:CatD}{hs:List Nd}{i k l f:Nat}{ni nk:Nd}(hd:Dp hs i k)(hi:hs[i]? =some ni)(hk:hs[k]? =some nk)(hne:nk.v.1≠ni.v.1)(hl:LstP x hs k ni.v.2.1 l)(hf:FstP x hs i nk.v.2.1 f):ArcE x hs k i/\ArcE x hs l i/\ArcE x hs k f:=by
 have h0:BtwP x hs k i [((k:Int),(i:Int),2),((l:Int),(i:Int),3),((k:Int),(f:Int),4)]:=⟨nk,ni,l,f,hk,hi,hl,hf,rfl⟩
 have h1:∀e,e∈[((k:Int),(i:Int),(2:Int)),((l:Int),(i:Int),3),((k:Int),(f:Int),4)]->ArcIn x hs e:=fun e he=>⟨i,get_lt hi,.inr ⟨k,_,hd,⟨ni,nk,hi,hk,hne⟩,h0,he⟩⟩
 exact⟨⟨2,h1 _ (by simp)⟩,⟨3,h1 _ (by simp)⟩,⟨4,h1 _ (by simp)⟩⟩
theorem arc_inv{x:CatD}{hs:List Nd}{a b:Nat}(h:ArcE x hs a b):(∃m n,a<b/\hs[a]? =some m/\hs[b]? =some n/\m.v.1=n.v.1)\/∃i k ni nk l f,Dp hs i k/\hs[i]? =some ni/\hs[k]? =some nk/\nk.v.1≠ni.v.1/\LstP x hs k ni.v.2.1 l/\FstP x hs i nk.v.2.1 f/\((a=k/\b=i)\/(a=l/\b=i)\/(a=k/\b=f)):=by
 obtain⟨c,i,hi,h⟩:=h
 rcases h with ⟨xs,⟨n,hn,h⟩,he⟩|⟨k,xs,hd,⟨ni,nk,h1,h2,h3⟩,⟨nk',ni',l,f,g1,g2,g3,g4,rfl⟩,he⟩
 ·rcases h with ⟨rfl,_⟩|⟨k,m,k1,k2,k3,rfl,_⟩
  ·cases he
  ·have:=List.mem_singleton.1 he
   simp only[Prod.mk.injEq] at this
   have ea:a=k:=by omega
   have eb:b=i:=by omega
   subst ea eb
   exact .inl ⟨m,n,k1,k2,hn,k3⟩
 ·rw[h2] at g1;rw[h1] at g2;cases g1;cases g2
  refine .inr ⟨i,k,ni,nk,l,f,hd,h1,h2,h3,g3,g4,?_⟩
  simp only[List.mem_cons,List.not_mem_nil,or_false,Prod.mk.injEq] at he
  omega
structure FairR(x:CatD)(hs:List Nd)(r:Nat->Nat):Prop where
 inj:∀i j,i<hs.length->j<hs.length->r i=r j->i=j
 keep:∀i k,EdP hs i k->r k<r i
 fair:∀o a b u no na,hs[o]? =some no->hs[a]? =some na->na.v.1≠no.v.1->InP x hs a b no.v.2.1->r a<=r o->r o<=r b->InP x hs a u no.v.2.1->¬(Dp hs o u\/Dp hs u o)
theorem dp_rank{hs:List Nd}{r:Nat->Nat}(h:∀i k,EdP hs i k->r k<r i){i k:Nat}(hd:Dp hs i k):r k<r i:=by
 induction hd with
 | one e=>exact h _ _ e
 | more _ e ih=>have:=h _ _ e;omega
theorem FairR.arc{x:CatD}{hs:List Nd}{r:Nat->Nat}(hM:HMay x hs)(h:FairR x hs r){a b:Nat}(e:ArcE x hs a b):r a<r b:=by
 rcases arc_inv e with ⟨m,n,h1,h2,h3,h4⟩|⟨i,k,ni,nk,l,f,hd,hi,hk,hne,hl,hf,hab⟩
 ·exact h.keep _ _ ⟨h1,n,m,h3,h2,.inl h4.symm⟩
 ·have hki:=dp_rank h.keep hd
  rcases hab with ⟨rfl,rfl⟩|⟨rfl,rfl⟩|⟨rfl,rfl⟩
  ·exact hki
  ·apply Nat.lt_of_not_le;intro hle
   exact h.fair b k a k ni nk hi hk hne hl.1 (by omega) hle (.inl rfl) (.inl hd)
  ·apply Nat.lt_of_not_le;intro hle
   obtain⟨nf,hnf,hsf⟩:=hf.1.saga hi
   exact h.fair a b i i nk nf hk hnf (by rw[hsf];exact fun e=>hne e.symm) (hf.1.sym hM) hle (by omega) (hf.1.sym hM) (.inr hd)
theorem tc_rank{E:Nat->Nat->Prop}{r:Nat->Nat}(h:∀a b,E a b->r a<r b){a b:Nat}(t:TC E a b):r a<r b:=by
 induction t with
 | one e=>exact h _ _ e
 | more _ e ih=>have:=h _ _ e;omega
theorem fair_of{x:CatD}{hs:List Nd}{r:Nat->Nat}(hM:HMay x hs)(inj:∀i j,i<hs.length->j<hs.length->r i=r j->i=j)(hr:∀a b,ArcE x hs a b->r a<r b):FairR x hs r:=by
 have own:∀ {k i:Nat}{m n:Nd},hs[k]? =some m->hs[i]? =some n->m.v.1=n.v.1->k<i->r k<r i:=fun h1 h2 h3 h4=>tc_rank hr (arc_own (Nat.le_refl _) h1 h2 h3 h4)
 have dp:∀ {i k:Nat},Dp hs i k->k<hs.length->i<hs.length->r k<r i:=fun{i k} hd hk hi=>by
  have hlt:=Dp_lt hd
  have gi:hs[i]? =some hs[i]:=List.getElem?_eq_getElem hi
  have gk:hs[k]? =some hs[k]:=List.getElem?_eq_getElem hk
  by_cases he:hs[k].v.1=hs[i].v.1
  ·exact own gk gi he hlt
  ·obtain⟨l,hl⟩:=LstP.ex (x:=x) hk hs[i].v.2.1
   obtain⟨f,hf⟩:=FstP.ex (x:=x) hi hs[k].v.2.1
   exact hr _ _ (arc_btw hd gi gk he hl hf).1
 refine⟨inj,fun i k h=>?_,fun o a b u no na ho ha hne hab h1 h2 hau hd=>?_⟩
 ·obtain⟨hlt,a,b,ga,gb,_⟩:=id h
  exact dp (.one h) (get_lt gb) (get_lt ga)
 ·obtain⟨nu,hu,hsu⟩:=hau.saga ha
  obtain⟨nb,hb,hsb⟩:=hab.saga ha
  rcases hd with hd|hd
  ·obtain⟨l,hl⟩:=LstP.ex (x:=x) (get_lt hu) no.v.2.1
   obtain⟨f,hf⟩:=FstP.ex (x:=x) (get_lt ho) nu.v.2.1
   have h3:=hr _ _ (arc_btw hd ho hu (by rw[hsu];exact hne) hl hf).2.1
   have hbl:=hl.2 b ((hau.sym hM).tr hM hab)
   obtain⟨nl,hnl,hsl⟩:=hl.1.saga hu
   rcases Nat.lt_or_ge b l with h'|h'
   ·have:=own hb hnl (hsb.trans (hsu.symm.trans hsl.symm)) h';omega
   ·have:b=l:=by omega
    subst this;omega
  ·obtain⟨l,hl⟩:=LstP.ex (x:=x) (get_lt ho) nu.v.2.1
   obtain⟨f,hf⟩:=FstP.ex (x:=x) (get_lt hu) no.v.2.1
   have h3:=hr _ _ (arc_btw hd hu ho (by rw[hsu];exact fun e=>hne e.symm) hl hf).2.2
   have hfa:=hf.2 a (hau.sym hM)
   obtain⟨nf,hnf,hsf⟩:=hf.1.saga hu
   rcases Nat.lt_or_ge f a with h'|h'
   ·have:=own hnf ha (hsf.trans hsu) h';omega
   ·have:f=a:=by omega
    subst this;omega
def pos:List Nat->Nat->Nat
 | [],_=>0
 | x::l,i=>if x=i then 0 else pos l i+1
theorem pos_mem:∀ {p:List Nat}{a:Nat}(q:List Nat),a∈p->pos (p++q) a<p.length
 | x::p,a,q,h=>by
  rw[List.cons_append,pos,List.length_cons]
  by_cases e:x=a
  ·rw[if_pos e];omega
  ·rw[if_neg e]
   have:=pos_mem (p:=p) q ((List.mem_cons.1 h).resolve_left fun h=>e h.symm)
   omega
theorem pos_not:∀ {p:List Nat}{b:Nat}(q:List Nat),b∉p->pos (p++b::q) b=p.length
 | [],b,q,_=>by rw[List.nil_append,pos,if_pos rfl];rfl
 | x::p,b,q,h=>by
  rw[List.cons_append,pos,if_neg (fun e=>h (by rw[e];exact List.mem_cons_self ..)),pos_not q fun h'=>h (List.mem_cons_of_mem _ h'),List.length_cons]
theorem pos_get:∀ {l:List Nat}{a:Nat},a∈l->l[pos l a]? =some a
 | x::l,a,h=>by
  rw[pos]
  by_cases e:x=a
  ·rw[if_pos e,e];rfl
  ·rw[if_neg e,List.getElem?_cons_succ]
   exact pos_get ((List.mem_cons.1 h).resolve_left fun h=>e h.symm)
theorem full_mem{out:List Nat}{n:Nat}(hn:out.Nodup)(hl:∀i∈out,i<n)(h:out.length=n){i:Nat}(hi:i<n):i∈out:=by
 refine Classical.byContradiction fun hno=>?_
 have:=nodup_le (a:=i::out) (b:=List.range n) (List.nodup_cons.2 ⟨hno,hn⟩) fun j hj=>by
  rcases List.mem_cons.1 hj with rfl|hj
  ·exact List.mem_range.2 hi
  ·exact List.mem_range.2 (hl j hj)
 rw[List.length_cons,List.length_range] at this
 omega
theorem full_miss{out:List Nat}{n:Nat}(h:out.length<n):∃i,i<n/\i∉out:=by
 refine Classical.byContradiction fun hno=>?_
 have:=nodup_le (a:=List.range n) (b:=out) List.nodup_range fun j hj=>Classical.byContradiction fun h'=>hno ⟨j,List.mem_range.1 hj,h'⟩
 rw[List.length_range] at this
 omega
theorem holds_pos{arcs:List ArcD}{out:List Nat}{j:Nat}:0<holds arcs out j↔∃e∈arcs,e.2.1=(j:Int)/\∀k∈out,e.1≠(k:Int):=by
 unfold holds
 rw[List.countP_pos_iff]
 refine exists_congr fun e=>and_congr_right fun _=>?_
 unfold holdB
 rw[Bool.and_eq_true,beq_iff_eq,Bool.not_eq_true']
 refine and_congr_right fun _=>⟨fun h k hk he=>?_,fun h=>?_⟩
 ·rw[List.any_eq_false] at h
  exact h k hk (beq_iff_eq.2 he)
 ·rw[List.any_eq_false]
  exact fun k hk he=>h k hk (beq_iff_eq.1 he)
theorem told_rank{arcs:List ArcD}{n:Nat}{out:List Nat}(hT:ToldP arcs n out)(hl:out.length=n){a b:Nat}{c:Int}(he:((a:Int),(b:Int),c)∈arcs)(hb:b<n):pos out a<pos out b:=by
 have hnd:=hT.run.nodup
 obtain⟨p,q,hpq⟩:=List.append_of_mem (full_mem hnd.1 hnd.2 hl hb)
 obtain⟨h1,h2,h3,_⟩:=hT.run.at hpq
 have:¬0<holds arcs p b:=by omega
 rw[holds_pos] at this
 have ha:a∈p:=Classical.byContradiction fun h=>this ⟨_,he,rfl,fun k hk e=>h (by rw[show a=k from Int.ofNat.inj e];exact hk)⟩
 rw[hpq,pos_not q h2]
 exact pos_mem _ ha
theorem told_full{arcs:List ArcD}{n:Nat}{out:List Nat}(hT:ToldP arcs n out){r:Nat->Nat}(hr:∀e∈arcs,∃a b:Nat,e.1=(a:Int)/\e.2.1=(b:Int)/\a<n/\r a<r b):out.length=n:=by
 have hlen:=hT.run.len
 refine Classical.byContradiction fun hne=>?_
 obtain⟨i0,h0,h0'⟩:=full_miss (out:=out) (n:=n) (by omega)
 obtain⟨m,⟨i,hi,hio,rfl⟩,hmin⟩:=least (P:=fun m=>∃i,i<n/\i∉out/\r i=m) (Nat.le_refl _) ⟨i0,h0,h0',rfl⟩
 obtain⟨e,he,h1,h2⟩:=holds_pos.1 ((hT.all i hi).resolve_left hio)
 obtain⟨a,b,ha,hb,han,hab⟩:=hr e he
 have:b=i:=Int.ofNat.inj (hb.symm.trans h1)
 subst this
 have:=hmin (r a) ⟨a,han,fun h=>h2 a h ha,rfl⟩
 omega
theorem TRun.ex{arcs:List ArcD}{n:Nat}:∀ {m:Nat}{out:List Nat},TRun arcs n out->m+out.length=n->∃out',ToldP arcs n out':=by
 intro m
 induction m with
 | zero=>
  intro out h hm
  have hnd:=h.nodup
  exact⟨out,h,fun j hj=>.inl (full_mem hnd.1 hnd.2 (by omega) hj)⟩
 | succ m ih=>
  intro out h hm
  by_cases hx:∀j,j<n->j∈out\/0<holds arcs out j
  ·exact⟨out,h,hx⟩
  ·have:∃j,j<n/\j∉out/\holds arcs out j=0:=Classical.byContradiction fun hno=>hx fun j hj=>by
    by_cases hm:j∈out
    ·exact .inl hm
    ·exact .inr (Nat.pos_of_ne_zero fun h0=>hno ⟨j,hj,hm,h0⟩)
   obtain⟨j0,hj0⟩:=this
   obtain⟨i,⟨hi,hio,hi0⟩,hmin⟩:=least (P:=fun j=>j<n/\j∉out/\holds arcs out j=0) (Nat.le_refl _) hj0
   refine ih (h.snoc hi hio hi0 fun j hj=>?_) (by rw[List.length_append,List.length_singleton];omega)
   by_cases hm:j∈out
   ·exact .inl hm
   ·exact .inr (Nat.pos_of_ne_zero fun h0=>by have:=hmin j ⟨by omega,hm,h0⟩;omega)
theorem told_ex(arcs:List ArcD)(n:Nat):∃out,ToldP arcs n out:=TRun.ex (m:=n) .nil rfl
theorem arc_of{x:CatD}{hs:List Nd}{ys:List ArcD}(hM:HMay x hs)(hA:ArcsP x hs ys){e:ArcD}(he:e∈ys):∃a b:Nat,e.1=(a:Int)/\e.2.1=(b:Int)/\a<hs.length/\b<hs.length/\ArcE x hs a b:=by
 have h:=(hA.mem hM e).1 he
 obtain⟨⟨h1,h2⟩,⟨h3,h4⟩,_⟩:=h.q
 obtain⟨e1,e2,e3⟩:=e
 obtain⟨a,rfl⟩:=Int.eq_ofNat_of_zero_le h1
 obtain⟨b,rfl⟩:=Int.eq_ofNat_of_zero_le h3
 exact⟨a,b,rfl,rfl,by dsimp only at h2;omega,by dsimp only at h4;omega,e3,h⟩
theorem ArcE.lt{x:CatD}{hs:List Nd}{a b:Nat}(h:ArcE x hs a b):a<hs.length/\b<hs.length:=by
 obtain⟨c,h⟩:=h
 have:=h.q
 dsimp only at this
 omega
theorem told_fair{x:CatD}{hs:List Nd}{ys:List ArcD}{out:List Nat}(hM:HMay x hs)(hA:ArcsP x hs ys)(hT:ToldP ys hs.length out)(hl:out.length=hs.length):FairR x hs (pos out):=by
 have hnd:=hT.run.nodup
 refine fair_of hM (fun i j hi hj e=>?_) fun a b ⟨c,h⟩=>told_rank hT hl ((hA.mem hM _).2 h) (ArcE.lt ⟨c,h⟩).2
 have h1:=pos_get (full_mem hnd.1 hnd.2 hl hi)
 have h2:=pos_get (full_mem hnd.1 hnd.2 hl hj)
 rw[e,h2] at h1
 exact(Option.some.inj h1).symm
theorem told_iff{x:CatD}{hs:List Nd}{ys:List ArcD}{out:List Nat}(hM:HMay x hs)(hA:ArcsP x hs ys)(hT:ToldP ys hs.length out):out.length=hs.length↔∃r,FairR x hs r:=
 ⟨fun h=>⟨_,told_fair hM hA hT h⟩,fun⟨r,h⟩=>told_full hT (r:=r) fun e he=>by
  obtain⟨a,b,h1,h2,h3,h4,h5⟩:=arc_of hM hA he
  exact⟨a,b,h1,h2,h3,h.arc hM h5⟩⟩
theorem TC.flip{α:Type}{E:α->α->Prop}{a b:α}(h:TC (fun x y=>E y x) a b):TC E b a:=by
 induction h with
 | one e=>exact .one e
 | more _ e ih=>exact(TC.one e).trans ih
theorem acyc_iff{x:CatD}{hs:List Nd}{ys:List ArcD}(hM:HMay x hs)(hA:ArcsP x hs ys):(∀i,¬TC (ArcE x hs) i i)↔∃r,FairR x hs r:=by
 constructor
 ·intro h
  obtain⟨out,hT⟩:=told_ex ys hs.length
  refine(told_iff hM hA hT).1 (Classical.byContradiction fun hne=>?_)
  have hlen:=hT.run.len
  obtain⟨i,hi,hio⟩:=full_miss (out:=out) (n:=hs.length) (by omega)
  have pred:∀j,j<hs.length->j∉out->∃a,a∉out/\ArcE x hs a j:=fun j hj hjo=>by
   obtain⟨e,he,h1,h2⟩:=holds_pos.1 ((hT.all j hj).resolve_left hjo)
   obtain⟨a,b,g1,g2,g3,g4,g5⟩:=arc_of hM hA he
   have:b=j:=Int.ofNat.inj (g2.symm.trans h1)
   subst this
   exact⟨a,fun h=>h2 a h g1,g5⟩
  obtain⟨a,⟨b,hb⟩,hall⟩:=acyc_some (E:=fun b a=>b∉out/\a∉out/\ArcE x hs a b) (keys:=List.range hs.length) (fun k hk=>h k (TC.flip (hk.mono fun _ _ h=>h.2.2))) (fun a b h=>List.mem_range.2 h.2.2.lt.2) (k:=i) (by
   obtain⟨a,h1,h2⟩:=pred i hi hio
   exact⟨a,hio,h1,h2⟩)
  obtain⟨c,h1,h2⟩:=pred b hb.2.2.lt.1 hb.2.1
  exact hall b hb c ⟨hb.2.1,h1,h2⟩
 ·rintro⟨r,h⟩ i hi
  have:=tc_rank (fun a b e=>h.arc hM e) hi
  omega
theorem TC.lt{x:CatD}{hs:List Nd}{a b:Nat}(h:TC (ArcE x hs) a b):a<hs.length/\b<hs.length:=by
 induction h with
 | one e=>exact e.lt
 | more _ e ih=>exact⟨ih.1,e.lt.2⟩
theorem SlR.mk{w:World}{e:Ty}{s:Sl}{l:List e.den}{css:List (List Value)}(hl:css.length=l.length)(hr:∀(i:Nat) c x,css[i]? =some c->l[i]? =some x->rep (fun _=>True) w e x c)(hR:Rd w s e.sz css.flatten)(hn:s.n=l.length)(hc:s.n<=s.c)(hm:s.n<=maxLen):SlR w e s l:=
 ⟨s,rfl,hn,hc,hm,fun _ _ _=>trivial,css,hl,hr,hR⟩
theorem rdBlk{w:World}{b n sz:Nat}{arr:Array Value}{T:TypeId}{cs:List Value}(h:w.heap[b]? =some (.cells arr T (0,0)))(hs:arr.toList=cs)(hl:cs.length=n*sz):Rd w ⟨some ⟨b,0,none⟩,n,n⟩ sz cs:=
 ⟨hl,hl,cellsAt_of h fun i v hv=>by rw[Nat.zero_add,<-Array.getElem?_toList,hs];exact hv⟩
abbrev strA:ByteArray:=ByteArray.mk (Array.mk [(97:UInt8)])
abbrev insA:InsD:=(5,0,0,0,(0,0),(0,0),0)
abbrev stpA:StpD:=([insA],[])
abbrev clsA:ClsD:=(strA,0,[stpA,stpA],[([],[]),([],[])],false)
abbrev catA:CatD:=([clsA],List.replicate 16 0)
theorem insA_ok:InsOk insA 0:=⟨by decide,by decide,by decide,by decide,by decide,by decide,by decide,by decide,by decide,by decide,fun h=>absurd h (by decide),fun h=>absurd h (by decide)⟩
theorem stpA_ok:CodeOk stpA.1 0/\FootOk stpA.2 0:=
 ⟨⟨by decide,by decide,by decide,by decide,fun x hx=>by rw[List.mem_singleton.1 hx];exact insA_ok⟩,by decide,by decide,by decide,fun s hs=>by cases hs⟩
theorem clsA_ok:ClsOk clsA:=by
 refine⟨by decide,by decide,by decide,by decide,by decide,by decide,rfl,fun s hs=>?_,fun s hs=>?_⟩
 ·simp only[List.mem_cons,List.not_mem_nil,or_false] at hs
  rcases hs with rfl|rfl<;>exact stpA_ok
 ·simp only[List.mem_cons,List.not_mem_nil,or_false] at hs
  rcases hs with rfl|rfl<;>exact⟨.inl rfl,by decide,by decide,by decide,fun s hs=>by cases hs⟩
theorem brkA(c d:Nat):brk catA c d=0:=by
 unfold brk
 dsimp only
 rw[List.getD_eq_getElem?_getD,List.getElem?_replicate]
 split<;>rfl
theorem catA_ok:CatOk catA:=by
 refine⟨by decide,by decide,fun c hc=>?_,fun i k a b hk ha hb=>?_,fun c d hc hd=>?_⟩
 ·rw[List.mem_singleton.1 hc];exact clsA_ok
 ·have:=get_lt ha
  have h1:catA.1.length=1:=rfl
  omega
 ·rw[brkA]
  refine⟨Int.le_refl _,?_⟩
  unfold topB
  split
  ·exact Int.pow_pos (by decide)
  ·decide
theorem brkBA(c d i:Nat):brkB catA c d i=false:=by
 unfold brkB
 rw[brkA]
 simp
theorem rep_insA(w:World):rep (fun _=>True) w tyIns insA (insC insA):=
 ⟨[_],_,rfl,⟨rfl,by decide⟩,[_],_,rfl,⟨rfl,by decide⟩,[_],_,rfl,⟨rfl,by decide⟩,[_],_,rfl,⟨rfl,by decide⟩,[_,_],_,rfl,⟨[_],[_],rfl,⟨rfl,by decide⟩,rfl,by decide⟩,[_,_],_,rfl,⟨[_],[_],rfl,⟨rfl,by decide⟩,rfl,by decide⟩,rfl,by decide⟩
theorem one_le_max:1<=maxLen:=by decide+kernel
theorem two_le_max:2<=maxLen:=by decide+kernel
theorem SlR.nil(w:World)(e:Ty):SlR w e ⟨none,0,0⟩ []:=
 SlR.mk (css:=[]) rfl (fun i c x h=>by cases h) (OwS.nil w e.sz).rd rfl (Nat.le_refl _) (Nat.zero_le _)
theorem SlR.one{w:World}{e:Ty}{b:Nat}{x:e.den}{c:List Value}{T:TypeId}(hb:w.heap[b]? =some (.cells c.toArray T (0,0)))(hx:rep (fun _=>True) w e x c):SlR w e ⟨some ⟨b,0,none⟩,1,1⟩ [x]:=by
 refine SlR.mk (css:=[c]) rfl (fun i c' x' hc hx'=>?_) (rdBlk hb (by simp) (by have:=rep_len hx;simp;omega)) rfl (Nat.le_refl _) one_le_max
 cases i with
 | zero=>cases hc;cases hx';exact hx
 | succ i=>cases hc
theorem SlR.two{w:World}{e:Ty}{b:Nat}{x y:e.den}{c d:List Value}{T:TypeId}(hb:w.heap[b]? =some (.cells (c++d).toArray T (0,0)))(hx:rep (fun _=>True) w e x c)(hy:rep (fun _=>True) w e y d):SlR w e ⟨some ⟨b,0,none⟩,2,2⟩ [x,y]:=by
 refine SlR.mk (css:=[c,d]) rfl (fun i c' x' hc hx'=>?_) (rdBlk hb (by simp) (by have:=rep_len hx;have:=rep_len hy;simp;omega)) rfl (Nat.le_refl _) two_le_max
 match i,hc,hx' with
 | 0,hc,hx'=>cases hc;cases hx';exact hx
 | 1,hc,hx'=>cases hc;cases hx';exact hy
theorem catA_mem{w:World}{b1 b8 b10 b12:Nat}{T1 T8 T10 T12:TypeId}(h1:w.heap[b1]? =some (.cells (insC insA).toArray T1 (0,0)))
  (h8:w.heap[b8]? =some (.cells #[slV ⟨some ⟨b1,0,none⟩,1,1⟩,slV ⟨none,0,0⟩,slV ⟨some ⟨b1,0,none⟩,1,1⟩,slV ⟨none,0,0⟩] T8 (0,0)))
  (h10:w.heap[b10]? =some (.cells { toList:=zc #[slV ⟨none,0,0⟩,slV ⟨none,0,0⟩] 2 } T10 (0,0)))
  (h12:w.heap[b12]? =some (.cells (clsC (strA,0,⟨some ⟨b8,0,none⟩,2,2⟩,⟨some ⟨b10,0,none⟩,2,2⟩,false)).toArray T12 (0,0))):
  CatM w (⟨some ⟨b12,0,none⟩,1,1⟩,List.replicate 16 (.int .i64 0)) catA:=by
 have r1:rep (fun _=>True) w tyStp stpA [slV ⟨some ⟨b1,0,none⟩,1,1⟩,slV ⟨none,0,0⟩]:=⟨[_],[_],rfl,SlR.one h1 (rep_insA w),SlR.nil w tySpT⟩
 have r0:rep (fun _=>True) w tyStp ([],[]) [slV ⟨none,0,0⟩,slV ⟨none,0,0⟩]:=⟨[_],[_],rfl,SlR.nil w tyIns,SlR.nil w tySpT⟩
 have hz:zc #[slV ⟨none,0,0⟩,slV ⟨none,0,0⟩] 2=[slV ⟨none,0,0⟩,slV ⟨none,0,0⟩]++[slV ⟨none,0,0⟩,slV ⟨none,0,0⟩]:=by
  rw[zc_all (v:=slV ⟨none,0,0⟩) (by intro x hx;simpa using hx)];rfl
 rw[hz] at h10
 have rc:rep (fun _=>True) w tyCls clsA (clsC (strA,0,⟨some ⟨b8,0,none⟩,2,2⟩,⟨some ⟨b10,0,none⟩,2,2⟩,false)):=
  ⟨[_],_,rfl,⟨rfl,one_le_max⟩,[_],_,rfl,⟨rfl,by decide⟩,[_],_,rfl,SlR.two (e:=tyStp) (c:=[_,_]) (d:=[_,_]) h8 r1 r1,[_],_,rfl,SlR.two (e:=tyStp) (c:=[_,_]) (d:=[_,_]) h10 r0 r0,rfl⟩
 exact⟨SlR.one h12 rc,rfl,rfl,fun n hn=>by rw[(List.mem_replicate.1 hn).2];omega⟩
theorem ne_of_size{W:World}{b b':Nat}{arr arr':Array Value}{T T':TypeId}{q q':Nat×Nat}(h:W.heap[b]? =some (.cells arr T q))(h':W.heap[b']? =some (.cells arr' T' q'))(hs:arr.size≠arr'.size):b≠b':=fun e=>by
 subst e
 rw[h] at h'
 cases h'
 exact hs rfl
theorem cxA_one(v:Sl):One (cxC (v,List.replicate 16 (.int .i64 0))):=by
 intro x hx
 rcases List.mem_cons.1 hx with rfl|hx
 ·rfl
 ·rw[(List.mem_replicate.1 hx).2];rfl
theorem alvFin{w W:World}{b1 bS bC bK bX:Nat}{T1 TS TC TK TX:TypeId}{arr:Array Value}{K:World->Prop}(E:Ext w W)(hb:w.heap.size<=bX)
  (h1:W.heap[b1]? =some (.cells (insC insA).toArray T1 (0,0)))
  (hS:W.heap[bS]? =some (.cells #[slV ⟨some ⟨b1,0,none⟩,1,1⟩,slV ⟨none,0,0⟩,slV ⟨some ⟨b1,0,none⟩,1,1⟩,slV ⟨none,0,0⟩] TS (0,0)))
  (hC:W.heap[bC]? =some (.cells { toList:=zc #[slV ⟨none,0,0⟩,slV ⟨none,0,0⟩] 2 } TC (0,0)))
  (hK:W.heap[bK]? =some (.cells (clsC (strA,0,⟨some ⟨bS,0,none⟩,2,2⟩,⟨some ⟨bC,0,none⟩,2,2⟩,false)).toArray TK (0,0)))
  (hX:W.heap[bX]? =some (.cells arr TX (0,0)))(hs:arr.size=17)
  (hG:∀w',Ext w w'->w'.heap[bX]? =some (.cells (cxC (⟨some ⟨bK,0,none⟩,1,1⟩,List.replicate 16 (.int .i64 0))).toArray TX (0,0))->CatM w' (⟨some ⟨bK,0,none⟩,1,1⟩,List.replicate 16 (.int .i64 0)) catA->K w'):
  StoreP W bX 0 (cxC (⟨some ⟨bK,0,none⟩,1,1⟩,List.replicate 16 (.int .i64 0))) K:=by
 have hz:(zc #[slV ⟨none,0,0⟩,slV ⟨none,0,0⟩] 2).length=4:=by rw[zc_len];rfl
 refine store_all hX (by rw[hs];rfl) (cxA_one _) fun w' u=>hG w' (E.chN u.ch fun j e=>by omega) u.new (catA_mem (u.at h1 ?_) (u.at hS ?_) (u.at hC ?_) (u.at hK ?_))
 ·exact ne_of_size h1 hX (by rw[hs];decide)
 ·exact ne_of_size hS hX (by rw[hs];exact(by decide:4≠17))
 ·exact ne_of_size hC hX (by rw[hs];show (zc #[slV ⟨none,0,0⟩,slV ⟨none,0,0⟩] 2).length≠17;omega)
 ·exact ne_of_size hK hX (by rw[hs];simp)
set_option maxRecDepth 100000
def ArE(ys:List ArcD)(a b:Nat):Prop:=∃c:Int,((a:Int),(b:Int),c)∈ys
theorem ArcsP.are{x:CatD}{hs:List Nd}{ys:List ArcD}(hM:HMay x hs)(h:ArcsP x hs ys)(a b:Nat):ArE ys a b↔ArcE x hs a b:=exists_congr fun c=>h.mem hM _
def F32j6(t1:Sl)(b1:Nat)(n11:Int)(n43:Int)(x65:Int×Int×Int)(y69:Int×Int->World->Prop)(n80:Int)(w81:World):Prop:=IfB (decide (x65.fst<0)) (∃(x84:Sl×List Value),CellsN w81.drew b1 0 17 (Qy x84.fst::x84.2)/\Qx t1.1 n43 (t1.2:Int) fun b87 b88=>Qi w81.drew b87 (b88+n43.toNat*6+1) fun n89=>Qv' 94 #[Value.agg { toList:=Qy x84.fst::x84.2 },Qy t1,Qz n11,Qz x65.snd.2,Qz n89] w81.drew fun t92 w91=>IfB t92 (([]:List Nat)=[]/\y69 (x65.snd.2,n80) w91) (([]:List Nat)=[]/\y69 (x65.1,n80) w91)) (([]:List Nat)=[]/\y69 (x65.1,n80) w81.drew)
def F32j5(t1:Sl)(b1:Nat)(b6:Nat)(n11:Int)(y40:Nat->Int->World->Prop)(b42:Nat)(n43:Int)(y62:Nat->Int×Int×Int->World->Prop)(b64:Nat)(x65:Int×Int×Int)(w66:World):Prop:=IfB (decide (x65.snd.snd<(t1.n:Int))) (∃(y69:Int×Int->World->Prop),(∃(y70:Int->World->Prop),(∃(x71:Sl×List Value),CellsN w66.drew b1 0 17 (Qy x71.fst::x71.2)/\Qx t1.1 n11 (t1.2:Int) fun b74 b75=>Qi w66.drew b74 (b75+n11.toNat*6+1) fun n76=>Qv' 94 #[Value.agg { toList:=Qy x71.fst::x71.2 },Qy t1,Qz n43,Qz x65.snd.2,Qz n76] w66.drew fun t79 w78=>IfB t79 (([]:List Nat)=[]/\y70 x65.snd.2 w78) (([]:List Nat)=[]/\y70 x65.snd.1 w78))/\∀(n80:Int)(w81:World)(y82:Nat->Value),y70 n80 w81->(F32j6 t1 b1 n11 n43 x65 y69 n80 w81))/\∀(x93:Int×Int)(w94:World)(y95:Nat->Value),y69 x93 w94->Qn y62 b64 (x93.1,x93.2,IntKind.i64.wrap (x65.snd.2+1)) w94) ((0<=x65.snd.1/\x65.snd.1<((100:Nat):Int))/\(0<=n11/\n11<((100:Nat):Int))/\((0:Int)<=3/\3<((5:Nat):Int))/\#[Value.bool true].size=1/\StoreP w66 b6 (0+Int.toNat x65.snd.1*500+n11.toNat*5+Int.toNat 3) [Value.bool true] fun w98=>(0<=n43/\n43<((100:Nat):Int))/\(0<=x65.1/\x65.1<((100:Nat):Int))/\((0:Int)<=4/\4<((5:Nat):Int))/\#[Value.bool true].size=1/\StoreP w98 b6 (0+n43.toNat*500+x65.1.toNat*5+Int.toNat 4) [Value.bool true] fun w99=>Qn y40 b42 (IntKind.i64.wrap (n43+1)) w99)
def F32j4(t1:Sl)(b1:Nat)(s5:Sl)(b6:Nat)(y8:Nat->Int->World->Prop)(b10:Nat)(n11:Int)(y40:Nat->Int->World->Prop)(b42:Nat)(n43:Int)(w44:World):Prop:=IfB (decide (n43<(t1.n:Int))) (Qx t1.1 n43 (t1.2:Int) fun b47 b48=>Qi w44.drew b47 (b48+n43.toNat*6+0) fun n49=>Qx t1.1 n11 (t1.2:Int) fun b50 b51=>Qi w44.drew b50 (b51+n11.toNat*6+0) fun n52=>IfB (n49 == n52) (Qn y40 b42 (IntKind.i64.wrap (n43+1)) w44.drew) (Qx s5.1 n11 (s5.2:Int) fun b54 b55=>Qs w44.drew b54 (b55+n11.toNat) fun s56=>Qx s56.1 n43 (s56.2:Int) fun b57 b58=>Qb w44.drew b57 (b58+n43.toNat) fun t59=>IfB (!t59) (Qn y40 b42 (IntKind.i64.wrap (n43+1)) w44.drew) ((0<=n43/\n43<((100:Nat):Int))/\(0<=n11/\n11<((100:Nat):Int))/\((0:Int)<=2/\2<((5:Nat):Int))/\#[Value.bool true].size=1/\StoreP w44.drew b6 (0+n43.toNat*500+n11.toNat*5+Int.toNat 2) [Value.bool true] fun w61=>Ql (α:=Int×Int×Int) ((-1:Int),(-1:Int),0) w61 fun y62 b64 x65 w66=>(F32j5 t1 b1 b6 n11 y40 b42 n43 y62 b64 x65 w66)))) (Qn y8 b10 (IntKind.i64.wrap (n11+1)) w44)
def F32j2(t1:Sl)(b1:Nat)(s5:Sl)(b6:Nat)(y8:Nat->Int->World->Prop)(b10:Nat)(n11:Int)(y15:Nat->Int×Int->World->Prop)(b17:Nat)(x18:Int×Int)(w19:World):Prop:=IfB (decide (x18.snd<n11)) (∃(y22:Int->World->Prop),(Qx t1.1 x18.2 (t1.2:Int) fun b23 b24=>Qi w19.drew b23 (b24+x18.2.toNat*6+0) fun n25=>Qx t1.1 n11 (t1.2:Int) fun b26 b27=>Qi w19.drew b26 (b27+n11.toNat*6+0) fun n28=>IfB (n25 == n28) (([]:List Nat)=[]/\y22 x18.2 w19.drew) (([]:List Nat)=[]/\y22 x18.1 w19.drew))/\∀(n29:Int)(w30:World)(y31:Nat->Value),y22 n29 w30->Qn y15 b17 (n29,IntKind.i64.wrap (x18.2+1)) w30) (∃(y34:Unit->World->Prop),IfB (decide (0<=x18.fst)) ((0<=x18.1/\x18.1<((100:Nat):Int))/\(0<=n11/\n11<((100:Nat):Int))/\((0:Int)<=1/\1<((5:Nat):Int))/\#[Value.bool true].size=1/\StoreP w19 b6 (0+x18.1.toNat*500+n11.toNat*5+Int.toNat 1) [Value.bool true] fun w35=>([]:List Nat)=[]/\y34 PUnit.unit w35) (([]:List Nat)=[]/\y34 PUnit.unit w19)/\∀(y36:Unit)(w37:World)(y38:Nat->Value),y34 y36 w37->Ql (α:=Int) 0 w37 fun y40 b42 n43 w44=>(F32j4 t1 b1 s5 b6 y8 b10 n11 y40 b42 n43 w44))
def F32j9(b6:Nat)(x105:Sl×Int)(y109:Nat->Sl×Int->World->Prop)(b111:Nat)(x112:Sl×Int)(y116:Nat->Sl×Int->World->Prop)(b118:Nat)(x119:Sl×Int)(w120:World):Prop:=IfB (decide (x119.snd<5)) (∃(y123:Sl->World->Prop),((0<=x105.2/\x105.2<((100:Nat):Int))/\(0<=x112.2/\x112.2<((100:Nat):Int))/\(0<=x119.2/\x119.2<((5:Nat):Int))/\Qb w120 b6 (0+x105.2.toNat*500+x112.2.toNat*5+x119.2.toNat) fun t124=>IfB t124 (1*3<=16777216/\AllocP w120 (Obj.cells #[Qz x105.2,Qz x112.2,Qz x119.2] 44) fun b125 w126=>∃(l127:List Value),ReadC w126 (some ⟨b125,0,none⟩) (1*3) l127/\AppendP tt44 44 w126 x119.fst.1 x119.fst.2 x119.fst.3 1 l127 fun s128 w129=>([]:List Nat)=[]/\y123 { p:=s128.1,n:=s128.2,c:=s128.3 } w129) (([]:List Nat)=[]/\y123 { p:=x119.fst.1,n:=x119.fst.2,c:=x119.fst.3 } w120))/\∀(s130:Sl)(w131:World)(y132:Nat->Value),y123 s130 w131->Qn y116 b118 ({ p:=s130.1,n:=s130.2,c:=s130.3 },IntKind.i64.wrap (x119.2+1)) w131) (Qn y109 b111 ({ p:=x119.fst.1,n:=x119.fst.2,c:=x119.fst.3 },IntKind.i64.wrap (x112.2+1)) w120)
def F32j8(t1:Sl)(b6:Nat)(y102:Nat->Sl×Int->World->Prop)(b104:Nat)(x105:Sl×Int)(y109:Nat->Sl×Int->World->Prop)(b111:Nat)(x112:Sl×Int)(w113:World):Prop:=IfB (decide (x112.snd<(t1.n:Int))) (Ql (α:=Sl×Int) ({ p:=x112.fst.1,n:=x112.fst.2,c:=x112.fst.3 },1) w113 fun y116 b118 x119 w120=>(F32j9 b6 x105 y109 b111 x112 y116 b118 x119 w120)) (Qn y102 b104 ({ p:=x112.fst.1,n:=x112.fst.2,c:=x112.fst.3 },IntKind.i64.wrap (x105.2+1)) w113)
def F32j1(t1:Sl)(R:RV)(b1:Nat)(s5:Sl)(b6:Nat)(y8:Nat->Int->World->Prop)(b10:Nat)(n11:Int)(w12:World):Prop:=IfB (decide (n11<(t1.n:Int))) (Ql (α:=Int×Int) ((-1:Int),0) w12 fun y15 b17 x18 w19=>(F32j2 t1 b1 s5 b6 y8 b10 n11 y15 b17 x18 w19)) (Ql (α:=Sl×Int) ({ p:=none,n:=0,c:=0 },0) w12 fun y102 b104 x105 w106=>IfB (decide (x105.snd<(t1.n:Int))) (Ql (α:=Sl×Int) ({ p:=x105.fst.1,n:=x105.fst.2,c:=x105.fst.3 },0) w106 fun y109 b111 x112 w113=>(F32j8 t1 b6 y102 b104 x105 y109 b111 x112 w113)) (R (Qy x105.fst) w106))
theorem F32_ok(t0:Sl×List Value)(t1:Sl)(w:World)(R:RV)(h:AllocP w (Obj.cells { toList:=Qy t0.fst::t0.2 } 26) fun b1 w2=>Qu' 93 #[Qy t1] w2 fun s5 w4=>AllocP w4 (Obj.cells (Array.replicate 50000 (Value.bool false)) 115) fun b6 w7=>Ql (α:=Int) 0 w7 fun y8 b10 n11 w12=>(F32j1 t1 R b1 s5 b6 y8 b10 n11 w12)):Cw 32 #[Value.agg { toList:=Qy t0.fst::t0.2 },Qy t1] w R:=
 ckF Tryz.func32 (nd (nd (nd (nd (.node (nd (.loop [(8,oi)] (rg [8,14,23,123]) (nd (.node (nd (.node (nd (.loop [(9,oi),(10,oi)] (rg [9,10,28,44]) (nd (.join [(9,oi)] (rg [9,9,33,44]) (.node (.draw (sts [0,1,2,3,4,5,6,7,8,9,10] .fin)) .nil) .nil)))) (.join [] (rg [45,51]) .nil (nd (.loop [(11,oi)] (rg [11,14,52,123]) (nd (.node (.node (.node (.draw (sts [0,1,2,3,4,5,6,7,8,9,10,11,12,13,14,15,16,17,18,19,20] .fin)) .nil) (nd (nd (.node (nd (.loop [(12,oi),(13,oi),(14,oi)] (rg [12,14,83,113]) (nd (.join [(12,oi),(13,oi)] (rg [12,13,88,113]) (.join [(13,oi)] (rg [13,13,88,98]) (.node (.draw (sts [0,1,2,3,4,5,6,7,8] (.ac 9 [] .fin .non))) .nil) (.node (.draw (sts [0,1,2,3,4,5,6,7,8,9,10,11] (.ac 12 [] (.st 13 .fin) .non))) .nil)) .nil)))) .nil)))) .nil))))))) .nil)))) (nd (.node (nd (.loop [(15,.one (.sl)),(16,oi)] (rg [15,18,124,151]) (nd (.node (nd (.loop [(15,.one (.sl)),(17,oi)] (rg [15,15,17,18,129,151]) (nd (.node (nd (.loop [(15,.one (.sl)),(18,oi)] (rg [15,15,18,18,134,151]) (nd (.join [(15,.one (.sl))] (rg [15,15,138,151]) .nil .nil)))) .nil)))) .nil)))) .nil))))))) h (by kernel_rfl) (by kernel_rfl)
def Tb3(W:World)(b:Nat)(S:Nat->Nat->Nat->Prop):Prop:=∃(bs:List Bool)(T:TypeId),bs.length=50000/\W.heap[b]? =some (.cells (bs.map Value.bool).toArray T (0,0))/\∀i k m,i<100->k<100->m<5->(bs[i*500+k*5+m]? =some true↔S i k m)
theorem Tb3.ext{W W':World}{b:Nat}{S:Nat->Nat->Nat->Prop}(h:Tb3 W b S)(e:Ext W W'):Tb3 W' b S:=by
 obtain⟨bs,T,h1,h2,h3⟩:=h
 exact⟨bs,T,h1,e.at h2,h3⟩
theorem Tb3.iff{W:World}{b:Nat}{S S':Nat->Nat->Nat->Prop}(h:Tb3 W b S)(e:∀i k m,S i k m↔S' i k m):Tb3 W b S':=by
 obtain⟨bs,T,h1,h2,h3⟩:=h
 exact⟨bs,T,h1,h2,fun i k m a b c=>(h3 i k m a b c).trans (e i k m)⟩
theorem repl_bool(n:Nat):Array.replicate n (Value.bool false)=((List.replicate n false).map Value.bool).toArray:=by
 rw[List.map_replicate,List.toArray_replicate]
theorem Tb3.new{w w':World}{b:Nat}{T:TypeId}{n:Nat}(hn:n=50000)(a:IsAlloc w (.cells (Array.replicate n (Value.bool false)) T (0,0)) b w'):Tb3 w' b fun _ _ _=>False:=by
 refine⟨List.replicate n false,T,by rw[List.length_replicate,hn],by rw[<-repl_bool];exact a.new,fun i k m _ _ _=>⟨fun h=>?_,fun h=>h.elim⟩⟩
 rw[List.getElem?_replicate] at h
 split at h<;>cases h
theorem Tb3.put{W:World}{b:Nat}{S:Nat->Nat->Nat->Prop}(h:Tb3 W b S){i k m:Nat}(hi:i<100)(hk:k<100)(hm:m<5){o:Nat}(ho:o=i*500+k*5+m){K:World->Prop}(hK:∀W',Tb3 W' b (fun i' k' m'=>S i' k' m'\/i'=i/\k'=k/\m'=m)->Ch (fun j=>j=b) W W'->K W'):StoreP W b o [Value.bool true] K:=by
 obtain⟨bs,T,h1,h2,h3⟩:=h
 subst ho
 refine store_one h2 (by rw[List.size_toArray,List.length_map,h1];omega) rfl fun W' u=>hK W' ⟨bs.set (i*500+k*5+m) true,T,by rw[List.length_set,h1],?_,fun i' k' m' a b c=>?_⟩ u.ch
 ·rw[List.map_set,<-List.setIfInBounds_toArray];exact u.new
 ·rw[List.getElem?_set]
  by_cases e:i*500+k*5+m=i'*500+k'*5+m'
  ·rw[if_pos e,if_pos (by rw[h1];omega)]
   exact⟨fun _=>.inr ⟨by omega,by omega,by omega⟩,fun _=>rfl⟩
  ·rw[if_neg e,h3 i' k' m' a b c]
   exact⟨.inl,fun h=>h.elim id fun h=>absurd (by rw[h.1,h.2.1,h.2.2]) e⟩
theorem Tb3.get{W:World}{b:Nat}{S:Nat->Nat->Nat->Prop}(h:Tb3 W b S){i k m:Nat}(hi:i<100)(hk:k<100)(hm:m<5){o:Nat}(ho:o=i*500+k*5+m):∃t:Bool,W.cell? ⟨b,o,none⟩=some (.bool t)/\(t=true↔S i k m):=by
 obtain⟨bs,T,h1,h2,h3⟩:=h
 subst ho
 have hl:i*500+k*5+m<bs.length:=by rw[h1];omega
 refine⟨bs[i*500+k*5+m],by rw[cell_of h2,List.getElem?_toArray,List.getElem?_map,List.getElem?_eq_getElem hl];rfl,?_⟩
 rw[<-h3 i k m hi hk hm,List.getElem?_eq_getElem hl,Option.some.injEq]
abbrev arcN(a b m:Nat):ArcD:=((a:Int),(b:Int),(m:Int))
theorem InP.self(x:CatD)(hs:List Nd)(i:Nat)(d:Int):InP x hs i i d:=.inl rfl
theorem arcN_own{hs:List Nd}{i k:Nat}{m n:Nd}(hn:hs[i]? =some n)(h1:k<i)(h2:hs[k]? =some m)(h3:m.v.1=n.v.1)(h4:∀j m,k<j->j<i->hs[j]? =some m->m.v.1≠n.v.1)(a b c:Nat):(∃xs,OwnA hs i xs/\arcN a b c∈xs)↔a=k/\b=i/\c=1:=by
 have h0:OwnA hs i [((k:Int),(i:Int),1)]:=⟨n,hn,.inr ⟨k,m,h1,h2,h3,rfl,h4⟩⟩
 constructor
 ·rintro⟨xs,hx,he⟩
  rw[hx.uniq h0] at he
  have:=List.mem_singleton.1 he
  simp only[Prod.mk.injEq] at this
  omega
 ·rintro⟨rfl,rfl,rfl⟩
  exact⟨_,h0,by simp⟩
theorem arcN_no{hs:List Nd}{i:Nat}{n:Nd}(hn:hs[i]? =some n)(h:∀k m,k<i->hs[k]? =some m->m.v.1≠n.v.1)(a b c:Nat):¬ ∃xs,OwnA hs i xs/\arcN a b c∈xs:=by
 rintro⟨xs,hx,he⟩
 rw[hx.uniq ⟨n,hn,.inl ⟨rfl,h⟩⟩] at he
 cases he
theorem arcN_btw{x:CatD}{hs:List Nd}{k i l f:Nat}{nk ni:Nd}(h1:hs[k]? =some nk)(h2:hs[i]? =some ni)(h3:LstP x hs k ni.v.2.1 l)(h4:FstP x hs i nk.v.2.1 f)(a b c:Nat):(∃xs,BtwP x hs k i xs/\arcN a b c∈xs)↔(a=k/\b=i/\c=2)\/(a=l/\b=i/\c=3)\/(a=k/\b=f/\c=4):=by
 have h0:BtwP x hs k i [((k:Int),(i:Int),2),((l:Int),(i:Int),3),((k:Int),(f:Int),4)]:=⟨nk,ni,l,f,h1,h2,h3,h4,rfl⟩
 constructor
 ·rintro⟨xs,hx,he⟩
  rw[hx.uniq h0] at he
  simp only[List.mem_cons,List.not_mem_nil,or_false,Prod.mk.injEq] at he
  omega
 ·intro h
  refine⟨_,h0,?_⟩
  rcases h with ⟨rfl,rfl,rfl⟩|⟨rfl,rfl,rfl⟩|⟨rfl,rfl,rfl⟩<;>simp
def S1(x:CatD)(hs:List Nd)(i a b c:Nat):Prop:=∃i',i'<i/\ArcI x hs i' (arcN a b c)
def S2(x:CatD)(hs:List Nd)(i k a b c:Nat):Prop:=S1 x hs i a b c\/(∃xs,OwnA hs i xs/\arcN a b c∈xs)\/∃k',k'<k/\Dp hs i k'/\TwoP hs i k'/\∃xs,BtwP x hs k' i xs/\arcN a b c∈xs
theorem S2_zero(x:CatD)(hs:List Nd)(i a b c:Nat):S2 x hs i 0 a b c↔S1 x hs i a b c\/∃xs,OwnA hs i xs/\arcN a b c∈xs:=
 ⟨fun h=>h.elim .inl fun h=>h.elim .inr fun⟨k,hk,_⟩=>absurd hk (Nat.not_lt_zero _),fun h=>h.elim .inl fun h=>.inr (.inl h)⟩
theorem S2_no{x:CatD}{hs:List Nd}{i k:Nat}(h:¬(Dp hs i k/\TwoP hs i k))(a b c:Nat):S2 x hs i k a b c↔S2 x hs i (k+1) a b c:=by
 unfold S2
 refine or_congr_right (or_congr_right ⟨fun⟨k',hk,hh⟩=>⟨k',by omega,hh⟩,fun⟨k',hk,hh⟩=>?_⟩)
 rcases Nat.lt_or_ge k' k with h'|h'
 ·exact⟨k',h',hh⟩
 ·have:k'=k:=by omega
  subst this
  exact absurd ⟨hh.1,hh.2.1⟩ h
theorem S2_yes{x:CatD}{hs:List Nd}{i k:Nat}(h1:Dp hs i k)(h2:TwoP hs i k)(a b c:Nat):S2 x hs i (k+1) a b c↔S2 x hs i k a b c\/∃xs,BtwP x hs k i xs/\arcN a b c∈xs:=by
 unfold S2
 constructor
 ·rintro(h|h|⟨k',hk,hh⟩)
  ·exact .inl (.inl h)
  ·exact .inl (.inr (.inl h))
  ·rcases Nat.lt_or_ge k' k with h'|h'
   ·exact .inl (.inr (.inr ⟨k',h',hh⟩))
   ·have:k'=k:=by omega
    subst this
    exact .inr hh.2.2
 ·rintro((h|h|⟨k',hk,hh⟩)|h)
  ·exact .inl h
  ·exact .inr (.inl h)
  ·exact .inr (.inr ⟨k',by omega,hh⟩)
  ·exact .inr (.inr ⟨k,by omega,h1,h2,h⟩)
theorem S2_all{x:CatD}{hs:List Nd}{i n:Nat}(hn:i<=n)(a b c:Nat):S2 x hs i n a b c↔S1 x hs (i+1) a b c:=by
 unfold S2 S1
 constructor
 ·rintro(⟨i',h1,h2⟩|h|⟨k',hk,h1,h2,xs,h3,h4⟩)
  ·exact⟨i',by omega,h2⟩
  ·exact⟨i,by omega,.inl h⟩
  ·exact⟨i,by omega,.inr ⟨k',xs,h1,h2,h3,h4⟩⟩
 ·rintro⟨i',h1,h2⟩
  rcases Nat.lt_or_ge i' i with h'|h'
  ·exact .inl ⟨i',h',h2⟩
  ·have:i'=i:=by omega
   subst this
   rcases h2 with h2|⟨k,xs,h3,h4,h5,h6⟩
   ·exact .inr (.inl h2)
   ·exact .inr (.inr ⟨k,by have:=Dp_lt h3;omega,h3,h4,xs,h5,h6⟩)
theorem Tb3.ch{F:Nat->Prop}{W W':World}{b:Nat}{S:Nat->Nat->Nat->Prop}(h:Tb3 W b S)(e:Ch F W W')(hF:¬F b):Tb3 W' b S:=by
 obtain⟨bs,T,h1,h2,h3⟩:=h
 exact⟨bs,T,h1,e.at h2 hF,h3⟩
structure OutP(x:CatD)(hs:List Nd)(ys:List ArcD)(B:Int):Prop where
 srt:ys.Pairwise fun a b=>SfA.key a<SfA.key b
 mem:∀e,e∈ys↔ArcIn x hs e/\SfA.key e<B
theorem OutP.to{x:CatD}{hs:List Nd}{ys:List ArcD}{B B':Int}(h:OutP x hs ys B)(e:∀e,ArcIn x hs e->(SfA.key e<B↔SfA.key e<B')):OutP x hs ys B':=⟨h.srt,fun a=>(h.mem a).trans ⟨fun k=>⟨k.1,(e a k.1).1 k.2⟩,fun k=>⟨k.1,(e a k.1).2 k.2⟩⟩⟩
theorem OutP.add{x:CatD}{hs:List Nd}{ys:List ArcD}{a:ArcD}{B:Int}(h:OutP x hs ys B)(ha:ArcIn x hs a)(hk:SfA.key a=B)(hl:hs.length<=100):OutP x hs (ys++[a]) (B+1):=by
 refine⟨List.pairwise_append.2 ⟨h.srt,List.pairwise_singleton _ _,fun y hy z hz=>?_⟩,fun e=>?_⟩
 ·rw[List.mem_singleton.1 hz,hk];exact((h.mem y).1 hy).2
 ·rw[List.mem_append,h.mem,List.mem_singleton]
  constructor
  ·rintro(⟨h1,h2⟩|rfl)
   ·exact⟨h1,by omega⟩
   ·exact⟨ha,by omega⟩
  ·rintro⟨h1,h2⟩
   rcases(by omega:SfA.key e<B\/B<=SfA.key e) with h'|h'
   ·exact .inl ⟨h1,h'⟩
   ·exact .inr (arcKey_inj (h1.Q hl) (ha.Q hl) (by omega))
theorem OutP.skip{x:CatD}{hs:List Nd}{ys:List ArcD}{a:ArcD}{B:Int}(h:OutP x hs ys B)(ha:¬ArcIn x hs a)(hq:SfA.Q a)(hk:SfA.key a=B)(hl:hs.length<=100):OutP x hs ys (B+1):=by
 refine h.to fun e he=>⟨fun h=>by omega,fun h'=>?_⟩
 rcases(by omega:SfA.key e<B\/B<=SfA.key e) with h''|h''
 ·exact h''
 ·exact absurd (arcKey_inj (he.Q hl) hq (by omega) ▸ he) ha
set_option maxRecDepth 20000 in
theorem c32{w:World}{v:CatV}{x:CatD}{t:Sl}{hs:List Nd}(h:CatM w v x)(hH:Hst w t hs)(hM:HMay x hs):
  Cw 32 #[cxV v,slV t] w fun r w'=>∃t' ys,r=slV t'/\ArcsP x hs ys/\OwS w' t' 3 (ys.flatMap aC)/\ys.length<=100000/\Ext w w'/\∀j∈blk t',w.heap.size<=j:=by
 have htn:=hH.n
 have hl100:=hM.len
 refine F32_ok v t w _ fun b1 w2 a2=>?_
 have e2:Ext w w2:=a2.ch _
 refine(c93 (hH.ext e2) (by omega)).use ?_
 rintro _ w4 ⟨td,rows,rfl,hsq,hgm,hMx,e4⟩
 have E4:Ext w w4:=e2.trans e4
 refine⟨td,rfl,fun b6 w7 a7=>?_⟩
 have p7:=a7.here
 have z4:=E4.size
 have hT0:=Tb3.new (n:=50000) rfl a7
 refine⟨fun m z W=>∃i:Nat,i<=hs.length/\m+i=hs.length/\z=(i:Int)/\Tb3 W b6 (S1 x hs i)/\Ext w4 W,⟨hs.length,0,Nat.zero_le _,rfl,rfl,hT0.iff fun a b c=>⟨fun h=>h.elim,fun⟨_,h,_⟩=>absurd h (Nat.not_lt_zero _)⟩,a7.ch _⟩,?_⟩
 rintro m _ W g ⟨i,hi,hm,rfl,hT,eW⟩
 unfold F32j1
 refine IfB.dec (fun hlt=>?_) fun hge=>?_
 ·have hi':i<hs.length:=by omega
  have gi:hs[i]? =some hs[i]:=List.getElem?_eq_getElem hi'
  generalize hs[i]=ni at gi
  have oi:=hM.ok i ni gi
  have hbi:(0:Int)<=(i:Int)/\(i:Int)<(t.n:Int):=⟨by omega,hlt⟩
  have hb100:(0:Int)<=(i:Int)/\(i:Int)<((100:Nat):Int):=⟨by omega,by omega⟩
  refine⟨fun m' z V=>∃(k:Nat)(la:Int),k<=i/\m'+k=i/\z=(la,(k:Int))/\((la= -1/\∀j n,j<k->hs[j]? =some n->n.v.1≠ni.v.1)\/∃(l:Nat)(nl:Nd),la=(l:Int)/\l<k/\hs[l]? =some nl/\nl.v.1=ni.v.1/\∀j n,l<j->j<k->hs[j]? =some n->n.v.1≠ni.v.1)/\Tb3 V b6 (S1 x hs i)/\Ext w4 V,
   ⟨i,0, -1,Nat.zero_le _,rfl,rfl,.inl ⟨rfl,fun j n hj=>absurd hj (Nat.not_lt_zero _)⟩,hT,eW⟩,?_⟩
  rintro m' _ V g' ⟨k,la,hk,hmk,rfl,hla,hTV,eV⟩
  unfold F32j2
  refine IfB.dec (fun hl2=>?_) fun hg2=>?_
  ·dsimp only at hl2
   have hk':k<hs.length:=by omega
   have gk:hs[k]? =some hs[k]:=List.getElem?_eq_getElem hk'
   generalize hs[k]=nk at gk
   have ed:=extDrew V
   have eD:Ext w4 V.drew:=eV.trans ed
   obtain⟨pa,oa,hpa,hca⟩:=(hH.ext (E4.trans eD)).at gk
   obtain⟨pb,ob,hpb,hcb⟩:=(hH.ext (E4.trans eD)).at gi
   refine⟨fun n W'=>W'=V.drew/\n=if nk.v.1=ni.v.1 then (k:Int) else la,⟨pa,oa,hpa,⟨by dsimp only;omega,by dsimp only;omega⟩,nk.v.1,by dsimp only;rw[Int.toNat_natCast];exact hca 0 _ rfl,pb,ob,hpb,hbi,ni.v.1,by rw[Int.toNat_natCast];exact hcb 0 _ rfl,IfB.intro (fun hq=>⟨rfl,rfl,?_⟩) fun hq=>⟨rfl,rfl,?_⟩⟩,?_⟩
   ·rw[if_pos (by simpa using hq)]
   ·rw[if_neg (by simpa using hq)]
   rintro n _ g2 ⟨rfl,rfl⟩
   refine⟨rfl,m'-1,by omega,k+1,_,by omega,by omega,by dsimp only;rw[wrap_of (by omega) (by omega)];rfl,?_,hTV.ext ed,eD⟩
   by_cases hq:nk.v.1=ni.v.1
   ·rw[if_pos hq]
    exact .inr ⟨k,nk,rfl,by omega,gk,hq,fun j n h1 h2=>by omega⟩
   ·rw[if_neg hq]
    rcases hla with ⟨h1,h2⟩|⟨l,nl,h1,h2,h3,h4,h5⟩
    ·refine .inl ⟨h1,fun j n hj hn=>?_⟩
     rcases Nat.lt_or_ge j k with h'|h'
     ·exact h2 j n h' hn
     ·have:j=k:=by omega
      subst this
      rw[gk] at hn;cases hn;exact hq
    ·refine .inr ⟨l,nl,h1,by omega,h3,h4,fun j n hj hj2 hn=>?_⟩
     rcases Nat.lt_or_ge j k with h'|h'
     ·exact h5 j n hj h' hn
     ·have:j=k:=by omega
      subst this
      rw[gk] at hn;cases hn;exact hq
  ·dsimp only at hg2
   have hki:k=i:=by omega
   subst hki
   refine⟨fun _ W'=>Tb3 W' b6 (S2 x hs k 0)/\Ext w4 W',?_,?_⟩
   ·refine IfB.dec (fun hl=>?_) fun hl=>?_
    ·dsimp only at hl
     rcases hla with ⟨h1,_⟩|⟨l,nl,rfl,h2,h3,h4,h5⟩
     ·omega
     refine⟨⟨by dsimp only;omega,by dsimp only;omega⟩,hb100,by decide,rfl,hTV.put (i:=l) (k:=k) (m:=1) (by omega) (by omega) (by omega) (by dsimp only;rw[Int.toNat_natCast,Int.toNat_natCast,Nat.zero_add];rfl) fun W' hT' hC'=>⟨rfl,hT'.iff fun a b c=>?_,eV.chN hC' fun j e=>by omega⟩⟩
     rw[S2_zero,arcN_own gi h2 h3 h4 h5]
    ·dsimp only at hl
     rcases hla with ⟨_,h2⟩|⟨l,nl,rfl,_⟩
     ·refine⟨rfl,hTV.iff fun a b c=>?_,eV⟩
      rw[S2_zero]
      exact⟨.inl,fun h=>h.elim id fun h=>absurd h (arcN_no gi h2 a b c)⟩
     ·omega
   rintro _ w37 g2 ⟨hT37,e37⟩
   refine⟨fun m' z V=>∃q:Nat,q<=hs.length/\m'+q=hs.length/\z=(q:Int)/\Tb3 V b6 (S2 x hs k q)/\Ext w4 V,⟨hs.length,0,Nat.zero_le _,rfl,rfl,hT37,e37⟩,?_⟩
   rintro m4 _ V4 g4 ⟨q,hq,hmq,rfl,hTq,eq4⟩
   unfold F32j4
   refine IfB.dec (fun hl4=>?_) fun hg4=>?_
   ·have hq':q<hs.length:=by omega
    have gq:hs[q]? =some hs[q]:=List.getElem?_eq_getElem hq'
    generalize hs[q]=nq at gq
    have oq:=hM.ok q nq gq
    have hbq:(0:Int)<=(q:Int)/\(q:Int)<(t.n:Int):=⟨by omega,hl4⟩
    have hq100:(0:Int)<=(q:Int)/\(q:Int)<((100:Nat):Int):=⟨by omega,by omega⟩
    have ed:=extDrew V4
    have eD:Ext w4 V4.drew:=eq4.trans ed
    obtain⟨pa,oa,hpa,hca⟩:=(hH.ext (E4.trans eD)).at gq
    obtain⟨pb,ob,hpb,hcb⟩:=(hH.ext (E4.trans eD)).at gi
    have hw:IntKind.i64.wrap ((q:Int)+1)=((q+1:Nat):Int):=by rw[wrap_of (by omega) (by omega)];rfl
    refine⟨pa,oa,hpa,hbq,nq.v.1,by rw[Int.toNat_natCast];exact hca 0 _ rfl,pb,ob,hpb,hbi,ni.v.1,by rw[Int.toNat_natCast];exact hcb 0 _ rfl,IfB.intro (fun hs1=>⟨rfl,m4-1,by omega,q+1,hq',by omega,hw,(hTq.ext ed).iff (S2_no fun hh=>?_),eD⟩) fun hs1=>?_⟩
    ·have hs1:nq.v.1=ni.v.1:=by simpa using hs1
     obtain⟨a',b',h1,h2,h3⟩:=hh.2
     rw[gi] at h1;rw[gq] at h2;cases h1;cases h2
     exact h3 hs1
    have hs1:nq.v.1≠ni.v.1:=by simpa using hs1
    have hMd:=hMx.ext eD
    obtain⟨rr,hrr,hrl,hrm⟩:=hsq.at hi'
    obtain⟨c1,hc1,hcell⟩:=hMd.slot hrr
    obtain⟨c2,hc2,hcell2⟩:=hMd.cell hrm (gM_get hrr (show q<rr.2.length by omega))
    have hrn:=hMd.rn hrm
    have htd:=hMd.n
    have hrl2:=hsq.1
    refine⟨c1,0,hc1,⟨by omega,by omega⟩,rr.1,by rw[Int.toNat_natCast,Nat.zero_add];exact hcell,c2,0,hc2,⟨by omega,by omega⟩,gM rows k q,by rw[Int.toNat_natCast,Nat.zero_add];exact hcell2,IfB.intro (fun hd=>⟨rfl,m4-1,by omega,q+1,hq',by omega,hw,(hTq.ext ed).iff (S2_no fun hh=>?_),eD⟩) fun hd=>?_⟩
    ·rw[(hgm k q).2 hh.1] at hd;cases hd
    have hd:Dp hs k q:=(hgm k q).1 (by simpa using hd)
    have h2P:TwoP hs k q:=⟨ni,nq,gi,gq,hs1⟩
    refine⟨hq100,hb100,by decide,rfl,(hTq.ext ed).put (i:=q) (k:=k) (m:=2) (by omega) (by omega) (by omega) (by rw[Int.toNat_natCast,Int.toNat_natCast,Nat.zero_add];rfl) fun w61 hT61 hC61=>?_⟩
    have e61:Ext w4 w61:=eD.chN hC61 fun j e=>by omega
    have hq61:Ch (fun _=>False) w4 w61:=e61
    refine⟨fun m5 z V=>∃(r:Nat)(fi en:Int),r<=hs.length/\m5+r=hs.length/\z=(fi,en,(r:Int))/\
     ((fi= -1/\∀j,j<r->¬InP x hs k j nq.v.2.1)\/∃f:Nat,fi=(f:Int)/\f<r/\InP x hs k f nq.v.2.1/\∀j,j<f->¬InP x hs k j nq.v.2.1)/\
     ((en= -1/\∀j,j<r->¬InP x hs q j ni.v.2.1)\/∃l:Nat,en=(l:Int)/\l<r/\InP x hs q l ni.v.2.1/\∀j,l<j->j<r->¬InP x hs q j ni.v.2.1)/\Tb3 V b6 (fun a b c=>S2 x hs k q a b c\/a=q/\b=k/\c=2)/\Ext w4 V,
     ⟨hs.length,0, -1, -1,Nat.zero_le _,rfl,rfl,.inl ⟨rfl,fun j hj=>absurd hj (Nat.not_lt_zero _)⟩,.inl ⟨rfl,fun j hj=>absurd hj (Nat.not_lt_zero _)⟩,hT61,e61⟩,?_⟩
    rintro m5 _ V5 g5 ⟨r,fi,en,hr,hmr,rfl,hfi,hen,hT5,e5⟩
    unfold F32j5
    refine IfB.dec (fun hl5=>?_) fun hg5=>?_
    ·dsimp only at hl5
     have hr':r<hs.length:=by omega
     have x27:∀ {U:World},Ext w4 U->Ext w2 U:=fun e=>e4.trans e
     refine⟨fun y W'=>(∃fi' en':Int,y=(fi',en')/\((fi'= -1/\∀j,j<r+1->¬InP x hs k j nq.v.2.1)\/∃f:Nat,fi'=(f:Int)/\f<r+1/\InP x hs k f nq.v.2.1/\∀j,j<f->¬InP x hs k j nq.v.2.1)/\
      ((en'= -1/\∀j,j<r+1->¬InP x hs q j ni.v.2.1)\/∃l:Nat,en'=(l:Int)/\l<r+1/\InP x hs q l ni.v.2.1/\∀j,l<j->j<r+1->¬InP x hs q j ni.v.2.1))/\Tb3 W' b6 (fun a b c=>S2 x hs k q a b c\/a=q/\b=k/\c=2)/\Ext w4 W',
      ⟨fun n W'=>((n= -1/\∀j,j<r+1->¬InP x hs q j ni.v.2.1)\/∃l:Nat,n=(l:Int)/\l<r+1/\InP x hs q l ni.v.2.1/\∀j,l<j->j<r+1->¬InP x hs q j ni.v.2.1)/\Tb3 W' b6 (fun a b c=>S2 x hs k q a b c\/a=q/\b=k/\c=2)/\Ext w4 W',?_,?_⟩,?_⟩
     ·have ed5:=extDrew V5
      have eD5:Ext w4 V5.drew:=e5.trans ed5
      obtain⟨pc,oc,hpc,hcc⟩:=(hH.ext (E4.trans eD5)).at gi
      refine⟨v,cxN h a2.new (x27 eD5),pc,oc,hpc,hbi,ni.v.2.1,by rw[Int.toNat_natCast];exact hcc 1 _ rfl,(c94 (h.ext (E4.trans eD5)) (hH.ext (E4.trans eD5)) hM hq' hr' ni.v.2.1).use ?_⟩
      rintro _ w78 ⟨rb,rfl,hrb,e78⟩
      have e5':Ext w4 w78:=eD5.trans e78
      refine⟨rb,rfl,IfB.intro (fun hh=>⟨rfl,.inr ⟨r,rfl,by omega,hrb.1 hh,fun j h1 h2=>by omega⟩,(hT5.ext ed5).ext e78,e5'⟩) fun hh=>⟨rfl,?_,(hT5.ext ed5).ext e78,e5'⟩⟩
      have hno:¬InP x hs q r ni.v.2.1:=fun h'=>by have hh:rb=false:=hh;rw[hrb.2 h'] at hh;cases hh
      have up:∀ {lo:Nat},(∀j,lo<=j->j<r->¬InP x hs q j ni.v.2.1)->∀j,lo<=j->j<r+1->¬InP x hs q j ni.v.2.1:=fun h0 j h1 h2=>by
       rcases Nat.lt_or_ge j r with h'|h'
       ·exact h0 j h1 h'
       ·have:j=r:=by omega
        subst this;exact hno
      rcases hen with ⟨h1,h2⟩|⟨l,h1,h2,h3,h4⟩
      ·exact .inl ⟨h1,fun j hj=>up (lo:=0) (fun j _=>h2 j) j (Nat.zero_le _) hj⟩
      ·exact .inr ⟨l,h1,by omega,h3,fun j hj=>up (lo:=l+1) (fun j h=>h4 j h) j hj⟩
     ·rintro en' w81 g6 ⟨hen',hT81,e81⟩
      unfold F32j6
      have ed6:=extDrew w81
      have eD6:Ext w4 w81.drew:=e81.trans ed6
      refine IfB.dec (fun hneg=>?_) fun hpos=>?_
      ·dsimp only at hneg
       obtain⟨h1,h2⟩:fi= -1/\∀j,j<r->¬InP x hs k j nq.v.2.1:=by
        rcases hfi with h'|⟨f,h',_⟩
        ·exact h'
        ·omega
       obtain⟨pc,oc,hpc,hcc⟩:=(hH.ext (E4.trans eD6)).at gq
       refine⟨v,cxN h a2.new (x27 eD6),pc,oc,hpc,hbq,nq.v.2.1,by rw[Int.toNat_natCast];exact hcc 1 _ rfl,(c94 (h.ext (E4.trans eD6)) (hH.ext (E4.trans eD6)) hM hi' hr' nq.v.2.1).use ?_⟩
       rintro _ w91 ⟨rb,rfl,hrb,e91⟩
       refine⟨rb,rfl,IfB.intro (fun hh=>⟨rfl,⟨(r:Int),en',rfl,.inr ⟨r,rfl,by omega,hrb.1 hh,h2⟩,hen'⟩,(hT81.ext ed6).ext e91,eD6.trans e91⟩) fun hh=>⟨rfl,⟨fi,en',rfl,.inl ⟨h1,fun j hj=>?_⟩,hen'⟩,(hT81.ext ed6).ext e91,eD6.trans e91⟩⟩
       rcases Nat.lt_or_ge j r with h'|h'
       ·exact h2 j h'
       ·have:j=r:=by omega
        subst this
        exact fun h'=>by have hh:rb=false:=hh;rw[hrb.2 h'] at hh;cases hh
      ·dsimp only at hpos
       refine⟨rfl,⟨fi,en',rfl,?_,hen'⟩,hT81.ext ed6,eD6⟩
       rcases hfi with ⟨h',_⟩|⟨f,h1,h2,h3,h4⟩
       ·omega
       ·exact .inr ⟨f,h1,by omega,h3,h4⟩
     ·rintro _ w94 g7 ⟨⟨fi',en',rfl,hfi',hen'⟩,hT94,e94⟩
      exact⟨rfl,m5-1,by omega,r+1,fi',en',hr',by omega,by dsimp only;rw[wrap_of (by omega) (by omega)];rfl,hfi',hen',hT94,e94⟩
    ·dsimp only at hg5
     have hrn':r=hs.length:=by omega
     subst hrn'
     obtain⟨f,rfl,hf1,hf2,hf3⟩:∃f:Nat,fi=(f:Int)/\f<hs.length/\InP x hs k f nq.v.2.1/\∀j,j<f->¬InP x hs k j nq.v.2.1:=by
      rcases hfi with ⟨_,h'⟩|h'
      ·exact absurd (InP.self x hs k _) (h' k hi')
      ·exact h'
     obtain⟨l,rfl,hl1,hl2,hl3⟩:∃l:Nat,en=(l:Int)/\l<hs.length/\InP x hs q l ni.v.2.1/\∀j,l<j->j<hs.length->¬InP x hs q j ni.v.2.1:=by
      rcases hen with ⟨_,h'⟩|h'
      ·exact absurd (InP.self x hs q _) (h' q hq')
      ·exact h'
     have hF:FstP x hs k nq.v.2.1 f:=⟨hf2,fun j hj=>Nat.le_of_not_lt fun h'=>hf3 j h' hj⟩
     have hL:LstP x hs q ni.v.2.1 l:=⟨hl2,fun j hj=>Nat.le_of_not_lt fun h'=>hl3 j h' (hj.lt hq') hj⟩
     refine⟨⟨by dsimp only;omega,by dsimp only;omega⟩,hb100,by decide,rfl,hT5.put (i:=l) (k:=k) (m:=3) (by omega) (by omega) (by omega) (by dsimp only;rw[Int.toNat_natCast,Int.toNat_natCast,Nat.zero_add];rfl) fun w98 hT98 hC98=>⟨hq100,⟨by dsimp only;omega,by dsimp only;omega⟩,by decide,rfl,hT98.put (i:=q) (k:=f) (m:=4) (by omega) (by omega) (by omega) (by dsimp only;rw[Int.toNat_natCast,Int.toNat_natCast,Nat.zero_add];rfl) fun w99 hT99 hC99=>⟨rfl,m4-1,by omega,q+1,hq',by omega,hw,hT99.iff fun a b c=>?_,(e5.chN hC98 fun j e=>by omega).chN hC99 fun j e=>by omega⟩⟩⟩
     rw[S2_yes hd h2P,arcN_btw gq gi hL hF]
     constructor
     ·rintro(((h'|h')|h')|h')
      ·exact .inl h'
      ·exact .inr (.inl h')
      ·exact .inr (.inr (.inl h'))
      ·exact .inr (.inr (.inr h'))
     ·rintro(h'|h'|h'|h')
      ·exact .inl (.inl (.inl h'))
      ·exact .inl (.inl (.inr h'))
      ·exact .inl (.inr h')
      ·exact .inr h'
   ·have hq':q=hs.length:=by omega
    subst hq'
    exact⟨rfl,m-1,by omega,k+1,hi',by omega,by rw[wrap_of (by omega) (by omega)];rfl,hTq.iff (S2_all (by omega)),eq4⟩
 ·have hi':i=hs.length:=by omega
  subst hi'
  have z7:w4.heap.size=b6:=p7.symm
  have eb:∀ {V V':World}{F:Nat->Prop},Ext w4 V->Ch F V V'->(∀j,F j->b6<j)->Ext w4 V':=fun e c hF=>e.chN c fun j hj=>by have:=hF j hj;omega
  refine⟨fun m z V=>∃(i:Nat)(so:Sl)(ys:List ArcD),i<=hs.length/\m+i=hs.length/\z=(so,(i:Int))/\OutP x hs ys ((i:Int)*1000000+1)/\OwS V so 3 (ys.flatMap aC)/\ys.length<=i*400/\(∀j∈blk so,b6<j)/\Tb3 V b6 (S1 x hs hs.length)/\Ext w4 V/\b6<V.heap.size,
   ⟨hs.length,0,⟨none,0,0⟩,[],Nat.zero_le _,rfl,rfl,⟨.nil,fun e=>⟨fun h=>(by cases h),fun⟨h1,h2⟩=>?_⟩⟩,.nil _ _,by simp,by simp[blk],hT,eW,?_⟩,?_⟩
  ·have:=h1.q;unfold SfA.key at h2;omega
  ·obtain⟨_,_,_,hb,_⟩:=hT
   exact heap_lt hb
  rintro m1 _ W1 g1 ⟨i,so,ys,hi1,hm1,rfl,hOut,hos,hyl,hbk,hT1,eW1,hbW⟩
  refine IfB.dec (fun hl1=>?_) fun hg1=>?_
  ·dsimp only at hl1
   refine⟨fun m z V=>∃(k:Nat)(so:Sl)(ys:List ArcD),k<=hs.length/\m+k=hs.length/\z=(so,(k:Int))/\OutP x hs ys ((i:Int)*1000000+(k:Int)*1000+1)/\OwS V so 3 (ys.flatMap aC)/\ys.length<=i*400+k*4/\(∀j∈blk so,b6<j)/\Tb3 V b6 (S1 x hs hs.length)/\Ext w4 V/\b6<V.heap.size,
    ⟨hs.length,0,so,ys,Nat.zero_le _,rfl,rfl,hOut.to fun e _=>by omega,hos,by omega,hbk,hT1,eW1,hbW⟩,?_⟩
   rintro m2 _ W2 g2 ⟨k,so2,ys2,hk2,hm2,rfl,hOut2,hos2,hyl2,hbk2,hT2,eW2,hbW2⟩
   unfold F32j8
   refine IfB.dec (fun hl2=>?_) fun hg2=>?_
   ·dsimp only at hl2
    refine⟨fun m z V=>∃(c:Nat)(so:Sl)(ys:List ArcD),1<=c/\c<=5/\m+c=5/\z=(so,(c:Int))/\OutP x hs ys ((i:Int)*1000000+(k:Int)*1000+(c:Int))/\OwS V so 3 (ys.flatMap aC)/\ys.length+1<=i*400+k*4+c/\(∀j∈blk so,b6<j)/\Tb3 V b6 (S1 x hs hs.length)/\Ext w4 V/\b6<V.heap.size,
     ⟨4,1,so2,ys2,by omega,by omega,rfl,rfl,hOut2,hos2,by omega,hbk2,hT2,eW2,hbW2⟩,?_⟩
    rintro m3 _ W3 g3 ⟨c,so3,ys3,hc1,hc5,hm3,rfl,hOut3,hos3,hyl3,hbk3,hT3,eW3,hbW3⟩
    unfold F32j9
    have hon:=owsN aC_len (by omega) hos3
    refine IfB.dec (fun hl3=>?_) fun hg3=>?_
    ·dsimp only at hl3
     obtain⟨tb',htc,hts⟩:=hT3.get (i:=i) (k:=k) (m:=c) (by omega) (by omega) (by omega) rfl
     have hQ:SfA.Q (arcN i k c):=⟨⟨by dsimp only;omega,by dsimp only;omega⟩,⟨by dsimp only;omega,by dsimp only;omega⟩,by dsimp only;omega,by dsimp only;omega⟩
     refine⟨fun s V=>∃ys:List ArcD,OutP x hs ys ((i:Int)*1000000+(k:Int)*1000+(c:Int)+1)/\OwS V s 3 (ys.flatMap aC)/\ys.length<=i*400+k*4+c/\(∀j∈blk s,b6<j)/\Tb3 V b6 (S1 x hs hs.length)/\Ext w4 V/\b6<V.heap.size,
      ⟨⟨by dsimp only;omega,by dsimp only;omega⟩,⟨by dsimp only;omega,by dsimp only;omega⟩,⟨by dsimp only;omega,by dsimp only;omega⟩,tb',by dsimp only;rw[Int.toNat_natCast,Int.toNat_natCast,Int.toNat_natCast,Nat.zero_add];exact htc,IfB.intro (fun ht=>⟨by decide,fun b125 w126 a126=>?_⟩) fun ht=>⟨rfl,ys3,hOut3.skip (a:=arcN i k c) (fun h'=>?_) hQ rfl hl100,hos3,by omega,hbk3,hT3,eW3,hbW3⟩⟩,?_⟩
     ·have e126:Ext W3 w126:=a126.ch _
      have z126:=a126.size
      refine(hos3.ext e126).lit (new:=aC (arcN i k c)) a126.new rfl (aC_one _) rfl rfl (by omega) (by decide) fun s' w' ho' hn' hC' hbk'=>⟨rfl,ys3++[arcN i k c],hOut3.add (hts.1 ht) rfl hl100,by rw[List.flatMap_append,List.flatMap_singleton];exact ho',by rw[List.length_append,List.length_singleton];omega,fun j hj=>?_,(hT3.ext e126).ch hC' fun hj=>by have:=hbk3 _ hj;omega,eb (eW3.trans e126) hC' hbk3,by have:=hC'.size;omega⟩
      rcases hbk' j hj with h'|h'
      ·exact hbk3 j h'
      ·omega
     ·have ht:tb'=false:=ht
      rw[hts.2 h'] at ht;cases ht
     rintro s130 w131 g4 ⟨ys4,hOut4,hos4,hyl4,hbk4,hT4,eW4,hbW4⟩
     have hcz:(i:Int)*1000000+(k:Int)*1000+(c:Int)+1=(i:Int)*1000000+(k:Int)*1000+((c+1:Nat):Int):=by omega
     rw[hcz] at hOut4
     exact⟨rfl,m3-1,by omega,c+1,s130,ys4,by omega,by omega,by omega,by dsimp only;rw[wrap_of (by omega) (by omega)];rfl,hOut4,hos4,by omega,hbk4,hT4,eW4,hbW4⟩
    ·dsimp only at hg3
     have hcc:c=5:=by omega
     subst hcc
     refine⟨rfl,m2-1,by omega,k+1,so3,ys3,by omega,by omega,by dsimp only;rw[wrap_of (by omega) (by omega)];rfl,hOut3.to fun e he=>?_,hos3,by omega,hbk3,hT3,eW3,hbW3⟩
     have:=he.q;unfold SfA.key;omega
   ·dsimp only at hg2
    have hkk:k=hs.length:=by omega
    subst hkk
    refine⟨rfl,m1-1,by omega,i+1,so2,ys2,by omega,by omega,by dsimp only;rw[wrap_of (by omega) (by omega)];rfl,hOut2.to fun e he=>?_,hos2,by omega,hbk2,hT2,eW2,hbW2⟩
    have:=he.q;unfold SfA.key;omega
  ·dsimp only at hg1
   have hii:i=hs.length:=by omega
   subst hii
   refine⟨so,ys,rfl,⟨hOut.srt,fun _ e=>(hOut.mem e).trans ⟨fun h=>h.1,fun h=>⟨h,?_⟩⟩,fun hno=>absurd hM hno⟩,hos,by omega,E4.trans eW1,fun j hj=>by have:=hbk j hj;omega⟩
   have:=h.q;unfold SfA.key;omega
def F100j5(t1:Sl)(b3:Nat)(n47:Int)(y51:Nat->Int->World->Prop)(b53:Nat)(n54:Int)(y58:Nat->Int->World->Prop)(b60:Nat)(n61:Int)(w62:World):Prop:=IfB (decide (n61<(t1.n:Int))) (Qx (some ⟨b3,0,none⟩) n54 ((((t1.2:Int)).toNat:Nat):Int) fun b65 b66=>Qs w62 b65 (b66+n54.toNat) fun s67=>Qx s67.1 n47 (s67.2:Int) fun b68 b69=>Qb w62 b68 (b69+n47.toNat) fun t70=>IfB t70 (Qx (some ⟨b3,0,none⟩) n47 ((((t1.2:Int)).toNat:Nat):Int) fun b71 b72=>Qs w62 b71 (b72+n47.toNat) fun s73=>Qx s73.1 n61 (s73.2:Int) fun b74 b75=>Qb w62 b74 (b75+n61.toNat) fun t76=>IfB t76 (Qx (some ⟨b3,0,none⟩) n54 ((((t1.2:Int)).toNat:Nat):Int) fun b77 b78=>Qs w62 b77 (b78+n54.toNat) fun s79=>Qx s79.1 n61 (s79.2:Int) fun b80 b81=>#[Value.bool true].size=1/\StoreP w62 b80 (b81+n61.toNat) [Value.bool true] fun w82=>Qn y58 b60 (IntKind.i64.wrap (n61+1)) w82) (Qn y58 b60 (IntKind.i64.wrap (n61+1)) w62)) (Qn y58 b60 (IntKind.i64.wrap (n61+1)) w62)) (Qn y51 b53 (IntKind.i64.wrap (n54+1)) w62)
def F100j3(t1:Sl)(R:RV)(b3:Nat)(y44:Nat->Int->World->Prop)(b46:Nat)(n47:Int)(w48:World):Prop:=IfB (decide (n47<(t1.n:Int))) (Ql (α:=Int) 0 w48 fun y51 b53 n54 w55=>IfB (decide (n54<(t1.n:Int))) (Ql (α:=Int) 0 w55 fun y58 b60 n61 w62=>(F100j5 t1 b3 n47 y51 b53 n54 y58 b60 n61 w62)) (Qn y44 b46 (IntKind.i64.wrap (n47+1)) w55)) (R (Value.slice (some ⟨b3,0,none⟩) ((t1.2:Int)).toNat ((t1.2:Int)).toNat) w48)
def F100j2(t1:Sl)(R:RV)(b3:Nat)(s23:Sl)(y24:Nat->Int->World->Prop)(b26:Nat)(n27:Int)(w28:World):Prop:=IfB (decide (n27<(s23.n:Int))) (Qx s23.1 n27 (s23.2:Int) fun b31 b32=>Qi w28.drew b31 (b32+n27.toNat*3+0) fun n33=>Qx (some ⟨b3,0,none⟩) n33 ((((t1.2:Int)).toNat:Nat):Int) fun b34 b35=>Qs w28.drew b34 (b35+n33.toNat) fun s36=>Qx s23.1 n27 (s23.2:Int) fun b37 b38=>Qi w28.drew b37 (b38+n27.toNat*3+1) fun n39=>Qx s36.1 n39 (s36.2:Int) fun b40 b41=>#[Value.bool true].size=1/\StoreP w28.drew b40 (b41+n39.toNat) [Value.bool true] fun w42=>Qn y24 b26 (IntKind.i64.wrap (n27+1)) w42) (Ql (α:=Int) 0 w28 fun y44 b46 n47 w48=>(F100j3 t1 R b3 y44 b46 n47 w48))
def F100j1(t1:Sl)(R:RV)(b1:Nat)(b3:Nat)(y5:Nat->Int->World->Prop)(b7:Nat)(n8:Int)(w9:World):Prop:=IfB (decide (n8<(t1.n:Int))) ((0<=(t1.2:Int)/\(t1.2:Int)<=(t1.2:Int)/\(t1.2:Int)<=281474976710656/\((1:Nat):Int)*(t1.2:Int)<=281474976710656)/\AllocP w9 (Obj.cells { toList:=zc #[Value.bool false] ((t1.2:Int)).toNat } 4) fun b12 w13=>Qx (some ⟨b3,0,none⟩) n8 ((((t1.2:Int)).toNat:Nat):Int) fun b14 b15=>#[Value.slice (some ⟨b12,0,none⟩) ((t1.2:Int)).toNat ((t1.2:Int)).toNat].size=1/\StoreP w13 b14 (b15+n8.toNat) [Value.slice (some ⟨b12,0,none⟩) ((t1.2:Int)).toNat ((t1.2:Int)).toNat] fun w16=>Qn y5 b7 (IntKind.i64.wrap (n8+1)) w16) (∃(x18:Sl×List Value),CellsN w9 b1 0 17 (Qy x18.fst::x18.2)/\Qu' 32 #[Value.agg { toList:=Qy x18.fst::x18.2 },Qy t1] w9 fun s23 w22=>Ql (α:=Int) 0 w22 fun y24 b26 n27 w28=>(F100j2 t1 R b3 s23 y24 b26 n27 w28))
theorem F100_ok(t0:Sl×List Value)(t1:Sl)(w:World)(R:RV)(h:AllocP w (Obj.cells { toList:=Qy t0.fst::t0.2 } 26) fun b1 w2=>(0<=(t1.2:Int)/\(t1.2:Int)<=(t1.2:Int)/\(t1.2:Int)<=281474976710656/\((24:Nat):Int)*(t1.2:Int)<=281474976710656)/\AllocP w2 (Obj.cells { toList:=zc #[Value.slice none 0 0] ((t1.2:Int)).toNat } 70) fun b3 w4=>Ql (α:=Int) 0 w4 fun y5 b7 n8 w9=>(F100j1 t1 R b1 b3 y5 b7 n8 w9)):Cw 100 #[Value.agg { toList:=Qy t0.fst::t0.2 },Qy t1] w R:=
 ckF Tryz.func100 (nd (nd (nd (.node (nd (.loop [(7,oi)] (rg [7,7,17,26]) .nil)) (nd (.node (nd (.loop [(9,oi)] (rg [9,9,30,49]) (nd (.node (.draw (sts [0,1,2,3,4,5,6,7,8,9,10,11,12,13] (.ac 14 [] .fin .non))) .nil)))) (.node (nd (.loop [(10,oi)] (rg [10,12,50,86]) (nd (.node (nd (.loop [(11,oi)] (rg [11,12,55,86]) (nd (.node (nd (.loop [(12,oi)] (rg [12,12,60,86]) .nil)) .nil)))) .nil)))) .nil))))))) h (by kernel_rfl) (by kernel_rfl)
def F39j1(t1:Sl)(R:RV)(s8:Sl)(y9:Nat->Sl×Int->World->Prop)(b11:Nat)(x12:Sl×Int)(w13:World):Prop:=IfB (decide (x12.snd<(t1.n:Int))) (Qx s8.1 x12.2 (s8.2:Int) fun b16 b17=>Qs w13 b16 (b17+x12.2.toNat) fun s18=>Qx s18.1 x12.2 (s18.2:Int) fun b19 b20=>Qb w13 b19 (b20+x12.2.toNat) fun t21=>IfB t21 (1*1<=16777216/\AllocP w13 (Obj.cells #[Qz x12.2] 3) fun b22 w23=>∃(l24:List Value),ReadC w23 (some ⟨b22,0,none⟩) (1*1) l24/\AppendP tt3 3 w23 x12.fst.1 x12.fst.2 x12.fst.3 1 l24 fun s25 w26=>Qn y9 b11 ({ p:=s25.1,n:=s25.2,c:=s25.3 },IntKind.i64.wrap (x12.2+1)) w26) (Qn y9 b11 ({ p:=x12.fst.1,n:=x12.fst.2,c:=x12.fst.3 },IntKind.i64.wrap (x12.2+1)) w13)) (R (Qy x12.fst) w13)
theorem F39_ok(t0:Sl×List Value)(t1:Sl)(w:World)(R:RV)(h:AllocP w (Obj.cells { toList:=Qy t0.fst::t0.2 } 26) fun b1 w2=>∃(x3:Sl×List Value),CellsN w2 b1 0 17 (Qy x3.fst::x3.2)/\Qu' 100 #[Value.agg { toList:=Qy x3.fst::x3.2 },Qy t1] w2 fun s8 w7=>Ql (α:=Sl×Int) ({ p:=none,n:=0,c:=0 },0) w7 fun y9 b11 x12 w13=>(F39j1 t1 R s8 y9 b11 x12 w13)):Cw 39 #[Value.agg { toList:=Qy t0.fst::t0.2 },Qy t1] w R:=
 ckF Tryz.func39 (nd (nd (nd (.node (nd (.loop [(6,.one (.sl)),(7,oi)] (rg [6,7,11,27]) .nil)) .nil)))) h (by kernel_rfl) (by kernel_rfl)
theorem F33_ok(t0:Sl×List Value)(t1:Sl)(w:World)(R:RV)(h:AllocP w (Obj.cells { toList:=Qy t0.fst::t0.2 } 26) fun b1 w2=>∃(x3:Sl×List Value),CellsN w2 b1 0 17 (Qy x3.fst::x3.2)/\Qv' 31 #[Value.agg { toList:=Qy x3.fst::x3.2 },Qy t1] w2 fun t8 w7=>IfB t8 (∃(x9:Sl×List Value),CellsN w7 b1 0 17 (Qy x9.fst::x9.2)/\Qu' 39 #[Value.agg { toList:=Qy x9.fst::x9.2 },Qy t1] w7 fun s14 w13=>R (Value.bool ((s14.2:Int) == 0)) w13) (R (Value.bool false) w7)):Cw 33 #[Value.agg { toList:=Qy t0.fst::t0.2 },Qy t1] w R:=
 ckF Tryz.func33 .nil h (by kernel_rfl) (by kernel_rfl)
structure FwE(E:Nat->Nat->Prop)(n m i k:Nat)(rows:List MxR):Prop where
 lo:∀a b,Fw E m a b->gM rows a b=true
 hi:∀a b,gM rows a b=true->TC E a b
 done:∀a b,b<n->(a<i\/(a=i/\b<k))->Fw E (m+1) a b->gM rows a b=true
theorem FwE.next{E:Nat->Nat->Prop}{n m i k:Nat}{rows rows':List MxR}(h:FwE E n m i k rows)(hle:∀a b,gM rows a b=true->gM rows' a b=true)(hup:∀a b,gM rows' a b=true->TC E a b)
  (hik:Fw E (m+1) i k->gM rows' i k=true):FwE E n m i (k+1) rows':=
 ⟨fun a b hab=>hle a b (h.lo a b hab),hup,fun a b hb hab hF=>by
  by_cases he:a=i/\b=k
  ·obtain⟨rfl,rfl⟩:=he;exact hik hF
  ·exact hle a b (h.done a b hb (by omega) hF)⟩
theorem FwE.row{E:Nat->Nat->Prop}{n m i:Nat}{rows:List MxR}(h:FwE E n m i n rows):FwE E n m (i+1) 0 rows:=
 ⟨h.lo,h.hi,fun a b hb hab hF=>h.done a b hb (by omega) hF⟩
theorem tc_lt{E:Nat->Nat->Prop}{n:Nat}(hE:∀a b,E a b->a<n/\b<n){a b:Nat}(h:TC E a b):a<n/\b<n:=by
 induction h with
 | one e=>exact hE _ _ e
 | more _ e ih=>exact⟨ih.1,(hE _ _ e).2⟩
theorem FwE.stage{E:Nat->Nat->Prop}{n m:Nat}{rows:List MxR}(hE:∀a b,E a b->a<n/\b<n)(h:FwE E n m n 0 rows):FwE E n (m+1) 0 0 rows:=
 ⟨fun a b hab=>h.done a b (tc_lt hE (Fw_tc hab)).2 (.inl (tc_lt hE (Fw_tc hab)).1) hab,h.hi,fun a b _ hab=>by omega⟩
theorem c100{w:World}{v:CatV}{x:CatD}{t:Sl}{hs:List Nd}(h:CatM w v x)(hH:Hst w t hs)(hY:HMay x hs):
  Cw 100 #[cxV v,slV t] w fun r w'=>∃t' rows ys,r=slV t'/\ArcsP x hs ys/\Sqr hs.length rows/\(∀i k,gM rows i k=true↔TC (ArcE x hs) i k)/\Mx w' w.heap.size t' rows/\Ext w w':=by
 have hn:=hH.n
 have hl100:=hY.len
 refine F100_ok v t w _ fun b1 w2 a2=>⟨⟨by omega,by omega,by omega,by omega⟩,fun b3 w4 a4=>?_⟩
 have e2:Ext w w2:=a2.ch _
 have e4:Ext w2 w4:=a4.ch _
 have p2:=a2.here;have z2:=a2.size;have p4:=a4.here;have z4:=a4.size
 rw[Int.toNat_natCast,zc_all (v:=Value.slice none 0 0) (by intro x hx;simpa using hx),hn] at a4
 obtain⟨ts,hts⟩:∃ts:Sl,ts=⟨some ⟨b3,0,none⟩,hs.length,hs.length⟩:=⟨_,rfl⟩
 have hM0:Mx w4 w.heap.size ts (List.replicate hs.length (⟨none,0,0⟩,[])):=by
  have hmem:∀r∈List.replicate hs.length ((⟨none,0,0⟩,[]):MxR),r=(⟨none,0,0⟩,[]):=fun r hr=>(List.mem_replicate.1 hr).2
  refine⟨?_,fun r hr=>?_,fun r hr=>?_,fun a b r s _ hr _=>?_,fun j hj=>?_,fun r hr=>?_⟩
  ·rw[hts]
   refine OwS.new (w:=w2) (T:=70) ?_ (by simp)
   rw[List.map_replicate]
   simpa using a4
  ·rw[hmem r hr];exact .nil _ _
  ·rw[hmem r hr];simp[blk]
  ·rw[hmem r (List.mem_of_getElem? hr)];simp[blk]
  ·rw[hts] at hj;simp[blk] at hj;omega
  ·rw[hmem r hr];simp[blk]
 have hslot:∀ {i:Nat},i<hs.length->(0:Int)<=(i:Int)/\(i:Int)<((((t.2:Int)).toNat:Nat):Int):=fun{i} h=>⟨by omega,by omega⟩
 have w1:∀ {i:Nat},i<hs.length->IntKind.i64.wrap ((i:Int)+1)=((i+1:Nat):Int):=fun{i} h=>by rw[wrap_of (by omega) (by omega)];rfl
 have hb1:ts.p=some ⟨b3,0,none⟩:=by rw[hts]
 have slot:∀ {W:World}{rows:List MxR}{i:Nat}{r:MxR},Mx W w.heap.size ts rows->rows[i]? =some r->W.cell? ⟨b3,0+(i:Int).toNat,none⟩=some (slV r.1):=fun{W rows i r} hM hr=>by
  obtain⟨b,hp,hc⟩:=hM.slot hr
  rw[hb1] at hp;cases hp
  rw[Int.toNat_natCast,Nat.zero_add];exact hc
 refine⟨fun m z W=>∃(i:Nat)(rows:List MxR),i<=hs.length/\m+i=hs.length/\z=(i:Int)/\rows.length=hs.length/\(∀a r,rows[a]? =some r->r.2.length=if a<i then hs.length else 0)/\(∀a b,gM rows a b=false)/\Mx W w.heap.size ts rows/\Ext w2 W,
  ⟨hs.length,0,List.replicate hs.length (⟨none,0,0⟩,[]),Nat.zero_le _,rfl,rfl,by simp,fun a r hr=>?_,fun a b=>?_,hM0,e4⟩,?_⟩
 ·rw[(List.mem_replicate.1 (List.mem_of_getElem? hr)).2];rfl
 ·unfold gM
  rw[List.getElem?_replicate]
  split
  ·rename_i r hr
   split at hr
   ·cases hr;simp
   ·cases hr
  ·rfl
 rintro m _ W g ⟨i,rows,hi,hmi,rfl,hrl,hrw,hg,hM,hE⟩
 unfold F100j1
 have zE:=(e2.trans hE).size
 refine IfB.dec (fun hlt=>?_) fun hge=>?_
 ·have hi':i<hs.length:=by omega
  refine⟨⟨by omega,by omega,by omega,by omega⟩,fun b12 w13 a12=>?_⟩
  have p12:=a12.here;have z12:=a12.size
  have e12:Ext W w13:=a12.ch _
  rw[Int.toNat_natCast,zc_all (v:=Value.bool false) (by intro x hx;simpa using hx),hn] at a12
  have hrow:OwS w13 ⟨some ⟨b12,0,none⟩,hs.length,hs.length⟩ 1 (bvs (List.replicate hs.length false)):=by
   refine OwS.new (w:=W) (T:=4) ?_ (by simp)
   rw[show bvs (List.replicate hs.length false)=List.replicate hs.length (Value.bool false) from List.map_replicate]
   simpa using a12
  refine⟨b3,0,rfl,hslot hi',rfl,?_⟩
  rw[Int.toNat_natCast,Int.toNat_natCast,hn]
  have hM13:=hM.ext e12
  have hbk:∀j∈blk (⟨some ⟨b12,0,none⟩,hs.length,hs.length⟩:Sl),j=b12:=fun j hj=>by simpa [blk] using hj
  refine hM13.row' (by omega) hrow (fun j hj=>by have:=hbk j hj;omega) (fun j hj h=>by have:=hbk j hj;have:=hM.own.lt j h;omega) (fun r hr j hj h=>by have:=hbk j hj;have:=(hM.row r hr).lt j h;omega) hb1 fun w16 hM16 hC16=>?_
  refine⟨rfl,m-1,by omega,i+1,_,hi',by omega,w1 hi',by rw[List.length_set];exact hrl,fun a r hr=>?_,fun a b=>?_,hM16,(hE.trans e12).chN hC16 fun j e=>by omega⟩
  ·rw[List.getElem?_set] at hr
   by_cases hia:i=a
   ·subst hia
    rw[if_pos rfl,if_pos (by omega)] at hr
    cases hr
    rw[if_pos (by omega)];exact List.length_replicate
   ·rw[if_neg hia] at hr
    rw[hrw a r hr]
    by_cases h:a<i
    ·rw[if_pos h,if_pos (by omega)]
    ·rw[if_neg h,if_neg (by omega)]
  ·rw[gM_row (by omega)]
   split
   ·rfl
   ·exact hg a b
 ·have hi':i=hs.length:=by omega
  subst hi'
  have hsq:Sqr hs.length rows:=⟨hrl,fun r hr=>by
   obtain⟨a,ha,e⟩:=List.getElem_of_mem hr
   have:=hrw a r (by rw[List.getElem?_eq_getElem ha,e])
   rwa [if_pos (by omega)] at this⟩
  refine⟨v,cxN h a2.new hE,(c32 (h.ext (e2.trans hE)) (hH.ext (e2.trans hE)) hY).use ?_⟩
  rintro _ w22 ⟨s23,ys,rfl,hA,ho,hyl,e22,hbs⟩
  have hsn:=owsN aC_len (by omega) ho
  have E22:Ext w w22:=(e2.trans hE).trans e22
  have z22:=E22.size
  have hold:∀r∈rows,∀j∈blk r.1,j<W.heap.size:=fun r hr j hj=>(hM.row r hr).lt j hj
  refine⟨s23,rfl,fun m z V=>∃(q:Nat)(rows:List MxR),q<=ys.length/\m+q=ys.length/\z=(q:Int)/\Sqr hs.length rows/\(∀a b,gM rows a b=true↔ArE (ys.take q) a b)/\(∀r∈rows,∀j∈blk r.1,j<W.heap.size)/\Mx V w.heap.size ts rows/\Ch (fun j=>w.heap.size<=j/\j<W.heap.size) w22 V,
   ⟨ys.length,0,rows,Nat.zero_le _,rfl,rfl,hsq,fun a b=>⟨fun h=>(by rw[hg] at h;cases h),fun⟨c,h⟩=>(by simp at h)⟩,hold,hM.ext e22,Ch.refl _ _⟩,?_⟩
  rintro m _ V g ⟨q,rows2,hq,hmq,rfl,hsq2,hg2,hold2,hM2,hC2⟩
  have hE2:Ext w V:=E22.chN hC2 fun j hj=>hj.1
  unfold F100j2
  refine IfB.dec (fun hlt=>?_) fun hge=>?_
  ·have hq':q<ys.length:=by omega
   have hx:ys[q]? =some ys[q]:=List.getElem?_eq_getElem hq'
   have hxm:ys[q]∈ys:=List.getElem_mem hq'
   have htk:=take_succ_get hx
   generalize ys[q]=e at hx hxm htk
   obtain⟨a,b,h1,h2,ha,hb,_⟩:=arc_of hY hA hxm
   obtain⟨e1,f1,c⟩:=e
   dsimp only at h1 h2
   subst h1;subst h2
   have ed:=extDrew V
   have hMd:=hM2.ext ed
   have hRd:=(ho.rd.ch hC2 fun j hj hF=>by have:=hbs j hj;omega).ext ed
   obtain⟨pb,po,hpp,hcc⟩:=hRd.elem (i:=q) (by omega) (by omega) (flatGet aC_len hx)
   obtain⟨ra,hra,hral,hram⟩:=hsq2.at ha
   obtain⟨bb,hpb,_⟩:=hMd.cell hram (gM_get hra (k:=b) (by omega))
   have hrn:=hMd.rn hram
   have hbq:(0:Int)<=(q:Int)/\(q:Int)<(s23.n:Int):=⟨by omega,hlt⟩
   refine⟨pb,po,hpp,hbq,(a:Int),by rw[Int.toNat_natCast];exact hcc 0 _ rfl,b3,0,rfl,hslot ha,ra.1,slot hMd hra,pb,po,hpp,hbq,(b:Int),by rw[Int.toNat_natCast];exact hcc 1 _ rfl,bb,0,hpb,⟨by omega,by omega⟩,rfl,?_⟩
   rw[Int.toNat_natCast]
   refine hMd.put hra (by omega) hpb fun w' hM' hC'=>⟨rfl,m-1,by omega,q+1,_,hq',by omega,by rw[wrap_of (by omega) (by omega)];rfl,hsq2.set hra _,fun i k=>?_,fun r hr j hj=>?_,hM',(hC2.trans (ed.mono fun _ _ h=>h.elim)).trans (hC'.mono fun j _ e=>⟨hMd.rnew ra hram j (by simp[blk,hpb,e]),hold2 ra hram j (by simp[blk,hpb,e])⟩)⟩
   ·rw[gM_set hra (by omega),htk]
    unfold ArE at hg2 ⊢
    constructor
    ·intro h
     split at h
     ·rename_i hab
      obtain⟨rfl,rfl⟩:=hab
      exact⟨c,by simp⟩
     ·obtain⟨c',hc'⟩:=(hg2 i k).1 h
      exact⟨c',List.mem_append.2 (.inl hc')⟩
    ·rintro⟨c',hc'⟩
     split
     ·rfl
     ·rename_i hab
      rcases List.mem_append.1 hc' with h'|h'
      ·exact(hg2 i k).2 ⟨c',h'⟩
      ·have:=List.mem_singleton.1 h'
       simp only[Prod.mk.injEq] at this
       exact absurd ⟨by omega,by omega⟩ hab
   ·rcases mem_set hr with rfl|⟨a',_,ha'⟩
    ·exact hold2 ra hram j hj
    ·exact hold2 r (List.mem_of_getElem? ha') j hj
  ·have hq':q=ys.length:=by omega
   subst hq'
   rw[List.take_length] at hg2
   have hEE:∀a b,ArcE x hs a b->a<hs.length/\b<hs.length:=fun a b h=>h.lt
   have hF0:FwE (ArcE x hs) hs.length 0 0 0 rows2:=⟨fun a b h=>(hg2 a b).2 ((hA.are hY a b).2 h),fun a b h=>.one ((hA.are hY a b).1 ((hg2 a b).1 h)),fun a b _ hab=>by omega⟩
   refine⟨fun n z W'=>∃(m:Nat)(rows:List MxR),m<=hs.length/\n+m=hs.length/\z=(m:Int)/\Sqr hs.length rows/\FwE (ArcE x hs) hs.length m 0 0 rows/\Mx W' w.heap.size ts rows/\Ext w W',⟨hs.length,0,rows2,Nat.zero_le _,rfl,rfl,hsq2,hF0,hM2,hE2⟩,?_⟩
   rintro n _ w53 g ⟨m,rows3,hm,hnm,rfl,hsq3,hF3,hM3,hE3⟩
   unfold F100j3
   have hst:∀ {i:Nat},i<hs.length->(0:Int)<=(i:Int)/\(i:Int)<(t.n:Int):=fun{i} h=>⟨by omega,by omega⟩
   refine IfB.dec (fun hlt=>?_) fun hge=>?_
   ·have hm':m<hs.length:=by omega
    refine⟨fun q z W'=>∃(i:Nat)(rows:List MxR),i<=hs.length/\q+i=hs.length/\z=(i:Int)/\Sqr hs.length rows/\FwE (ArcE x hs) hs.length m i 0 rows/\Mx W' w.heap.size ts rows/\Ext w W',⟨hs.length,0,rows3,Nat.zero_le _,rfl,rfl,hsq3,hF3,hM3,hE3⟩,?_⟩
    rintro q _ w60 g ⟨i,rows4,hi,hqi,rfl,hsq4,hF4,hM4,hE4⟩
    refine IfB.dec (fun hlt2=>?_) fun hge2=>?_
    ·have hi':i<hs.length:=by omega
     refine⟨fun s z W'=>∃(k:Nat)(rows:List MxR),k<=hs.length/\s+k=hs.length/\z=(k:Int)/\Sqr hs.length rows/\FwE (ArcE x hs) hs.length m i k rows/\Mx W' w.heap.size ts rows/\Ext w W',⟨hs.length,0,rows4,Nat.zero_le _,rfl,rfl,hsq4,hF4,hM4,hE4⟩,?_⟩
     rintro s _ w67 g ⟨k,rows5,hk,hsk,rfl,hsq5,hF5,hM5,hE5⟩
     unfold F100j5
     refine IfB.dec (fun hlt3=>?_) fun hge3=>?_
     ·have hk':k<hs.length:=by omega
      obtain⟨ri,hri,hril,hrim⟩:=hsq5.at hi'
      obtain⟨rm,hrm,hrml,hrmm⟩:=hsq5.at hm'
      have hin:=hM5.rn hrim
      have hmn:=hM5.rn hrmm
      obtain⟨c1,hp1,hc1⟩:=hM5.cell hrim (gM_get hri (k:=m) (by omega))
      obtain⟨c2,hp2,hc2⟩:=hM5.cell hrmm (gM_get hrm (k:=k) (by omega))
      have stay:(Fw (ArcE x hs) (m+1) i k->gM rows5 i k=true)->∃b90,b90<s/\∃(k':Nat)(rows:List MxR),k'<=hs.length/\b90+k'=hs.length/\IntKind.i64.wrap ((k:Int)+1)=(k':Int)/\Sqr hs.length rows/\FwE (ArcE x hs) hs.length m i k' rows/\Mx w67 w.heap.size ts rows/\Ext w w67:=fun h=>
       ⟨s-1,by omega,k+1,rows5,hk',by omega,w1 hk',hsq5,hF5.next (fun _ _ h=>h) hF5.hi h,hM5,hE5⟩
      refine⟨b3,0,rfl,hslot hi',ri.1,slot hM5 hri,c1,0,hp1,⟨by omega,by show (m:Int)<(ri.1.n:Int);omega⟩,gM rows5 i m,by rw[Int.toNat_natCast,Nat.zero_add];exact hc1,IfB.intro (fun h1=>?_) fun h1=>⟨rfl,stay fun hF=>?_⟩⟩
      ·refine⟨b3,0,rfl,hslot hm',rm.1,slot hM5 hrm,c2,0,hp2,⟨by omega,by show (k:Int)<(rm.1.n:Int);omega⟩,gM rows5 m k,by rw[Int.toNat_natCast,Nat.zero_add];exact hc2,IfB.intro (fun h2=>?_) fun h2=>⟨rfl,stay fun hF=>?_⟩⟩
       ·refine⟨b3,0,rfl,hslot hi',ri.1,slot hM5 hri,c1,0,hp1,⟨by omega,by show (k:Int)<(ri.1.n:Int);omega⟩,rfl,?_⟩
        rw[Int.toNat_natCast]
        have hup:=(hF5.hi _ _ h1).trans (hF5.hi _ _ h2)
        have hset:=gM_set hri (k:=k) (by omega) true
        refine hM5.put hri (by omega) hp1 fun w' hM' hC'=>⟨rfl,s-1,by omega,k+1,_,hk',by omega,w1 hk',hsq5.set hri _,hF5.next (fun a b h=>?_) (fun a b h=>?_) (fun _=>?_),hM',hE5.chN hC' fun j e=>hM5.rnew ri hrim j (by simp[blk,hp1,e])⟩
        ·rw[hset];split
         ·rfl
         ·exact h
        ·rw[hset] at h
         split at h
         ·rename_i hab;rw[hab.1,hab.2];exact hup
         ·exact hF5.hi a b h
        ·rw[hset,if_pos ⟨rfl,rfl⟩]
       ·rcases hF with hF|hF
        ·exact hF5.lo _ _ hF
        ·rw[hF5.lo _ _ hF.2] at h2;cases h2
      ·rcases hF with hF|hF
       ·exact hF5.lo _ _ hF
       ·rw[hF5.lo _ _ hF.1] at h1;cases h1
     ·have hk':k=hs.length:=by omega
      subst hk'
      exact⟨rfl,q-1,by omega,i+1,rows5,hi',by omega,w1 hi',hsq5,hF5.row,hM5,hE5⟩
    ·have hi':i=hs.length:=by omega
     subst hi'
     exact⟨rfl,n-1,by omega,m+1,rows4,hm',by omega,w1 hm',hsq4,hF4.stage hEE,hM4,hE4⟩
   ·have hm':m=hs.length:=by omega
    subst hm'
    refine⟨ts,rows3,ys,?_,hA,hsq3,fun a b=>⟨hF3.hi a b,fun h=>hF3.lo a b ((Fw_iff fun a b h=>(hEE a b h).2).2 h)⟩,hM3,hE3⟩
    rw[hts,Int.toNat_natCast,hn]
theorem c39{w:World}{v:CatV}{x:CatD}{t:Sl}{hs:List Nd}(h:CatM w v x)(hH:Hst w t hs)(hY:HMay x hs):
  Cw 39 #[cxV v,slV t] w fun r w'=>∃(t':Sl)(ys:List ArcD)(os:List Nat),r=slV t'/\ArcsP x hs ys/\os.Pairwise (· < ·)/\(∀i,i∈os↔i<hs.length/\TC (ArcE x hs) i i)/\OwS w' t' 1 (os.map fun k:Nat=>iv (k:Int))/\Ext w w':=by
 have htn:=hH.n
 have hl100:=hY.len
 refine F39_ok v t w _ fun b1 w2 a2=>?_
 have e2:Ext w w2:=a2.ch _
 refine⟨v,cxN h a2.new (Ch.refl _ _),(c100 (h.ext e2) (hH.ext e2) hY).use ?_⟩
 rintro _ w7 ⟨s8,rows,ys,rfl,hA,hsq,hg,hMx,e7⟩
 have E7:=e2.trans e7
 have hsn:=hMx.n
 have hsq1:=hsq.1
 refine⟨s8,rfl,fun m z W=>∃(i:Nat)(os:List Nat)(so:Sl),i<=hs.length/\m+i=hs.length/\z=(so,(i:Int))/\os.Pairwise (· < ·)/\(∀k,k∈os↔k<i/\TC (ArcE x hs) k k)/\OwS W so 1 (os.map fun k:Nat=>iv (k:Int))/\(∀j∈blk so,w7.heap.size<=j)/\Ext w7 W,
  ⟨hs.length,0,[],⟨none,0,0⟩,Nat.zero_le _,rfl,rfl,.nil,by simp,.nil _ _,by simp[blk],Ch.refl _ _⟩,?_⟩
 rintro m _ W g ⟨i,os,so,hi,hm,rfl,hsr,hmem,hos,hbk,eW⟩
 unfold F39j1
 have hosn:=hos.len
 rw[List.length_map,Nat.mul_one] at hosn
 have hol:os.length<=i:=by
  have:=nodup_le (a:=os) (b:=List.range i) (hsr.imp fun h e=>by omega) fun k hk=>List.mem_range.2 ((hmem k).1 hk).1
  simpa using this
 refine IfB.dec (fun hlt=>?_) fun hge=>?_
 ·dsimp only at hlt
  have hi':i<hs.length:=by omega
  have hw:IntKind.i64.wrap ((i:Int)+1)=((i+1:Nat):Int):=by rw[wrap_of (by omega) (by omega)];rfl
  obtain⟨ra,hra,hral,hram⟩:=hsq.at hi'
  have hMd:=hMx.ext eW
  obtain⟨b1',hp1,hc1⟩:=hMd.slot hra
  obtain⟨b2',hp2,hc2⟩:=hMd.cell hram (gM_get hra (k:=i) (by omega))
  have hrn:=hMd.rn hram
  have up:∀ {os':List Nat},(∀k,k∈os'↔k∈os\/(k=i/\gM rows i i=true))->∀k,k∈os'↔k<i+1/\TC (ArcE x hs) k k:=fun h k=>by
   rw[h,hmem]
   constructor
   ·rintro(⟨h1,h2⟩|⟨rfl,h2⟩)
    ·exact⟨by omega,h2⟩
    ·exact⟨by omega,(hg k k).1 h2⟩
   ·rintro⟨h1,h2⟩
    rcases Nat.lt_or_ge k i with h'|h'
    ·exact .inl ⟨h',h2⟩
    ·have:k=i:=by omega
     subst this
     exact .inr ⟨rfl,(hg k k).2 h2⟩
  refine⟨b1',0,hp1,⟨by dsimp only;omega,by dsimp only;omega⟩,ra.1,by dsimp only;rw[Int.toNat_natCast,Nat.zero_add];exact hc1,b2',0,hp2,⟨by dsimp only;omega,by dsimp only;omega⟩,gM rows i i,by dsimp only;rw[Int.toNat_natCast,Nat.zero_add];exact hc2,IfB.intro (fun hin=>⟨by decide,fun b22 w23 a23=>?_⟩) fun hin=>⟨rfl,m-1,by omega,i+1,os,so,hi',by omega,by dsimp only;rw[hw],hsr,up fun k=>?_,hos,hbk,eW⟩⟩
  ·have e23:Ext W w23:=a23.ch _
   have z23:=a23.size;have p23:=a23.here;have zW:=eW.size
   refine(hos.ext e23).lit (new:=[iv (i:Int)]) a23.new rfl (by intro v hv;rw[List.mem_singleton.1 hv];rfl) rfl rfl (by omega) (by decide) fun s25 w26 ho26 hn26 hC26 hb26=>⟨rfl,m-1,by omega,i+1,os++[i],s25,hi',by omega,by dsimp only;rw[hw],?_,up fun k=>?_,by rw[List.map_append];exact ho26,fun j hj=>?_,(eW.trans e23).chN hC26 fun j hj=>hbk j hj⟩
   ·exact List.pairwise_append.2 ⟨hsr,List.pairwise_singleton _ _,fun a ha b hb=>by rw[List.mem_singleton.1 hb];exact((hmem a).1 ha).1⟩
   ·rw[List.mem_append,List.mem_singleton]
    exact⟨fun h=>h.imp id fun h=>⟨h,hin⟩,fun h=>h.imp id fun h=>h.1⟩
   ·rcases hb26 j hj with h'|h'
    ·exact hbk j h'
    ·omega
  ·have hin:gM rows i i=false:=hin
   exact⟨.inl,fun h=>h.elim id fun h=>(by rw[hin] at h;cases h.2)⟩
 ·dsimp only at hge
  have hi':i=hs.length:=by omega
  subst hi'
  exact⟨so,ys,os,rfl,hA,hsr,hmem,hos,E7.trans eW⟩
def GoodP(x:CatD)(hs:List Nd):Prop:=HMay x hs/\∃r,FairR x hs r
theorem c33{w:World}{v:CatV}{x:CatD}{t:Sl}{hs:List Nd}(h:CatM w v x)(hH:Hst w t hs):
  Cw 33 #[cxV v,slV t] w fun r w'=>∃b,r=.bool b/\(b=true↔GoodP x hs)/\Ext w w':=by
 refine F33_ok v t w _ fun b1 w2 a2=>?_
 have e2:Ext w w2:=a2.ch _
 refine⟨v,cxN h a2.new (Ch.refl _ _),(c31 (h.ext e2) (hH.ext e2)).use ?_⟩
 rintro _ w7 ⟨r,rfl,hr,e7⟩
 have E7:=e2.trans e7
 refine⟨r,rfl,IfB.intro (fun h1=>⟨v,cxN h a2.new e7,(c39 (h.ext E7) (hH.ext E7) (hr.1 h1)).use ?_⟩) fun h1=>⟨false,rfl,⟨fun h=>(by cases h),fun h'=>?_⟩,E7⟩⟩
 ·rintro _ w13 ⟨s14,ys,os,rfl,hA,hsr,hmem,ho,e13⟩
  have hn:=ho.len
  rw[List.length_map,Nat.mul_one] at hn
  refine⟨s14,rfl,_,rfl,?_,E7.trans e13⟩
  rw[beq_iff_eq]
  have hM:=hr.1 h1
  unfold GoodP
  rw[<-acyc_iff hM hA]
  constructor
  ·intro h0
   refine⟨hM,fun i hi=>?_⟩
   have hos:os=[]:=List.eq_nil_of_length_eq_zero (by omega)
   have:=(hmem i).2 ⟨(TC.lt hi).1,hi⟩
   rw[hos] at this;cases this
  ·rintro⟨_,h0⟩
   have hos:os=[]:=by
    cases os with
    | nil=>rfl
    | cons a os=>exact absurd ((hmem a).1 (by simp)).2 (h0 a)
   have hn:s14.n=0:=by rw[<-hn,hos];rfl
   rw[hn];rfl
 ·have h1:r=false:=h1
  rw[hr.2 h'.1] at h1;cases h1
theorem mapIv(os:List Nat):(os.map fun k:Nat=>iv (k:Int))=(os.map fun k:Nat=>(k:Int)).map iv:=by rw[List.map_map];rfl
theorem arr_plain{A:Nat->Prop}{w:World}{e:Ty}{n:Nat}{f:e.den->List Value}{Q:e.den->Prop}{l:List e.den}{cs:List Value}(h:rep A w (.arr n e) l cs)(hp:∀x c,rep A w e x c->c=f x/\Q x):l.length=n/\cs=l.flatMap f/\∀x∈l,Q x:=by
 obtain⟨hn,css,hl,hr,rfl⟩:=h
 have hi:∀(i:Nat)(hi:i<l.length),css[i]? =some (f l[i])/\Q l[i]:=fun i hi=>by
  have hc:css[i]? =some (css[i]'(by omega)):=List.getElem?_eq_getElem (by omega)
  obtain⟨h1,h2⟩:=hp _ _ (hr i _ _ hc (List.getElem?_eq_getElem hi))
  exact⟨by rw[hc,h1],h2⟩
 have hcs:css=l.map f:=by
  apply List.ext_getElem?
  intro i
  by_cases h:i<l.length
  ·rw[(hi i h).1,List.getElem?_map,List.getElem?_eq_getElem h];rfl
  ·rw[List.getElem?_eq_none (by omega),List.getElem?_eq_none (by rw[List.length_map];omega)]
 refine⟨hn,by rw[hcs,List.flatMap_def],fun x hx=>?_⟩
 obtain⟨i,h,rfl⟩:=List.getElem_of_mem hx
 exact(hi i h).2
abbrev catOf(x:tyCat.den):CatD:=(x.1,x.2.flatten)
theorem rep_cat{A:Nat->Prop}{w:World}{x:tyCat.den}{cs:List Value}(h:rep A w tyCat x cs):∃v:CatV,cs=cxC v/\CatM w v (catOf x):=by
 obtain⟨c,d,rfl,h1,h2⟩:=h
 have h1:=rep_mono (B:=fun _=>True) (fun _ _=>trivial) h1
 obtain⟨s,rfl,_⟩:=id h1
 obtain⟨k1,k2,k3⟩:=arr_plain (n:=4) (e:=.arr 4 tyI) (f:=fun r=>r.map fun n=>Value.int .i64 n) (Q:=fun r=>r.length=4/\∀n∈r, -9223372036854775808<=n/\n<=9223372036854775807) (l:=x.2) h2 fun r c hr=>by
  obtain⟨g1,g2,g3⟩:=arr_plain (n:=4) (e:=tyI) (f:=fun n=>[Value.int .i64 n]) (Q:=fun n=> -9223372036854775808<=n/\n<=9223372036854775807) (l:=r) hr fun n c hc=>⟨hc.1,hc.2.1,hc.2.2⟩
  refine⟨by rw[g2,List.map_eq_flatMap],g1,g3⟩
 refine⟨(s,d),rfl,h1,?_,?_,fun n hn=>?_⟩
 ·rw[k2]
  show List.flatMap _ x.2=x.2.flatten.map _
  rw[List.map_flatten,List.flatMap_def]
 ·show x.2.flatten.length=16
  rw[List.length_flatten]
  have:∀l:List (List Int),(∀r∈l,r.length=4)->(l.map List.length).sum=l.length*4:=fun l=>by
   induction l with
   | nil=>intro _;rfl
   | cons r l ih=>
    intro h
    rw[List.map_cons,List.sum_cons,ih fun q hq=>h q (List.mem_cons_of_mem _ hq),h r (by simp),List.length_cons];omega
  rw[this _ fun r hr=>(k3 r hr).1]
  have k1:x.2.length=4:=k1
  omega
 ·obtain⟨r,hr,hn⟩:=List.mem_flatten.1 hn
  exact(k3 r hr).2 n hn
theorem arr_eq{cs:Array Value}{l:List Value}(h:cs.toList=l):cs=l.toArray:=by rw[<-h]
theorem F248_ok(t0:Int)(t1:Int)(w:World)(R:RV)(h:(0:Int)<=32/\(0:Int)<=32/\(0:Int)<=32/\(0:Int)<=32/\(0:Int)<=32/\R (Value.tuple #[Value.int IntKind.u64 (IntKind.u64.wrap (IntKind.u64.wrap (IntKind.u64.wrap (t0.fdiv (2^min (Int.toNat 32) IntKind.u64.bits)*t1.fdiv (2^min (Int.toNat 32) IntKind.u64.bits))+(IntKind.u64.wrap (IntKind.u64.wrap (t0.fdiv (2^min (Int.toNat 32) IntKind.u64.bits)*bitsI BinOp.and IntKind.u64 t1 4294967295)+(IntKind.u64.wrap (bitsI BinOp.and IntKind.u64 t0 4294967295*bitsI BinOp.and IntKind.u64 t1 4294967295)).fdiv (2^min (Int.toNat 32) IntKind.u64.bits))).fdiv (2^min (Int.toNat 32) IntKind.u64.bits))+(IntKind.u64.wrap (bitsI BinOp.and IntKind.u64 (IntKind.u64.wrap (IntKind.u64.wrap (t0.fdiv (2^min (Int.toNat 32) IntKind.u64.bits)*bitsI BinOp.and IntKind.u64 t1 4294967295)+(IntKind.u64.wrap (bitsI BinOp.and IntKind.u64 t0 4294967295*bitsI BinOp.and IntKind.u64 t1 4294967295)).fdiv (2^min (Int.toNat 32) IntKind.u64.bits))) 4294967295+IntKind.u64.wrap (bitsI BinOp.and IntKind.u64 t0 4294967295*t1.fdiv (2^min (Int.toNat 32) IntKind.u64.bits)))).fdiv (2^min (Int.toNat 32) IntKind.u64.bits))),Value.int IntKind.u64 (IntKind.u64.wrap (t0*t1))]) w):Cw 248 #[Value.int IntKind.u64 t0,Value.int IntKind.u64 t1] w R:=
 ckF Tryz.func248 .nil h (by kernel_rfl) (by kernel_rfl)
theorem F215_ok(t0:Int)(t1:Int)(w:World)(R:RV)(h:Cx 248 #[Value.int IntKind.u64 t0,Value.int IntKind.u64 t1] w fun v1 w2=>∃(x3:Int×Int),v1=Value.tuple #[Value.int IntKind.u64 x3.1,Value.int IntKind.u64 x3.2]/\R (Value.tuple #[Value.int IntKind.u64 x3.1,Value.int IntKind.u64 x3.2]) w2):Cw 215 #[Value.int IntKind.u64 t0,Value.int IntKind.u64 t1] w R:=
 ckF Tryz.func215 .nil h (by kernel_rfl) (by kernel_rfl)
def F159j1(R:RV)(x3:Int×Int)(b4:Nat)(y8:Nat->Int->World->Prop)(b10:Nat)(n11:Int)(w12:World):Prop:=IfB (decide (n11<((((IntKind.i64.wrap x3.snd).toNat:Nat):Int):Int))) ((0<=n11/\n11<=(((IntKind.i64.wrap x3.2).toNat:Nat):Int))/\(0<=n11/\n11<=(((IntKind.i64.wrap x3.2).toNat:Nat):Int))/\CopyP w12.drew 1 (slAddr (some ⟨b4,0,none⟩) (IntKind.i64.wrap x3.2).toNat n11.toNat 1) ((IntKind.i64.wrap x3.2).toNat-n11.toNat) (slAddr (some ⟨b4,0,none⟩) (IntKind.i64.wrap x3.2).toNat 0 1) n11.toNat fun(n15:Int) (w16:World)=>Qn y8 b10 (IntKind.i64.wrap (n11+n15)) w16) (R (Value.slice (some ⟨b4,0,none⟩) (IntKind.i64.wrap x3.2).toNat (IntKind.i64.wrap x3.2).toNat) w12)
theorem F159_ok(t0:Sl)(t1:Int)(w:World)(R:RV)(h:IfB (decide (t1<0)) False (Cx 215 #[Value.int IntKind.u64 (IntKind.u64.wrap (t0.2:Int)),Value.int IntKind.u64 (IntKind.u64.wrap t1)] w fun v1 w2=>∃(x3:Int×Int),v1=Value.tuple #[Value.int IntKind.u64 x3.1,Value.int IntKind.u64 x3.2]/\IfB (decide (0<x3.fst)) False (IfB (decide (9223372036854775807<x3.snd)) False ((0<=IntKind.i64.wrap x3.2/\IntKind.i64.wrap x3.2<=IntKind.i64.wrap x3.2/\IntKind.i64.wrap x3.2<=281474976710656/\((8:Nat):Int)*IntKind.i64.wrap x3.2<=281474976710656)/\AllocP w2 (Obj.cells { toList:=zc #[Qz 0] (IntKind.i64.wrap x3.2).toNat } 3) fun b4 w5=>CopyP w5 1 (some ⟨b4,0,none⟩) (IntKind.i64.wrap x3.2).toNat t0.1 t0.2 fun(n6:Int) (w7:World)=>Ql (α:=Int) n6 w7 fun y8 b10 n11 w12=>(F159j1 R x3 b4 y8 b10 n11 w12))))):Cw 159 #[Qy t0,Qz t1] w R:=
 ckF Tryz.func159 (nd (nd (nd (nd (nd (nd (.node (.loop [(8,oi)] (rg [8,8,34,46]) (nd (.draw (sts [0,1,2,3,4,5,6] (.ac 7 [0] (sts [8,9] .fin) .non))))) .nil))))))) h (by kernel_rfl) (by kernel_rfl)
def F102j1(t0:Int)(t1:Sl)(R:RV)(s5:Sl)(y6:Nat->Int->World->Prop)(b8:Nat)(n9:Int)(w10:World):Prop:=IfB (decide (n9<(t1.n:Int))) (Qx t1.1 n9 (t1.2:Int) fun b13 b14=>Qi w10 b13 (b14+n9.toNat) fun n15=>IfB (decide (n15<0)) (R (Value.tuple #[Value.slice none 0 0,Value.bool false]) w10) (IfB (decide (t0<=n15)) (R (Value.tuple #[Value.slice none 0 0,Value.bool false]) w10) (Qx s5.1 n15 (s5.2:Int) fun b16 b17=>Qi w10 b16 (b17+n15.toNat) fun n18=>IfB (decide (0<=n18)) (R (Value.tuple #[Value.slice none 0 0,Value.bool false]) w10) (Qx s5.1 n15 (s5.2:Int) fun b19 b20=>#[Qz n9].size=1/\StoreP w10 b19 (b20+n15.toNat) [Qz n9] fun w21=>Qn y6 b8 (IntKind.i64.wrap (n9+1)) w21)))) (R (Value.tuple #[Qy s5,Value.bool ((t1.2:Int) == t0)]) w10)
theorem F102_ok(t0:Int)(t1:Sl)(w:World)(R:RV)(h:1*1<=16777216/\AllocP w (Obj.cells #[Qz (-1:Int)] 3) fun b1 w2=>Qu' 159 #[Value.slice (some ⟨b1,0,none⟩) 1 1,Qz t0] w2 fun s5 w4=>Ql (α:=Int) 0 w4 fun y6 b8 n9 w10=>(F102j1 t0 t1 R s5 y6 b8 n9 w10)):Cw 102 #[Qz t0,Qy t1] w R:=
 ckF Tryz.func102 (nd (nd (.node (nd (.loop [(14,oi)] (rg [4,5,7,8,14,37]) .nil)) .nil))) h (by kernel_rfl) (by kernel_rfl)
def F42j2(t1:Sl)(R:RV)(x5:Sl×Bool)(y12:Nat->Int->World->Prop)(b14:Nat)(n15:Int)(y19:Nat->Int->World->Prop)(b21:Nat)(n22:Int)(w23:World):Prop:=IfB (decide (n22<n15)) (Qv' 103 #[Qy t1,Qz n15,Qz n22] w23.drew fun t28 w27=>IfB t28 (Qx x5.fst.1 n22 (x5.fst.2:Int) fun b29 b30=>Qi w27 b29 (b30+n22.toNat) fun n31=>Qx x5.fst.1 n15 (x5.fst.2:Int) fun b32 b33=>Qi w27 b32 (b33+n15.toNat) fun n34=>IfB (decide (n34<n31)) (R (Value.bool false) w27) (Qn y19 b21 (IntKind.i64.wrap (n22+1)) w27)) (Qn y19 b21 (IntKind.i64.wrap (n22+1)) w27)) (Qn y12 b14 (IntKind.i64.wrap (n15+1)) w23)
theorem F42_ok(t0:Sl×List Value)(t1:Sl)(t2:Sl)(w:World)(R:RV)(h:AllocP w (Obj.cells { toList:=Qy t0.fst::t0.2 } 26) fun b1 w2=>Cx 102 #[Qz (t1.2:Int),Qy t2] w2 fun v3 w4=>∃(x5:Sl×Bool),v3=Value.tuple #[Qy x5.fst,Value.bool x5.2]/\IfB (!x5.2) (R (Value.bool false) w4) (∃(x6:Sl×List Value),CellsN w4 b1 0 17 (Qy x6.fst::x6.2)/\Qv' 84 #[Value.agg { toList:=Qy x6.fst::x6.2 },Qy t1] w4 fun t11 w10=>IfB (!t11) (R (Value.bool false) w10) (Ql (α:=Int) 0 w10 fun y12 b14 n15 w16=>IfB (decide (n15<(t1.n:Int))) (Ql (α:=Int) 0 w16 fun y19 b21 n22 w23=>(F42j2 t1 R x5 y12 b14 n15 y19 b21 n22 w23)) (R (Value.bool true) w16)))):Cw 42 #[Value.agg { toList:=Qy t0.fst::t0.2 },Qy t1,Qy t2] w R:=
 ckF Tryz.func42 (nd (nd (nd (.node (nd (.loop [(28,oi)] (rg [6,6,9,10,28,51]) (nd (nd (.node (nd (nd (.loop [(32,oi)] (rg [6,6,10,10,32,50]) (nd (nd (.node (nd (.node (.draw (sts [0,1,2] (.ac 3 [] (sts [4,5,6,7,8,9,10,11,12,13,14] .fin) .non))) .nil)) .nil)))))) .nil))))) .nil)))) h (by kernel_rfl) (by kernel_rfl)
def F105k1(t1:Sl)(x23:Sl×Int)(w24:World)(t2:Int)(x19:Int×Int×Bool)(b22:Nat)(y20:Nat->Sl×Int->World->Prop):Prop:=Qx t1.1 x23.2 (t1.2:Int) fun b27 b28=>∃(x29:Int×Int×Int×Bool×Sl×Sl),CellsAt w24 b27 (b28+x23.2.toNat*6) (lC53 x29)/\AllocP w24 (Obj.cells #[Qz 0,Qz 0,Qz 0,Value.bool false,Value.slice none 0 0,Value.slice none 0 0] 53) fun b30 w31=>(lC53 x29).toArray.size=6/\StoreP w31 b30 0 (lC53 x29) fun w32=>Qi w32.drew b30 (0+0) fun n33=>Qx t1.1 t2 (t1.2:Int) fun b34 b35=>Qi w32.drew b34 (b35+t2.toNat*6+0) fun n36=>IfB (n33 == n36) (Qb w32.drew b30 (0+3) fun t37=>IfB (!t37) (Qi w32.drew b30 (0+2) fun n38=>IfB (decide (x19.fst<=n38)) (Qi w32.drew b30 (0+2) fun n39=>IfB (decide (n39<=x19.snd.fst)) (1*1<=16777216/\AllocP w32.drew (Obj.cells #[Qz x23.2] 3) fun b40 w41=>∃(l42:List Value),ReadC w41 (some ⟨b40,0,none⟩) (1*1) l42/\AppendP tt3 3 w41 x23.fst.1 x23.fst.2 x23.fst.3 1 l42 fun s43 w44=>Qn y20 b22 ({ p:=s43.1,n:=s43.2,c:=s43.3 },IntKind.i64.wrap (x23.2+1)) w44) (Qn y20 b22 ({ p:=x23.fst.1,n:=x23.fst.2,c:=x23.fst.3 },IntKind.i64.wrap (x23.2+1)) w32.drew)) (Qn y20 b22 ({ p:=x23.fst.1,n:=x23.fst.2,c:=x23.fst.3 },IntKind.i64.wrap (x23.2+1)) w32.drew)) (Qn y20 b22 ({ p:=x23.fst.1,n:=x23.fst.2,c:=x23.fst.3 },IntKind.i64.wrap (x23.2+1)) w32.drew)) (Qn y20 b22 ({ p:=x23.fst.1,n:=x23.fst.2,c:=x23.fst.3 },IntKind.i64.wrap (x23.2+1)) w32.drew)
def F105j1(t1:Sl)(t2:Int)(R:RV)(x19:Int×Int×Bool)(y20:Nat->Sl×Int->World->Prop)(b22:Nat)(x23:Sl×Int)(w24:World):Prop:=IfB (decide (x23.snd<(t1.n:Int))) (F105k1 t1 x23 w24 t2 x19 b22 y20) (R (Qy x23.fst) w24)
theorem F105_ok(t0:Sl×List Value)(t1:Sl)(t2:Int)(t3:Int)(w:World)(R:RV)(h:AllocP w (Obj.cells { toList:=Qy t0.fst::t0.2 } 26) fun b1 w2=>Qx t1.1 t2 (t1.2:Int) fun b3 b4=>Qb w2 b3 (b4+t2.toNat*6+3) fun t5=>IfB t5 (1*1<=16777216/\AllocP w2 (Obj.cells #[Qz t2] 3) fun b6 w7=>R (Value.slice (some ⟨b6,0,none⟩) 1 1) w7) (∃(x8:Sl×List Value),CellsN w2.drew b1 0 17 (Qy x8.fst::x8.2)/\Qx t1.1 t2 (t1.2:Int) fun b11 b12=>Qi w2.drew b11 (b12+t2.toNat*6+1) fun n13=>Qx t1.1 t2 (t1.2:Int) fun b14 b15=>Qi w2.drew b14 (b15+t2.toNat*6+2) fun n16=>Cx 136 #[Value.agg { toList:=Qy x8.fst::x8.2 },Qz n13,Qz t3,Qz n16] w2.drew fun v17 w18=>∃(x19:Int×Int×Bool),v17=Value.tuple #[Qz x19.1,Qz x19.snd.1,Value.bool x19.snd.2]/\Ql (α:=Sl×Int) ({ p:=none,n:=0,c:=0 },0) w18 fun y20 b22 x23 w24=>(F105j1 t1 t2 R x19 y20 b22 x23 w24))):Cw 105 #[Value.agg { toList:=Qy t0.fst::t0.2 },Qy t1,Qz t2,Qz t3] w R:=
 ckF Tryz.func105 (nd (nd (.node (.draw (sts [0,1,2,3,4,5,6,7,8,9,10,11] (.ac 12 [] (sts [13,14,15,16,17,18,19] .fin) .non))) (nd (.node (nd (.loop [(12,.one (.sl)),(41,oi)] (rg [12,14,41,75]) (nd (nd (.node (nd (.node (.draw (sts [0,1,2,3,4,5,6,7,8,9,10,11,12,13,14,15,16,17,18,19,20,21,22,23,24] .fin)) .nil)) .nil))))) .nil))))) h (by kernel_rfl) (by kernel_rfl)
theorem F108_ok(t0:Sl)(t1:Int)(t2:Sl)(w:World)(R:RV)(h:AllocP w (Obj.cells #[Qy t0] 30) fun b1 w2=>AllocP w2 (Obj.cells #[Qz t1] 3) fun b3 w4=>Qv' 109 #[Qy t2,Value.func (Fn.func 162) #[] #[Value.pointer (some ⟨b1,0,none⟩),Value.pointer (some ⟨b3,0,none⟩)]] w4 fun t7 w6=>IfB t7 (Qv' 109 #[Qy t2,Value.func (Fn.func 163) #[] #[Value.pointer (some ⟨b1,0,none⟩),Value.pointer (some ⟨b3,0,none⟩)]] w6 fun t10 w9=>R (Value.bool t10) w9) (R (Value.bool false) w6)):Cw 108 #[Qy t0,Qz t1,Qy t2] w R:=
 ckF Tryz.func108 .nil h (by kernel_rfl) (by kernel_rfl)
theorem F162_ok(t0:Int)(t1:Nat)(t2:Nat)(w:World)(R:RV)(h:∃s1:Sl,w.drew.cell? ⟨t1,0,none⟩=some (Qy s1)/\Qx s1.1 t0 (s1.2:Int) fun b2 b3=>∃n4:Int,w.drew.cell? ⟨b2,b3+t0.toNat,none⟩=some (Qz n4)/\∃s5:Sl,w.drew.cell? ⟨t1,0,none⟩=some (Qy s5)/\∃n6:Int,w.drew.cell? ⟨t2,0,none⟩=some (Qz n6)/\Qx s5.1 n6 (s5.2:Int) fun b7 b8=>∃n9:Int,w.drew.cell? ⟨b7,b8+n6.toNat,none⟩=some (Qz n9)/\R (Value.bool (decide (n4<n9))) w.drew):Cw 162 #[Qz t0,Value.pointer (some ⟨t1,0,none⟩),Value.pointer (some ⟨t2,0,none⟩)] w R:=
 ckF Tryz.func162 (nd (.node (.draw (sts [0,1,2,3,4,5,6,7,8,9] .fin)) .nil)) h (by kernel_rfl) (by kernel_rfl)
theorem F163_ok(t0:Int)(t1:Nat)(t2:Nat)(w:World)(R:RV)(h:∃s1:Sl,w.drew.cell? ⟨t1,0,none⟩=some (Qy s1)/\Qx s1.1 t0 (s1.2:Int) fun b2 b3=>∃n4:Int,w.drew.cell? ⟨b2,b3+t0.toNat,none⟩=some (Qz n4)/\∃s5:Sl,w.drew.cell? ⟨t1,0,none⟩=some (Qy s5)/\∃n6:Int,w.drew.cell? ⟨t2,0,none⟩=some (Qz n6)/\Qx s5.1 n6 (s5.2:Int) fun b7 b8=>∃n9:Int,w.drew.cell? ⟨b7,b8+n6.toNat,none⟩=some (Qz n9)/\R (Value.bool (decide (n9<n4))) w.drew):Cw 163 #[Qz t0,Value.pointer (some ⟨t1,0,none⟩),Value.pointer (some ⟨t2,0,none⟩)] w R:=
 ckF Tryz.func163 (nd (.node (.draw (sts [0,1,2,3,4,5,6,7,8,9] .fin)) .nil)) h (by kernel_rfl) (by kernel_rfl)
def F44j2(t1:Sl)(R:RV)(b1:Nat)(x11:Sl×Bool)(b15:Nat)(y18:Nat->Int->World->Prop)(b20:Nat)(n21:Int)(b25:Nat)(y28:Nat->Int->World->Prop)(b30:Nat)(n31:Int)(w32:World):Prop:=IfB (decide (n31<(t1.n:Int))) (Qx t1.1 n31 (t1.2:Int) fun b35 b36=>Qi w32.drew b35 (b36+n31.toNat*6+0) fun n37=>Qi w32.drew b25 0 fun n38=>Qx t1.1 n38 (t1.2:Int) fun b39 b40=>Qi w32.drew b39 (b40+n38.toNat*6+0) fun n41=>IfB (n37 == n41) (Qn y28 b30 (IntKind.i64.wrap (n31+1)) w32.drew) (∃(x43:Sl×List Value),CellsN w32.drew.drew b1 0 17 (Qy x43.fst::x43.2)/\∃n46:Int,w32.drew.drew.cell? ⟨b25,0,none⟩=some (Qz n46)/\Qx t1.1 n46 (t1.2:Int) fun b47 b48=>∃n49:Int,w32.drew.drew.cell? ⟨b47,b48+n46.toNat*6+1,none⟩=some (Qz n49)/\Cx 105 #[Value.agg { toList:=Qy x43.fst::x43.2 },Qy t1,Qz n31,Qz n49] w32.drew.drew fun v50 w51=>∃s52:Sl,v50=Qy s52/\Qi w51 b25 0 fun n53=>Qv' 108 #[Qy x11.fst,Qz n53,Qy s52] w51 fun t56 w55=>IfB t56 (Qv' 109 #[Qy s52,Value.func (Fn.func 106) #[] #[Value.pointer (some ⟨b15,0,none⟩),Value.pointer (some ⟨b25,0,none⟩)]] w55 fun t59 w58=>IfB t59 (R (Value.bool false) w58) (Qn y28 b30 (IntKind.i64.wrap (n31+1)) w58)) (Qn y28 b30 (IntKind.i64.wrap (n31+1)) w55))) (Qn y18 b20 (IntKind.i64.wrap (n21+1)) w32)
def F44j1(t1:Sl)(R:RV)(b1:Nat)(x11:Sl×Bool)(b15:Nat)(y18:Nat->Int->World->Prop)(b20:Nat)(n21:Int)(w22:World):Prop:=IfB (decide (n21<(t1.n:Int))) (AllocP w22 (Obj.cells #[Qz 0] 3) fun b25 w26=>#[Qz n21].size=1/\StoreP w26 b25 0 [Qz n21] fun w27=>Ql (α:=Int) 0 w27 fun y28 b30 n31 w32=>(F44j2 t1 R b1 x11 b15 y18 b20 n21 b25 y28 b30 n31 w32)) (R (Value.bool true) w22)
theorem F44_ok(t0:Sl×List Value)(t1:Sl)(t2:Sl)(w:World)(R:RV)(h:AllocP w (Obj.cells { toList:=Qy t0.fst::t0.2 } 26) fun b1 w2=>∃(x3:Sl×List Value),CellsN w2 b1 0 17 (Qy x3.fst::x3.2)/\Qv' 42 #[Value.agg { toList:=Qy x3.fst::x3.2 },Qy t1,Qy t2] w2 fun t8 w7=>IfB (!t8) (R (Value.bool false) w7) (Cx 102 #[Qz (t1.2:Int),Qy t2] w7 fun v9 w10=>∃(x11:Sl×Bool),v9=Value.tuple #[Qy x11.fst,Value.bool x11.2]/\Qu' 85 #[Qy t1] w10 fun s14 w13=>AllocP w13 (Obj.cells #[Value.slice none 0 0] 102) fun b15 w16=>#[Qy s14].size=1/\StoreP w16 b15 0 [Qy s14] fun w17=>Ql (α:=Int) 0 w17 fun y18 b20 n21 w22=>(F44j1 t1 R b1 x11 b15 y18 b20 n21 w22))):Cw 44 #[Value.agg { toList:=Qy t0.fst::t0.2 },Qy t1,Qy t2] w R:=
 ckF Tryz.func44 (nd (nd (nd (nd (.node (nd (.loop [(30,oi)] (rg [6,6,10,13,30,69]) (nd (nd (.node (nd (nd (.loop [(35,oi)] (rg [6,6,11,13,35,68]) (nd (nd (.node (nd (.node (.node (.draw (sts [0,1,2,3,4,5,6,7,8,9,10] .fin)) .nil) (.node (.draw (sts [0,1,2,3,4,5,6,7] (.ac 8 [] (.st 9 .fin) .non))) .nil))) .nil)))))) .nil))))) .nil))))) h (by kernel_rfl) (by kernel_rfl)
theorem F106_ok(t0:Int)(t1:Nat)(t2:Nat)(w:World)(R:RV)(h:∃s1:Sl,w.drew.cell? ⟨t1,0,none⟩=some (Qy s1)/\∃n2:Int,w.drew.cell? ⟨t2,0,none⟩=some (Qz n2)/\Qx s1.1 n2 (s1.2:Int) fun b3 b4=>∃s5:Sl,w.drew.cell? ⟨b3,b4+n2.toNat,none⟩=some (Qy s5)/\Cx 107 #[Qy s5,Qz t0] w.drew fun v6 w7=>∃t8:Bool,v6=Value.bool t8/\IfB t8 (R (Value.bool true) w7) (∃s9:Sl,w7.cell? ⟨t1,0,none⟩=some (Qy s9)/\Qx s9.1 t0 (s9.2:Int) fun b10 b11=>Qs w7 b10 (b11+t0.toNat) fun s12=>∃n13:Int,w7.cell? ⟨t2,0,none⟩=some (Qz n13)/\Qv' 107 #[Qy s12,Qz n13] w7 fun t16 w15=>R (Value.bool t16) w15)):Cw 106 #[Qz t0,Value.pointer (some ⟨t1,0,none⟩),Value.pointer (some ⟨t2,0,none⟩)] w R:=
 ckF Tryz.func106 (nd (.node (.draw (sts [0,1,2,3,4] (.ac 5 [] (sts [6,7,8,9,10,11] (.ac 12 [] (sts [13,14] .fin) .non)) .non))) .nil)) h (by kernel_rfl) (by kernel_rfl)
def F104j2(t0:Int)(t1:Sl)(R:RV)(b1:Nat)(y14:Nat->Int->World->Prop)(b16:Nat)(n17:Int)(w18:World):Prop:=IfB (decide (n17<(t1.n:Int))) (Qx t1.1 n17 (t1.2:Int) fun b21 b22=>Qi w18 b21 (b22+n17.toNat) fun n23=>IfB (decide (n23<0)) (R (Value.tuple #[Value.slice none 0 0,Value.bool false]) w18) (Qx t1.1 n17 (t1.2:Int) fun b24 b25=>Qi w18 b24 (b25+n17.toNat) fun n26=>IfB (decide (t0<=n26)) (R (Value.tuple #[Value.slice none 0 0,Value.bool false]) w18) (Qx t1.1 n17 (t1.2:Int) fun b27 b28=>Qi w18 b27 (b28+n17.toNat) fun n29=>Qx (some ⟨b1,0,none⟩) n29 (t0.toNat:Int) fun b30 b31=>Qi w18 b30 (b31+n29.toNat) fun n32=>IfB (decide (0<=n32)) (R (Value.tuple #[Value.slice none 0 0,Value.bool false]) w18) (Qx t1.1 n17 (t1.2:Int) fun b33 b34=>Qi w18 b33 (b34+n17.toNat) fun n35=>Qx (some ⟨b1,0,none⟩) n35 (t0.toNat:Int) fun b36 b37=>#[Qz n17].size=1/\StoreP w18 b36 (b37+n35.toNat) [Qz n17] fun w38=>Qn y14 b16 (IntKind.i64.wrap (n17+1)) w38)))) (R (Value.tuple #[Value.slice (some ⟨b1,0,none⟩) t0.toNat t0.toNat,Value.bool ((t1.2:Int) == t0)]) w18)
def F104j1(t0:Int)(t1:Sl)(R:RV)(b1:Nat)(y3:Nat->Int->World->Prop)(b5:Nat)(n6:Int)(w7:World):Prop:=IfB (decide (n6<t0)) (Qx (some ⟨b1,0,none⟩) n6 (t0.toNat:Int) fun b10 b11=>#[Qz (-1:Int)].size=1/\StoreP w7 b10 (b11+n6.toNat) [Qz (-1:Int)] fun w12=>Qn y3 b5 (IntKind.i64.wrap (n6+1)) w12) (Ql (α:=Int) 0 w7 fun y14 b16 n17 w18=>(F104j2 t0 t1 R b1 y14 b16 n17 w18))
theorem F104_ok(t0:Int)(t1:Sl)(w:World)(R:RV)(h:(0<=t0/\t0<=t0/\t0<=281474976710656/\((8:Nat):Int)*t0<=281474976710656)/\AllocP w (Obj.cells { toList:=zc #[Qz 0] t0.toNat } 3) fun b1 w2=>Ql (α:=Int) 0 w2 fun y3 b5 n6 w7=>(F104j1 t0 t1 R b1 y3 b5 n6 w7)):Cw 104 #[Qz t0,Qy t1] w R:=
 ckF Tryz.func104 (nd (nd (.node (nd (.loop [(7,oi)] (rg [7,7,11,18]) .nil)) (.node (nd (.loop [(8,oi)] (rg [4,5,8,8,19,54]) .nil)) .nil)))) h (by kernel_rfl) (by kernel_rfl)
def F43k1(t0:Sl)(n7:Int)(w15:World)(n14:Int)(x3:Sl×Bool)(R:RV)(b13:Nat)(y11:Nat->Int->World->Prop):Prop:=Qx t0.1 n7 (t0.2:Int) fun b18 b19=>Qi w15.drew b18 (b19+n7.toNat*6+0) fun n20=>Qx t0.1 n14 (t0.2:Int) fun b21 b22=>Qi w15.drew b21 (b22+n14.toNat*6+0) fun n23=>IfB (n20 == n23) (Qx x3.fst.1 n14 (x3.fst.2:Int) fun b24 b25=>Qi w15.drew b24 (b25+n14.toNat) fun n26=>Qx x3.fst.1 n7 (x3.fst.2:Int) fun b27 b28=>Qi w15.drew b27 (b28+n7.toNat) fun n29=>IfB (decide (n29<n26)) (R (Value.bool false) w15.drew) (Qn y11 b13 (IntKind.i64.wrap (n14+1)) w15.drew)) (Qx t0.1 n7 (t0.2:Int) fun b31 b32=>∃(x33:Int×Int×Int×Bool×Sl×Sl),CellsAt w15.drew b31 (b32+n7.toNat*6) (lC53 x33)/\Qx t0.1 n14 (t0.2:Int) fun b34 b35=>∃(x36:Int×Int×Int×Bool×Sl×Sl),CellsAt w15.drew b34 (b35+n14.toNat*6) (lC53 x36)/\Qv' 36 #[Value.agg (lC53 x33).toArray,Value.agg (lC53 x36).toArray] w15.drew fun t39 w38=>IfB t39 (Qx x3.fst.1 n14 (x3.fst.2:Int) fun b40 b41=>Qi w38 b40 (b41+n14.toNat) fun n42=>Qx x3.fst.1 n7 (x3.fst.2:Int) fun b43 b44=>Qi w38 b43 (b44+n7.toNat) fun n45=>IfB (decide (n45<n42)) (R (Value.bool false) w38) (Qn y11 b13 (IntKind.i64.wrap (n14+1)) w38)) (Qn y11 b13 (IntKind.i64.wrap (n14+1)) w38))
def F43j2(t0:Sl)(R:RV)(x3:Sl×Bool)(y4:Nat->Int->World->Prop)(b6:Nat)(n7:Int)(y11:Nat->Int->World->Prop)(b13:Nat)(n14:Int)(w15:World):Prop:=IfB (decide (n14<n7)) (F43k1 t0 n7 w15 n14 x3 R b13 y11) (Qn y4 b6 (IntKind.i64.wrap (n7+1)) w15)
def F43(t0:Sl)(t1:Sl)(w:World)(R:RV):Prop:=Cx 104 #[Qz (t0.2:Int),Qy t1] w fun v1 w2=>∃(x3:Sl×Bool),v1=Value.tuple #[Qy x3.fst,Value.bool x3.2]/\IfB (!x3.2) (R (Value.bool false) w2) (Ql (α:=Int) 0 w2 fun y4 b6 n7 w8=>IfB (decide (n7<(t0.n:Int))) (Ql (α:=Int) 0 w8 fun y11 b13 n14 w15=>(F43j2 t0 R x3 y4 b6 n7 y11 b13 n14 w15)) (R (Value.bool true) w8))
theorem F43_ok(t0:Sl)(t1:Sl)(w:World)(R:RV)(h:F43 t0 t1 w R):Cw 43 #[Qy t0,Qy t1] w R:=
 ckF Tryz.func43 (nd (nd (nd (.node (nd (.loop [(7,oi)] (rg [4,4,7,8,18,61]) (nd (.node (nd (.loop [(8,oi)] (rg [4,4,8,8,24,61]) (nd (.node (.node (.draw (sts [0,1,2,3,4,5,6,7,8,9,10,11,12,13,14,15,16,17,18,19] (.ac 20 [] (sts [21,22,23,24,25,26,27,28,29,30,31,32] .fin) .non))) .nil) .nil)))) .nil)))) .nil)))) h (by kernel_rfl) (by kernel_rfl)
def F45j4(t1:Sl)(R:RV)(b1:Nat)(s11:Sl)(n15:Int)(n22:Int)(y26:Nat->Int->World->Prop)(b28:Nat)(n29:Int)(y64:Nat->Int->World->Prop)(b66:Nat)(n67:Int)(w68:World):Prop:=IfB (decide (n67<(t1.n:Int))) (∃(x71:Sl×List Value),CellsN w68.drew b1 0 17 (Qy x71.fst::x71.2)/\Qx t1.1 n15 (t1.2:Int) fun b74 b75=>Qi w68.drew b74 (b75+n15.toNat*6+1) fun n76=>Qv' 94 #[Value.agg { toList:=Qy x71.fst::x71.2 },Qy t1,Qz n22,Qz n67,Qz n76] w68.drew fun t79 w78=>IfB t79 (Qx s11.1 n15 (s11.2:Int) fun b80 b81=>Qs w78 b80 (b81+n15.toNat) fun s82=>Qx s82.1 n67 (s82.2:Int) fun b83 b84=>Qb w78 b83 (b84+n67.toNat) fun t85=>IfB t85 (R (Value.bool false) w78) (Qx s11.1 n67 (s11.2:Int) fun b86 b87=>Qs w78 b86 (b87+n67.toNat) fun s88=>Qx s88.1 n15 (s88.2:Int) fun b89 b90=>Qb w78 b89 (b90+n15.toNat) fun t91=>IfB t91 (R (Value.bool false) w78) (Qn y64 b66 (IntKind.i64.wrap (n67+1)) w78))) (Qn y64 b66 (IntKind.i64.wrap (n67+1)) w78)) (Qn y26 b28 (IntKind.i64.wrap (n29+1)) w68)
def F45k1(t1:Sl)(n22:Int)(w30:World)(n15:Int)(b28:Nat)(y26:Nat->Int->World->Prop)(n29:Int)(b1:Nat)(x8:Sl×Bool)(R:RV)(s11:Sl):Prop:=Qx t1.1 n22 (t1.2:Int) fun b33 b34=>Qi w30.drew b33 (b34+n22.toNat*6+0) fun n35=>Qx t1.1 n15 (t1.2:Int) fun b36 b37=>Qi w30.drew b36 (b37+n15.toNat*6+0) fun n38=>IfB (n35 == n38) (Qn y26 b28 (IntKind.i64.wrap (n29+1)) w30.drew) (∃(x40:Sl×List Value),CellsN w30.drew b1 0 17 (Qy x40.fst::x40.2)/\Qx t1.1 n15 (t1.2:Int) fun b43 b44=>Qi w30.drew b43 (b44+n15.toNat*6+1) fun n45=>Qv' 94 #[Value.agg { toList:=Qy x40.fst::x40.2 },Qy t1,Qz n22,Qz n29,Qz n45] w30.drew fun t48 w47=>IfB (!t48) (Qn y26 b28 (IntKind.i64.wrap (n29+1)) w47) (Qx x8.fst.1 n22 (x8.fst.2:Int) fun b50 b51=>Qi w47 b50 (b51+n22.toNat) fun n52=>Qx x8.fst.1 n15 (x8.fst.2:Int) fun b53 b54=>Qi w47 b53 (b54+n15.toNat) fun n55=>IfB (decide (n55<n52)) (Qn y26 b28 (IntKind.i64.wrap (n29+1)) w47) (Qx x8.fst.1 n29 (x8.fst.2:Int) fun b57 b58=>Qi w47 b57 (b58+n29.toNat) fun n59=>Qx x8.fst.1 n15 (x8.fst.2:Int) fun b60 b61=>Qi w47 b60 (b61+n15.toNat) fun n62=>IfB (decide (n59<n62)) (Qn y26 b28 (IntKind.i64.wrap (n29+1)) w47) (Ql (α:=Int) 0 w47 fun y64 b66 n67 w68=>(F45j4 t1 R b1 s11 n15 n22 y26 b28 n29 y64 b66 n67 w68)))))
def F45j3(t1:Sl)(R:RV)(b1:Nat)(x8:Sl×Bool)(s11:Sl)(n15:Int)(y19:Nat->Int->World->Prop)(b21:Nat)(n22:Int)(y26:Nat->Int->World->Prop)(b28:Nat)(n29:Int)(w30:World):Prop:=IfB (decide (n29<(t1.n:Int))) (F45k1 t1 n22 w30 n15 b28 y26 n29 b1 x8 R s11) (Qn y19 b21 (IntKind.i64.wrap (n22+1)) w30)
def F45j1(t1:Sl)(R:RV)(b1:Nat)(x8:Sl×Bool)(s11:Sl)(y12:Nat->Int->World->Prop)(b14:Nat)(n15:Int)(w16:World):Prop:=IfB (decide (n15<(t1.n:Int))) (Ql (α:=Int) 0 w16 fun y19 b21 n22 w23=>IfB (decide (n22<(t1.n:Int))) (Ql (α:=Int) 0 w23 fun y26 b28 n29 w30=>(F45j3 t1 R b1 x8 s11 n15 y19 b21 n22 y26 b28 n29 w30)) (Qn y12 b14 (IntKind.i64.wrap (n15+1)) w23)) (R (Value.bool true) w16)
theorem F45_ok(t0:Sl×List Value)(t1:Sl)(t2:Sl)(w:World)(R:RV)(h:AllocP w (Obj.cells { toList:=Qy t0.fst::t0.2 } 26) fun b1 w2=>Qv' 43 #[Qy t1,Qy t2] w2 fun t5 w4=>IfB (!t5) (R (Value.bool false) w4) (Cx 104 #[Qz (t1.2:Int),Qy t2] w4 fun v6 w7=>∃(x8:Sl×Bool),v6=Value.tuple #[Qy x8.fst,Value.bool x8.2]/\Qu' 93 #[Qy t1] w7 fun s11 w10=>Ql (α:=Int) 0 w10 fun y12 b14 n15 w16=>(F45j1 t1 R b1 x8 s11 y12 b14 n15 w16))):Cw 45 #[Value.agg { toList:=Qy t0.fst::t0.2 },Qy t1,Qy t2] w R:=
 ckF Tryz.func45 (nd (nd (nd (nd (nd (.node (nd (.loop [(11,oi)] (rg [6,6,11,14,30,123]) (nd (.node (nd (.loop [(12,oi)] (rg [6,6,12,14,35,123]) (nd (.node (nd (.loop [(13,oi)] (rg [6,6,13,14,40,123]) (nd (.node (.node (.node (.draw (sts [0,1,2,3,4,5,6,7,8,9,10,11,12,13,14,15,16,17,18,19,20] (.ac 21 [] (sts [22,23,24,25,26,27,28,29,30,31,32,33,34,35,36,37,38,39,40,41,42,43,44,45] .fin) .non))) .nil) (nd (.loop [(14,oi)] (rg [6,6,14,14,91,123]) (nd (.node (.node (.draw (sts [0,1,2,3,4,5,6,7,8] (.ac 9 [] (sts [10,11,12,13,14,15,16,17,18,19,20,21,22,23,24,25,26,27] .fin) .non))) .nil) .nil))))) .nil)))) .nil)))) .nil)))) .nil)))))) h (by kernel_rfl) (by kernel_rfl)
theorem and32{n:Int}(h0:0<=n)(h1:n<4294967296):bitsI BinOp.and IntKind.u64 n 4294967295=n:=by
 obtain⟨m,rfl⟩:=Int.eq_ofNat_of_zero_le h0
 show IntKind.u64.wrap (((BitVec.ofInt 64 (m:Int) &&& BitVec.ofInt 64 4294967295).toNat:Nat):Int)=(m:Int)
 rw[BitVec.toNat_and,BitVec.toNat_ofInt,BitVec.toNat_ofInt]
 have e1:((4294967295:Int)%((2^64:Nat):Int)).toNat=2^32-1:=by decide
 have e2:((m:Int)%((2^64:Nat):Int)).toNat=m:=by rw[Int.emod_eq_of_lt h0 (by omega)];rfl
 rw[e1,e2,Nat.and_two_pow_sub_one_eq_mod,Nat.mod_eq_of_lt (by omega)]
 exact wu64 (by omega)
theorem fd32{n:Int}(h0:0<=n)(h1:n<4294967296):n.fdiv (2^min (Int.toNat 32) IntKind.u64.bits)=0:=by
 have e:(2:Int)^min (Int.toNat 32) IntKind.u64.bits=4294967296:=by decide
 rw[e,Int.fdiv_eq_ediv_of_nonneg _ (by omega)]
 exact Int.ediv_eq_zero_of_lt h0 h1
theorem wu{n:Int}(h0:0<=n)(h1:n<4294967296):IntKind.u64.wrap n=n:=by
 obtain⟨m,rfl⟩:=Int.eq_ofNat_of_zero_le h0
 exact wu64 (by omega)
theorem c248{n:Int}(h0:0<=n)(h1:n<4294967296)(w:World):Cw 248 #[.int .u64 1,.int .u64 n] w fun v w'=>v=.tuple #[.int .u64 0,.int .u64 n]/\w=w':=by
 refine F248_ok _ _ w _ ⟨by decide,by decide,by decide,by decide,by decide,?_,rfl⟩
 have o0:(0:Int)<=1:=by decide
 have o1:(1:Int)<4294967296:=by decide
 have z0:(0:Int)<=0:=by decide
 have z1:(0:Int)<4294967296:=by decide
 simp only[fd32 o0 o1,fd32 h0 h1,and32 o0 o1,and32 h0 h1,Int.zero_mul,Int.mul_zero,Int.one_mul,wu z0 z1,wu h0 h1,fd32 z0 z1,and32 z0 z1,Int.add_zero]
theorem c215{n:Int}(h0:0<=n)(h1:n<4294967296)(w:World):Cw 215 #[.int .u64 1,.int .u64 n] w fun v w'=>v=.tuple #[.int .u64 0,.int .u64 n]/\w=w':=by
 refine F215_ok _ _ w _ ((c248 h0 h1 w).use ?_)
 rintro _ _ ⟨rfl,rfl⟩
 exact⟨(0,n),rfl,rfl,rfl⟩
theorem take_rep{α:Type}(n k:Nat)(a:α):(List.replicate n a).take k=List.replicate (min k n) a:=by simp
theorem FnB.own{w:World}{b n:Nat}{f:Nat->Value}(h:OwS w ⟨some ⟨b,0,none⟩,n,n⟩ 1 ((List.range n).map f)):FnB w b n f:=by
 rcases h with ⟨h,_⟩|⟨b',arr,T,h1,h2,h3,h4,h5⟩
 ·cases h
 ·cases h1
  refine⟨T,?_⟩
  have:arr.toList=(List.range n).map f:=by
   rw[<-h5,List.take_of_length_le]
   rw[Array.length_toList,h3];exact Nat.le_refl _
  rw[h2,<-this]
theorem c159{w:World}{t:Sl}{v0:Int}{n:Nat}(h:Rd w t 1 [iv v0])(hn:n<=1000):
  Cw 159 #[slV t,iv (n:Int)] w fun v w'=>∃b:Nat,v=slV ⟨some ⟨b,0,none⟩,n,n⟩/\FnB w' b n (fun _=>iv v0)/\Ext w w'/\w.heap.size<=b:=by
 have htn:t.n=1:=by have:=h.1;simp at this;omega
 refine F159_ok t (n:Int) w _ (IfB.no (by rw[decide_eq_false_iff_not];omega) ?_)
 rw[show (t.2:Int)=((1:Nat):Int) by show (t.n:Int)=_;rw[htn],wu64 (by omega),wu64 (by omega)]
 refine(c215 (n:=(n:Int)) (by omega) (by omega) w).use ?_
 rintro _ _ ⟨rfl,rfl⟩
 refine⟨(0,(n:Int)),rfl,IfB.no rfl (IfB.no (by rw[decide_eq_false_iff_not];dsimp only;omega) ?_)⟩
 have hw:IntKind.i64.wrap ((0,(n:Int)):Int×Int).2=(n:Int):=wrap_of (by dsimp only;omega) (by dsimp only;omega)
 rw[hw]
 refine⟨⟨by omega,by omega,by omega,by omega⟩,fun b4 w5 a4=>?_⟩
 rw[Int.toNat_natCast] at a4 ⊢
 have e5:Ext w w5:=a4.ch _
 have p4:=a4.here
 obtain⟨s,hs⟩:∃s:Sl,s=⟨some ⟨b4,0,none⟩,n,n⟩:=⟨_,rfl⟩
 have hsn:s.n=n:=by rw[hs]
 have hsc:s.c=n:=by rw[hs]
 have hsp:s.p=some ⟨b4,0,none⟩:=by rw[hs]
 have hbk:∀j∈blk s,j=b4:=fun j hj=>by rw[hs] at hj;simpa [blk] using hj
 rw[zc_all (v:=Value.int .i64 0) (by intro x hx;simpa using hx)] at a4
 have ho:OwS w5 s 1 (List.replicate n (iv 0)):=by
  rw[hs]
  refine OwS.new (w:=w) (T:=3) ?_ (by simp)
  simpa using a4
 have hR:=(h.ext e5).2
 rw[htn] at hR
 have hmin:Nat.min t.n n=min 1 n:=congrArg (fun z=>min z n) htn
 have rd1:ReadC w5 t.1 (min 1 n*1) (List.replicate (min 1 n) (iv v0)):=by
  rcases Nat.eq_zero_or_pos n with h0|h0
  ·rw[h0]
   have:min 1 0=0:=rfl
   rw[this]
   show ReadC w5 t.1 (0*1) []
   unfold ReadC at hR ⊢
   split
   ·exact⟨rfl,fun i v hv=>by cases hv⟩
   ·exact⟨rfl,rfl⟩
   ·rfl
  ·have:min 1 n=1:=by omega
   rw[this];exact hR
 have key:=copy_own (i:=0) (k:=n) (m:=t.n) (K:=fun n6 w7=>∃y8:Nat->Int->World->Prop,(∃b9:Nat,y8 b9 n6 w7)/\∀(b10:Nat)(n11:Int)(w12:World)(y13:Nat->Value),y8 b10 n11 w12->F159j1 (fun v w'=>∃b:Nat,v=slV ⟨some ⟨b,0,none⟩,n,n⟩/\FnB w' b n (fun _=>iv v0)/\Ext w w'/\w.heap.size<=b) (0,(n:Int)) b4 y8 b10 n11 w12) ho hmin rd1 (by simp) (by omega) (by intro v hv;rw[(List.mem_replicate.1 hv).2];rfl) (by rw[hsp];simp) fun w7 ho7 hC7=>?_
 ·rw[slAddr_zero,hsp] at key
  exact key
 refine⟨fun m z W=>∃k:Nat,k<=n/\m+k=n/\(k=0->n=0)/\z=(k:Int)/\OwS W s 1 (List.replicate k (iv v0)++List.replicate (n-k) (iv 0))/\Ext w W,⟨n-min 1 n,min 1 n,by omega,by omega,by omega,rfl,?_,e5.chN hC7 fun j hj=>by have:=hbk j hj;omega⟩,?_⟩
 ·simpa using ho7
 rintro m _ W g ⟨k,hk,hmk,hk0,rfl,hoW,eW⟩
 unfold F159j1
 rw[hw,Int.toNat_natCast]
 refine IfB.dec (fun hlt=>?_) fun hge=>?_
 ·have hk':k<n:=by omega
  have ed:=extDrew W
  have hoD:=hoW.ext ed
  refine⟨⟨by omega,by omega⟩,⟨by omega,by omega⟩,?_⟩
  rw[Int.toNat_natCast,slAddr_zero]
  have hmin2:Nat.min k (n-k)=min k (n-k):=rfl
  have rd2:ReadC W.drew (some ⟨b4,0,none⟩) (min k (n-k)*1) (List.replicate (min k (n-k)) (iv v0)):=by
   have h2:=hoD.rd.cut (k:=min k (n-k)) (by omega)
   have h3:ReadC W.drew s.p (min k (n-k)*1) ((List.replicate k (iv v0)++List.replicate (n-k) (iv 0)).take (min k (n-k)*1)):=h2.2
   rw[Nat.mul_one,List.take_append_of_le_length (by rw[List.length_replicate];omega),take_rep,Nat.min_eq_left (show min k (n-k)<=k by omega),hsp] at h3
   rw[Nat.mul_one]
   exact h3
  have key2:=copy_own (i:=k) (k:=n-k) (m:=k) (K:=fun n15 w16=>([]:List Nat)=[]/\∃b17:Nat,b17<m/\∃k':Nat,k'<=n/\b17+k'=n/\(k'=0->n=0)/\IntKind.i64.wrap ((k:Int)+n15)=(k':Int)/\OwS w16 s 1 (List.replicate k' (iv v0)++List.replicate (n-k') (iv 0))/\Ext w w16) hoD hmin2 rd2 (by simp) (by omega) (by intro v hv;rw[(List.mem_replicate.1 hv).2];rfl) (by rw[hsp];simp) fun w16 ho16 hC16=>⟨rfl,m-min k (n-k),by omega,k+min k (n-k),by omega,by omega,by omega,by rw[wrap_of (by omega) (by omega)];omega,?_,(eW.trans ed).chN hC16 fun j hj=>by have:=hbk j hj;have:=eW.size;omega⟩
  ·rw[hsp,hsc] at key2
   exact key2
  ·rw[Nat.mul_one,List.take_append_of_le_length (by rw[List.length_replicate];exact Nat.le_refl _),take_rep,Nat.min_self,List.replicate_append_replicate,List.drop_append,List.drop_of_length_le (by rw[List.length_replicate];omega),List.nil_append,List.drop_replicate,List.length_replicate] at ho16
   rw[show n-k-((k+min k (n-k))*1-k)=n-(k+min k (n-k)) by omega] at ho16
   exact ho16
 ·have hkn:k=n:=by omega
  subst hkn
  refine⟨b4,rfl,FnB.own ?_,eW,by omega⟩
  rw[Nat.sub_self,List.replicate_zero,List.append_nil,hs] at hoW
  rw[List.map_const',List.length_range]
  exact hoW
def PermI(n:Nat)(order:List Int):Prop:=order.length=n/\order.Nodup/\∀k∈order,0<=k/\k<(n:Int)
def plc(order:List Int)(k:Nat):Nat:=pos (order.map Int.toNat) k
theorem PermI.nat{n:Nat}{order:List Int}(h:PermI n order):(order.map Int.toNat).Nodup/\(order.map Int.toNat).length=n/\∀i∈order.map Int.toNat,i<n:=by
 obtain⟨h1,h2,h3⟩:=h
 refine⟨?_,by rw[List.length_map,h1],fun i hi=>?_⟩
 ·rw[List.nodup_iff_pairwise_ne,List.pairwise_map]
  rw[List.nodup_iff_pairwise_ne] at h2
  exact h2.imp_of_mem fun ha hb hne e=>hne (by have:=h3 _ ha;have:=h3 _ hb;omega)
 ·obtain⟨k,hk,rfl⟩:=List.mem_map.1 hi
  have:=h3 k hk;omega
theorem PermI.inj{n:Nat}{order:List Int}(h:PermI n order){i j:Nat}(hi:i<n)(hj:j<n)(e:plc order i=plc order j):i=j:=by
 obtain⟨h1,h2,h3⟩:=h.nat
 have g1:=pos_get (full_mem h1 h3 h2 hi)
 have g2:=pos_get (full_mem h1 h3 h2 hj)
 unfold plc at e
 rw[e,g2] at g1
 exact(Option.some.inj g1).symm
def plF(order:List Int)(i k:Nat):Value:=iv (if (k:Int)∈order.take i then (plc order k:Int) else -1)
structure PlJ(n:Nat)(order:List Int)(i:Nat):Prop where
 nd:(order.take i).Nodup
 rg:∀k∈order.take i,0<=k/\k<(n:Int)
theorem PlJ.no{n:Nat}{order:List Int}{i:Nat}{x:Int}(hx:order[i]? =some x)(h:¬(0<=x/\x<(n:Int))\/x∈order.take i):¬PermI n order:=by
 rintro⟨h1,h2,h3⟩
 rcases h with h|h
 ·exact h (h3 x (List.mem_of_getElem? hx))
 ·obtain⟨j,hj,e⟩:=List.getElem_of_mem h
  rw[List.length_take] at hj
  rw[List.getElem_take] at e
  obtain⟨hi,e2⟩:=List.getElem?_eq_some_iff.1 hx
  rw[List.nodup_iff_pairwise_ne,List.pairwise_iff_getElem] at h2
  exact h2 j i (by omega) hi (by omega) (e.trans e2.symm)
theorem PlJ.step{n:Nat}{order:List Int}{i:Nat}{x:Int}(h:PlJ n order i)(hx:order[i]? =some x)(h0:0<=x)(hn:x<(n:Int))(hno:x∉order.take i):PlJ n order (i+1)/\plc order x.toNat=i:=by
 have htk:=take_succ_get hx
 refine⟨⟨?_,fun k hk=>?_⟩,?_⟩
 ·rw[htk]
  exact List.nodup_append.2 ⟨h.nd,by simp,fun a ha b hb=>by rw[List.mem_singleton.1 hb];exact fun e=>hno (e ▸ ha)⟩
 ·rw[htk] at hk
  rcases List.mem_append.1 hk with hk|hk
  ·exact h.rg k hk
  ·rw[List.mem_singleton.1 hk];exact⟨h0,hn⟩
 ·have hi:=get_lt hx
  have hsp:order.map Int.toNat=(order.take i).map Int.toNat++x.toNat::(order.drop (i+1)).map Int.toNat:=by
   obtain⟨_,e⟩:=List.getElem?_eq_some_iff.1 hx
   rw[<-List.map_cons (f:=Int.toNat),<-e,<-List.drop_eq_getElem_cons hi,<-List.map_append,List.take_append_drop]
  unfold plc
  rw[hsp,pos_not]
  ·rw[List.length_map,List.length_take];omega
  ·intro hm
   obtain⟨k,hk,e⟩:=List.mem_map.1 hm
   have:=h.rg k hk
   exact hno (by rw[show x=k by omega];exact hk)
theorem plF_step{n:Nat}{order:List Int}{i:Nat}{x:Int}(hx:order[i]? =some x)(h0:0<=x)(hp:plc order x.toNat=i)(k:Nat):(if k=x.toNat then iv (i:Int) else plF order i k)=plF order (i+1) k:=by
 have htk:=take_succ_get hx
 unfold plF
 rw[htk]
 by_cases hk:k=x.toNat
 ·rw[if_pos hk,if_pos (List.mem_append.2 (.inr (by rw[hk];simp;omega))),hk,hp]
 ·rw[if_neg hk]
  have:(k:Int)∈order.take i++[x]↔(k:Int)∈order.take i:=by
   rw[List.mem_append,List.mem_singleton]
   exact⟨fun h=>h.elim id fun h=>absurd (by omega) hk,.inl⟩
  by_cases hm:(k:Int)∈order.take i
  ·rw[if_pos hm,if_pos (this.2 hm)]
  ·rw[if_neg hm,if_neg fun h=>hm (this.1 h)]
theorem PlJ.all{n:Nat}{order:List Int}(h:PlJ n order order.length):PermI n order↔order.length=n:=by
 have h1:=h.nd;have h2:=h.rg
 rw[List.take_length] at h1 h2
 exact⟨fun h=>h.1,fun h=>⟨h,h1,h2⟩⟩
theorem plF_all{n:Nat}{order:List Int}(h:PermI n order){k:Nat}(hk:k<n):plF order order.length k=iv (plc order k:Int):=by
 unfold plF
 rw[List.take_length,if_pos]
 obtain⟨h1,h2,h3⟩:=h.nat
 obtain⟨j,hj,e⟩:=List.mem_map.1 (full_mem h1 h3 h2 hk)
 have:=h.2.2 j hj
 rw[show (k:Int)=j by omega];exact hj
def PlOut(w w':World)(n:Nat)(order:List Int)(v:Value):Prop:=∃(s:Sl)(ok:Bool),v=.tuple #[slV s,.bool ok]/\(ok=true↔PermI n order)/\(ok=true->∃b,s=⟨some ⟨b,0,none⟩,n,n⟩/\FnB w' b n fun k=>iv (plc order k:Int))/\Ext w w'
theorem PlOut.no{w w':World}{n:Nat}{order:List Int}(h:¬PermI n order)(e:Ext w w'):PlOut w w' n order (.tuple #[slV ⟨none,0,0⟩,.bool false]):=
 ⟨_,false,rfl,⟨fun h=>(by cases h),fun h'=>absurd h' h⟩,fun h=>(by cases h),e⟩
theorem PlOut.end{w w':World}{n b:Nat}{order:List Int}(h:PlJ n order order.length)(hf:FnB w' b n (plF order order.length))(e:Ext w w'):PlOut w w' n order (.tuple #[slV ⟨some ⟨b,0,none⟩,n,n⟩,.bool ((order.length:Int) == (n:Int))]):=by
 have hiff:((order.length:Int) == (n:Int))=true↔PermI n order:=by
  rw[h.all,beq_iff_eq];omega
 exact⟨_,_,rfl,hiff,fun hb=>⟨b,rfl,hf.congr fun k hk=>plF_all (hiff.1 hb) hk⟩,e⟩
theorem c102{w:World}{t:Sl}{order:List Int}{n:Nat}(hR:Rd w t 1 (order.map iv))(hl:order.length<=1000)(hn:n<=1000):
  Cw 102 #[iv (n:Int),slV t] w fun v w'=>PlOut w w' n order v:=by
 have htn:=rdI hR
 refine F102_ok (n:Int) t w _ ⟨by decide,fun b1 w2 a2=>?_⟩
 have e2:Ext w w2:=a2.ch _
 have hr0:Rd w2 ⟨some ⟨b1,0,none⟩,1,1⟩ 1 [iv (-1:Int)]:=(OwS.new (sz:=1) (n:=1) (cs:=[iv (-1:Int)]) a2 rfl).rd
 refine(c159 hr0 hn).use ?_
 rintro _ w4 ⟨b,rfl,hf,e4,hb⟩
 have z2:=e2.size
 refine⟨⟨some ⟨b,0,none⟩,n,n⟩,rfl,fun m z W=>∃i:Nat,i<=order.length/\m+i=order.length/\z=(i:Int)/\PlJ n order i/\FnB W b n (plF order i)/\Ext w W,⟨order.length,0,Nat.zero_le _,rfl,rfl,⟨by simp,by simp⟩,hf.congr fun k _=>by simp[plF],e2.trans e4⟩,?_⟩
 rintro m _ W g ⟨i,hi,hmi,rfl,hP,hfW,eW⟩
 unfold F102j1
 refine IfB.dec (fun hlt=>?_) fun hge=>?_
 ·have hi':i<order.length:=by omega
  have hx:order[i]? =some order[i]:=List.getElem?_eq_getElem hi'
  generalize order[i]=x at hx
  obtain⟨pb,po,hp,hc⟩:=rdI_get (hR.ext eW) hx
  refine⟨pb,po,hp,⟨by omega,hlt⟩,x,by rw[Int.toNat_natCast];exact hc,IfB.dec (fun h1=>PlOut.no (PlJ.no hx (.inl (by omega))) eW) fun h1=>IfB.dec (fun h2=>PlOut.no (PlJ.no hx (.inl (by omega))) eW) fun h2=>?_⟩
  have hxt:((x.toNat:Nat):Int)=x:=by omega
  have hbx:(0:Int)<=x/\x<(n:Int):=⟨by omega,by omega⟩
  refine⟨b,0,rfl,hbx,if ((x.toNat:Nat):Int)∈order.take i then (plc order x.toNat:Int) else -1,hfW.get (by omega) (by omega),IfB.dec (fun h3=>PlOut.no (PlJ.no hx (.inr ?_)) eW) fun h3=>⟨b,0,rfl,hbx,rfl,hfW.put (j:=x.toNat) (by omega) (by omega) rfl fun W' hf' hC'=>?_⟩⟩
  ·rw[hxt] at h3
   split at h3
   ·assumption
   ·omega
  ·have hno:x∉order.take i:=fun hm=>by
    rw[hxt,if_pos hm] at h3;omega
   obtain⟨hs1,hs2⟩:=hP.step hx (by omega) (by omega) hno
   exact⟨rfl,m-1,by omega,i+1,hi',by omega,by rw[wrap_of (by omega) (by omega)];rfl,hs1,hf'.congr fun k _=>plF_step (n:=n) hx (by omega) hs2 k,eW.chN hC' fun j e=>by omega⟩
 ·have hi':i=order.length:=by omega
  subst hi'
  have:=PlOut.end hP hfW eW
  rw[show (t.2:Int)=((order.length:Nat):Int) by show (t.n:Int)=_;rw[htn]]
  exact this
theorem c104{w:World}{t:Sl}{order:List Int}{n:Nat}(hR:Rd w t 1 (order.map iv))(hl:order.length<=1000)(hn:n<=1000):
  Cw 104 #[iv (n:Int),slV t] w fun v w'=>PlOut w w' n order v:=by
 have htn:=rdI hR
 refine F104_ok (n:Int) t w _ ⟨⟨by omega,by omega,by omega,by omega⟩,fun b w2 a2=>?_⟩
 rw[Int.toNat_natCast] at a2
 have e2:Ext w w2:=a2.ch _
 have hb:=a2.here
 have h0:=FnB.new a2
 refine⟨fun m z W=>∃i:Nat,i<=n/\m+i=n/\z=(i:Int)/\FnB W b n (fun k=>if k<i then iv (-1) else iv 0)/\Ext w W,⟨n,0,Nat.zero_le _,rfl,rfl,h0.congr fun k _=>by simp,e2⟩,?_⟩
 rintro m _ W g ⟨i,hi,hmi,rfl,hfW,eW⟩
 unfold F104j1
 refine IfB.dec (fun hlt=>?_) fun hge=>?_
 ·have hi':i<n:=by omega
  refine⟨b,0,rfl,⟨by omega,by omega⟩,rfl,hfW.put (j:=i) hi' (by omega) rfl fun W' hf' hC'=>⟨rfl,m-1,by omega,i+1,hi',by omega,by rw[wrap_of (by omega) (by omega)];rfl,hf'.congr fun k _=>?_,eW.chN hC' fun j e=>by omega⟩⟩
  by_cases h1:k=i
  ·rw[if_pos h1,if_pos (by omega)]
  ·rw[if_neg h1]
   by_cases h2:k<i
   ·rw[if_pos h2,if_pos (by omega)]
   ·rw[if_neg h2,if_neg (by omega)]
 have hi':i=n:=by omega
 subst hi'
 refine⟨fun m z W=>∃q:Nat,q<=order.length/\m+q=order.length/\z=(q:Int)/\PlJ i order q/\FnB W b i (plF order q)/\Ext w W,⟨order.length,0,Nat.zero_le _,rfl,rfl,⟨by simp,by simp⟩,hfW.congr fun k hk=>by simp[plF,hk],eW⟩,?_⟩
 rintro m2 _ W2 g2 ⟨q,hq,hmq,rfl,hP,hfW2,eW2⟩
 unfold F104j2
 refine IfB.dec (fun hlt=>?_) fun hge2=>?_
 ·have hq':q<order.length:=by omega
  have hx:order[q]? =some order[q]:=List.getElem?_eq_getElem hq'
  generalize order[q]=x at hx
  obtain⟨pb,po,hp,hc⟩:=rdI_get (hR.ext eW2) hx
  have hbq:(0:Int)<=(q:Int)/\(q:Int)<(t.n:Int):=⟨by omega,hlt⟩
  have hcx:W2.cell? ⟨pb,po+(q:Int).toNat,none⟩=some (iv x):=by rw[Int.toNat_natCast];exact hc
  refine⟨pb,po,hp,hbq,x,hcx,IfB.dec (fun h1=>PlOut.no (PlJ.no hx (.inl (by omega))) eW2) fun h1=>⟨pb,po,hp,hbq,x,hcx,IfB.dec (fun h2=>PlOut.no (PlJ.no hx (.inl (by omega))) eW2) fun h2=>?_⟩⟩
  have hxt:((x.toNat:Nat):Int)=x:=by omega
  have hbx:(0:Int)<=x/\x<(((i:Int).toNat:Nat):Int):=⟨by omega,by omega⟩
  refine⟨pb,po,hp,hbq,x,hcx,b,0,rfl,hbx,if ((x.toNat:Nat):Int)∈order.take q then (plc order x.toNat:Int) else -1,hfW2.get (by omega) (by omega),IfB.dec (fun h3=>PlOut.no (PlJ.no hx (.inr ?_)) eW2) fun h3=>⟨pb,po,hp,hbq,x,hcx,b,0,rfl,hbx,rfl,hfW2.put (j:=x.toNat) (by omega) (by omega) rfl fun W' hf' hC'=>?_⟩⟩
  ·rw[hxt] at h3
   split at h3
   ·assumption
   ·omega
  ·have hno:x∉order.take q:=fun hm=>by
    rw[hxt,if_pos hm] at h3;omega
   obtain⟨hs1,hs2⟩:=hP.step hx (by omega) (by omega) hno
   exact⟨rfl,m2-1,by omega,q+1,hq',by omega,by rw[wrap_of (by omega) (by omega)];rfl,hs1,hf'.congr fun k _=>plF_step (n:=i) hx (by omega) hs2 k,eW2.chN hC' fun j e=>by omega⟩
 ·have hq':q=order.length:=by omega
  subst hq'
  have:=PlOut.end hP hfW2 eW2
  rw[show (t.2:Int)=((order.length:Nat):Int) by show (t.n:Int)=_;rw[htn],Int.toNat_natCast]
  exact this
def KeepO(hs:List Nd)(order:List Int):Prop:=PermI hs.length order/\∀i k,EdP hs i k->plc order k<plc order i
theorem dir_ne{hs:List Nd}{order:List Int}(h:PermI hs.length order){i k:Nat}(hi:i<hs.length)(hk:k<i):plc order k<plc order i↔¬plc order i<plc order k:=by
 have:plc order k≠plc order i:=fun e=>by have:=h.inj (by omega) hi e;omega
 omega
theorem c42{w:World}{v:CatV}{x:CatD}{t u:Sl}{hs:List Nd}{order:List Int}(h:CatM w v x)(hH:Hst w t hs)(hl:hs.length<=1000)(hO:Rd w u 1 (order.map iv))(hol:order.length<=1000):
  Cw 42 #[cxV v,slV t,slV u] w fun r w'=>∃b,r=.bool b/\(b=true↔HMay x hs/\KeepO hs order)/\Ext w w':=by
 have htn:=hH.n
 refine F42_ok v t u w _ fun b1 w2 a2=>?_
 have e2:Ext w w2:=a2.ch _
 rw[show (t.2:Int)=((hs.length:Nat):Int) by show (t.n:Int)=_;rw[htn]]
 refine(c102 (hO.ext e2) hol hl).use ?_
 rintro _ w4 ⟨s,ok,rfl,hok,hpl,e4⟩
 have E4:=e2.trans e4
 have no:∀ {W:World},¬(HMay x hs/\KeepO hs order)->Ext w W->∃b,Value.bool false=.bool b/\(b=true↔HMay x hs/\KeepO hs order)/\Ext w W:=fun h e=>⟨false,rfl,⟨fun h=>(by cases h),fun h'=>absurd h' h⟩,e⟩
 refine⟨(s,ok),rfl,IfB.intro (fun h1=>no (fun hh=>by rw[hok.2 hh.2.1] at h1;cases h1) E4) fun h1=>?_⟩
 have hk1:ok=true:=by simpa using h1
 have hP:=hok.1 hk1
 obtain⟨b,rfl,hf⟩:=hpl hk1
 refine⟨v,cxN h a2.new e4,(c84 (h.ext E4) (hH.ext E4)).use ?_⟩
 rintro _ w10 ⟨m,rfl,hm,e10⟩
 have E10:=E4.trans e10
 refine⟨m,rfl,IfB.intro (fun h2=>no (fun hh=>by rw[hm.2 hh.1] at h2;cases h2) E10) fun h2=>?_⟩
 have hM:=hm.1 (by simpa using h2)
 have hf10:=hf.ext e10
 refine⟨fun m z W=>∃i:Nat,i<=hs.length/\m+i=hs.length/\z=(i:Int)/\(∀i' k,i'<i->EdP hs i' k->plc order k<plc order i')/\Ext w10 W,⟨hs.length,0,Nat.zero_le _,rfl,rfl,fun i' k hi=>absurd hi (Nat.not_lt_zero _),Ch.refl _ _⟩,?_⟩
 rintro m1 _ W g ⟨i,hi,hmi,rfl,hall,eW⟩
 refine IfB.dec (fun hlt=>?_) fun hge=>?_
 ·have hi':i<hs.length:=by omega
  refine⟨fun m z V=>∃k:Nat,k<=i/\m+k=i/\z=(k:Int)/\(∀k',k'<k->EdP hs i k'->plc order k'<plc order i)/\Ext w10 V,⟨i,0,Nat.zero_le _,rfl,rfl,fun k' hk=>absurd hk (Nat.not_lt_zero _),eW⟩,?_⟩
  rintro m2 _ V g2 ⟨k,hk,hmk,rfl,hin,eV⟩
  unfold F42j2
  refine IfB.dec (fun hlk=>?_) fun hgk=>?_
  ·have hk':k<i:=by omega
   have ed:=extDrew V
   have hwk:IntKind.i64.wrap ((k:Int)+1)=((k+1:Nat):Int):=by rw[wrap_of (by omega) (by omega)];rfl
   refine(c103 (hH.ext (E10.trans (eV.trans ed))) (i:Int) (k:Int)).use ?_
   rintro _ w27 ⟨r,rfl,hr,e27⟩
   rw[Int.toNat_natCast,Int.toNat_natCast] at hr
   have x27:=(eV.trans ed).trans e27
   have next:(EdP hs i k->plc order k<plc order i)->([]:List Nat)=[]/\∃b,b<m2/\∃k':Nat,k'<=i/\b+k'=i/\IntKind.i64.wrap ((k:Int)+1)=(k':Int)/\(∀q,q<k'->EdP hs i q->plc order q<plc order i)/\Ext w10 w27:=fun hh=>⟨rfl,m2-1,by omega,k+1,hk',by omega,hwk,fun q hq hE=>by
    rcases Nat.lt_or_ge q k with h'|h'
    ·exact hin q h' hE
    ·rw[show q=k by omega] at hE ⊢;exact hh hE,x27⟩
   refine⟨r,rfl,IfB.intro (fun h3=>?_) fun h3=>next fun hE=>?_⟩
   ·obtain⟨_,_,hE⟩:=hr.1 h3
    have hf27:=hf10.ext x27
    refine⟨b,0,rfl,⟨by omega,by dsimp only;omega⟩,(plc order k:Int),by rw[Nat.zero_add,Int.toNat_natCast];exact hf27.get (by omega) rfl,b,0,rfl,⟨by omega,by dsimp only;omega⟩,(plc order i:Int),by rw[Nat.zero_add,Int.toNat_natCast];exact hf27.get hi' rfl,IfB.dec (fun h4=>no (fun hh=>?_) (E10.trans x27)) fun h4=>next fun _=>(dir_ne hP hi' hk').2 (by omega)⟩
    have:=hh.2.2 i k hE;omega
   ·rw[hr.2 ⟨by omega,by omega,hE⟩] at h3;cases h3
  ·have hki:k=i:=by omega
   subst hki
   refine⟨rfl,m1-1,by omega,k+1,hi',by omega,by rw[wrap_of (by omega) (by omega)];rfl,fun i' q hi2 hE=>?_,eV⟩
   rcases Nat.lt_or_ge i' k with h'|h'
   ·exact hall i' q h' hE
   ·have:i'=k:=by omega
    subst this
    exact hin q hE.1 hE
 ·have hi':i=hs.length:=by omega
  subst hi'
  exact⟨true,rfl,⟨fun _=>⟨hM,hP,fun i k hE=>hall i k (by obtain⟨_,a,_,ga,_⟩:=hE;exact get_lt ga) hE⟩,fun _=>rfl⟩,E10.trans eW⟩
theorem c43{w:World}{t u:Sl}{hs:List Nd}{order:List Int}(hH:Hst w t hs)(hl:hs.length<=1000)(hO:Rd w u 1 (order.map iv))(hol:order.length<=1000):
  Cw 43 #[slV t,slV u] w fun r w'=>∃b,r=.bool b/\(b=true↔KeepO hs order)/\Ext w w':=by
 have htn:=hH.n
 refine F43_ok t u w _ ?_
 unfold F43
 rw[show (t.2:Int)=((hs.length:Nat):Int) by show (t.n:Int)=_;rw[htn]]
 refine(c104 hO hol hl).use ?_
 rintro _ w2 ⟨s,ok,rfl,hok,hpl,e2⟩
 have no:∀ {W:World},¬KeepO hs order->Ext w W->∃b,Value.bool false=.bool b/\(b=true↔KeepO hs order)/\Ext w W:=fun h e=>⟨false,rfl,⟨fun h=>(by cases h),fun h'=>absurd h' h⟩,e⟩
 refine⟨(s,ok),rfl,IfB.intro (fun h1=>no (fun hh=>by rw[hok.2 hh.1] at h1;cases h1) e2) fun h1=>?_⟩
 have hk1:ok=true:=by simpa using h1
 have hP:=hok.1 hk1
 obtain⟨b,rfl,hf⟩:=hpl hk1
 refine⟨fun m z W=>∃i:Nat,i<=hs.length/\m+i=hs.length/\z=(i:Int)/\(∀i' k,i'<i->EdP hs i' k->plc order k<plc order i')/\Ext w2 W,⟨hs.length,0,Nat.zero_le _,rfl,rfl,fun i' k hi=>absurd hi (Nat.not_lt_zero _),Ch.refl _ _⟩,?_⟩
 rintro m1 _ W g ⟨i,hi,hmi,rfl,hall,eW⟩
 refine IfB.dec (fun hlt=>?_) fun hge=>?_
 ·have hi':i<hs.length:=by omega
  have gi:hs[i]? =some hs[i]:=List.getElem?_eq_getElem hi'
  generalize hs[i]=ni at gi
  refine⟨fun m z V=>∃k:Nat,k<=i/\m+k=i/\z=(k:Int)/\(∀k',k'<k->EdP hs i k'->plc order k'<plc order i)/\Ext w2 V,⟨i,0,Nat.zero_le _,rfl,rfl,fun k' hk=>absurd hk (Nat.not_lt_zero _),eW⟩,?_⟩
  rintro m2 _ V g2 ⟨k,hk,hmk,rfl,hin,eV⟩
  unfold F43j2
  refine IfB.dec (fun hlk=>?_) fun hgk=>?_
  ·have hk':k<i:=by omega
   have gk:hs[k]? =some (hs[k]'(by omega)):=List.getElem?_eq_getElem (by omega)
   generalize hs[k]'_=nk at gk
   have ed:=extDrew V
   have xd:=eV.trans ed
   have hwk:IntKind.i64.wrap ((k:Int)+1)=((k+1:Nat):Int):=by rw[wrap_of (by omega) (by omega)];rfl
   have hEd:EdP hs i k↔dirP ni nk:=⟨fun⟨_,a,c,ga,gc,hd⟩=>by rw[gi] at ga;rw[gk] at gc;cases ga;cases gc;exact hd,fun hd=>⟨hk',ni,nk,gi,gk,hd⟩⟩
   have next:∀ {U:World},Ext w2 U->(EdP hs i k->plc order k<plc order i)->([]:List Nat)=[]/\∃b,b<m2/\∃k':Nat,k'<=i/\b+k'=i/\IntKind.i64.wrap ((k:Int)+1)=(k':Int)/\(∀q,q<k'->EdP hs i q->plc order q<plc order i)/\Ext w2 U:=fun eU hh=>⟨rfl,m2-1,by omega,k+1,hk',by omega,hwk,fun q hq hE=>by
    rcases Nat.lt_or_ge q k with h'|h'
    ·exact hin q h' hE
    ·rw[show q=k by omega] at hE ⊢;exact hh hE,eU⟩
   have bi:(0:Int)<=(i:Int)/\(i:Int)<(t.n:Int):=⟨by omega,by omega⟩
   have bk:(0:Int)<=(k:Int)/\(k:Int)<(t.n:Int):=⟨by omega,by omega⟩
   have ck:∀ {U:World},Ext w2 U->U.cell? ⟨b,0+(k:Int).toNat,none⟩=some (iv (plc order k:Int)):=fun e=>by rw[Nat.zero_add,Int.toNat_natCast];exact(hf.ext e).get (by omega) rfl
   have ci:∀ {U:World},Ext w2 U->U.cell? ⟨b,0+(i:Int).toNat,none⟩=some (iv (plc order i:Int)):=fun e=>by rw[Nat.zero_add,Int.toNat_natCast];exact(hf.ext e).get hi' rfl
   have bi2:(0:Int)<=(i:Int)/\(i:Int)<((hs.length:Nat):Int):=⟨by omega,by omega⟩
   have bk2:(0:Int)<=(k:Int)/\(k:Int)<((hs.length:Nat):Int):=⟨by omega,by omega⟩
   unfold F43k1
   obtain⟨pi,oi,hpi,hci⟩:=(hH.ext (e2.trans xd)).at gi
   obtain⟨pk,ok',hpk,hck⟩:=(hH.ext (e2.trans xd)).at gk
   refine⟨pi,oi,hpi,bi,ni.v.1,by rw[Int.toNat_natCast];exact hci 0 _ rfl,pk,ok',hpk,bk,nk.v.1,by rw[Int.toNat_natCast];exact hck 0 _ rfl,IfB.intro (fun hs1=>?_) fun hs1=>?_⟩
   ·have hE:EdP hs i k:=hEd.2 (.inl (by simpa using hs1))
    refine⟨b,0,rfl,bk2,_,ck xd,b,0,rfl,bi2,_,ci xd,IfB.dec (fun h4=>no (fun hh=>?_) (e2.trans xd)) fun h4=>next xd fun _=>(dir_ne hP hi' hk').2 (by omega)⟩
    have:=hh.2 i k hE;omega
   ·have hs1:ni.v.1≠nk.v.1:=by simpa using hs1
    refine⟨pi,oi,hpi,bi,ni.v,by rw[Int.toNat_natCast];exact hci,pk,ok',hpk,bk,nk.v,by rw[Int.toNat_natCast];exact hck,(c36 ((hH.ext (e2.trans xd)).get gi) ((hH.ext (e2.trans xd)).get gk)).use ?_⟩
    rintro _ w38 ⟨r,rfl,hr,e38⟩
    have x38:=xd.trans e38
    refine⟨r,rfl,IfB.intro (fun h3=>?_) fun h3=>next x38 fun hE=>?_⟩
    ·have hE:EdP hs i k:=hEd.2 (.inr (hr.1 h3))
     refine⟨b,0,rfl,bk2,_,ck x38,b,0,rfl,bi2,_,ci x38,IfB.dec (fun h4=>no (fun hh=>?_) (e2.trans x38)) fun h4=>next x38 fun _=>(dir_ne hP hi' hk').2 (by omega)⟩
     have:=hh.2 i k hE;omega
    ·rcases hEd.1 hE with hd|hd
     ·exact absurd hd hs1
     ·rw[hr.2 hd] at h3;cases h3
  ·have hki:k=i:=by omega
   subst hki
   refine⟨rfl,m1-1,by omega,k+1,hi',by omega,by rw[wrap_of (by omega) (by omega)];rfl,fun i' q hi2 hE=>?_,eV⟩
   rcases Nat.lt_or_ge i' k with h'|h'
   ·exact hall i' q h' hE
   ·have:i'=k:=by omega
    subst this
    exact hin q hE.1 hE
 ·have hi':i=hs.length:=by omega
  subst hi'
  exact⟨true,rfl,⟨fun _=>⟨hP,fun i k hE=>hall i k (by obtain⟨_,a,_,ga,_⟩:=hE;exact get_lt ga) hE⟩,fun _=>rfl⟩,e2.trans eW⟩
theorem unit_in{x:CatD}{hs:List Nd}(hM:HMay x hs){i l u:Nat}{a:Nd}{d:Int}(ha:hs[i]? =some a)(h1:a.v.2.2.2.1=false)(hd:0<=d)(hB:BndP x a.v.2.1.toNat d.toNat a.v.2.2.1.toNat l u){k:Nat}{n:Nd}(hn:hs[k]? =some n):InP x hs i k d↔n.v.1=a.v.1/\n.v.2.2.2.1=false/\(l:Int)<=n.v.2.2.1/\n.v.2.2.1<=(u:Int):=by
 have sn:=hM.step hn
 have sa:=hM.step ha
 have oa:=hM.ok i a ha
 have key:n.v.1=a.v.1->(uN x a.v.2.1 d a.v.2.2.1.toNat=uN x a.v.2.1 d n.v.2.2.1.toNat↔(l:Int)<=n.v.2.2.1/\n.v.2.2.1<=(u:Int)):=fun he=>by
  have hcl:=hM.cls hn ha he
  rw[uN_of oa.c0 hd,uN_of oa.c0 hd,eq_comm,hB.iff (by rw[<-hcl];omega)]
  omega
 constructor
 ·rintro(rfl|⟨a',b',ha',hb',h2,h3,h4,h5⟩)
  ·rw[ha] at hn;cases hn
   have:=hB.l;have:=hB.h
   exact⟨rfl,h1,by omega,by omega⟩
  ·rw[ha] at ha';rw[hn] at hb'
   cases ha';cases hb'
   exact⟨h2.symm,h4,(key h2.symm).1 h5⟩
 ·rintro⟨h2,h3,h4⟩
  exact .inr ⟨a,n,ha,hn,h2.symm,h1,h3,(key h2).2 h4⟩
theorem c105{w:World}{v:CatV}{x:CatD}{t:Sl}{hs:List Nd}(h:CatM w v x)(hH:Hst w t hs)(hM:HMay x hs){i:Nat}(hi:i<hs.length){d:Int}(hd:0<=d/\d<(x.1.length:Int)):
  Cw 105 #[cxV v,slV t,iv i,iv d] w fun r w'=>∃(t':Sl)(us:List Nat),r=slV t'/\(∀k:Nat,k∈us↔InP x hs i k d)/\us.length<=hs.length+1/\OwS w' t' 1 (us.map fun k:Nat=>iv (k:Int))/\Ext w w':=by
 have htn:=hH.n
 have hl100:=hM.len
 have ha:hs[i]? =some hs[i]:=List.getElem?_eq_getElem hi
 generalize hs[i]=a at ha
 have sa:=hM.step ha
 have oa:=hM.ok i a ha
 have hbd:(0:Int)<=(i:Int)/\(i:Int)<(t.n:Int):=⟨by omega,by omega⟩
 refine F105_ok v t (i:Int) d w _ fun b1 w2 a2=>?_
 have e2:Ext w w2:=a2.ch _
 obtain⟨p1,o1,hp1,hc1⟩:=(hH.ext e2).at ha
 refine⟨p1,o1,hp1,hbd,a.v.2.2.2.1,by rw[Int.toNat_natCast];exact hc1 3 _ rfl,IfB.intro (fun h1=>⟨by decide,fun b6 w7 a6=>⟨_,[i],rfl,fun k=>?_,by simp,OwS.new (sz:=1) (n:=1) (cs:=[iv (i:Int)]) a6 rfl,e2.trans (a6.ch _)⟩⟩) fun h1=>?_⟩
 ·rw[List.mem_singleton]
  constructor
  ·rintro rfl;exact .inl rfl
  ·rintro(e|⟨a',b',ha',_,_,hb',_⟩)
   ·exact e.symm
   ·rw[ha] at ha';cases ha';rw[h1] at hb';cases hb'
 have ed:=extDrew w2
 have E2:=e2.trans ed
 obtain⟨p2,o2,hp2,hc2⟩:=(hH.ext E2).at ha
 refine⟨v,cxN h a2.new ed,p2,o2,hp2,hbd,a.v.2.1,by rw[Int.toNat_natCast];exact hc2 1 _ rfl,p2,o2,hp2,hbd,a.v.2.2.1,by rw[Int.toNat_natCast];exact hc2 2 _ rfl,(c136 (h.ext E2) hM.cat a.v.2.1 d a.v.2.2.1).use ?_⟩
 rintro _ w16 ⟨lo,up,b,rfl,hb,hlu,e16⟩
 have E16:=E2.trans e16
 obtain⟨l,u,rfl,rfl,hB⟩:=hlu (hb.2 ⟨⟨oa.c0,oa.cn⟩,hd,sa.1,sa.2.1⟩)
 have hin:=fun{k:Nat} {n:Nd} (hn:hs[k]? =some n)=>unit_in hM ha h1 hd.1 hB hn
 have z16:=E16.size
 refine⟨((l:Int),(u:Int),b),rfl,fun m z W=>∃(k:Nat)(us:List Nat)(so:Sl),k<=hs.length/\m+k=hs.length/\z=(so,(k:Int))/\us.length<=k/\(∀j,j∈us↔j<k/\InP x hs i j d)/\OwS W so 1 (us.map fun k:Nat=>iv (k:Int))/\(∀j∈blk so,w.heap.size<=j)/\Ext w W,
  ⟨hs.length,0,[],⟨none,0,0⟩,Nat.zero_le _,rfl,rfl,Nat.le_refl _,by simp,.nil _ _,by simp[blk],E16⟩,?_⟩
 rintro m _ W g ⟨k,us,so,hk,hm,rfl,hul,hmem,hos,hbk,eW⟩
 unfold F105j1
 refine IfB.dec (fun hlt=>?_) fun hge=>?_
 ·dsimp only at hlt
  have hk':k<hs.length:=by omega
  have hn:hs[k]? =some hs[k]:=List.getElem?_eq_getElem hk'
  generalize hs[k]=n at hn
  have hbk2:(0:Int)<=(k:Int)/\(k:Int)<(t.n:Int):=⟨by omega,by omega⟩
  obtain⟨p3,o3,hp3,hc3⟩:=(hH.ext eW).at hn
  unfold F105k1
  refine⟨p3,o3,hp3,hbk2,n.v,by dsimp only;rw[Int.toNat_natCast];exact hc3,fun b28 w29 a29=>⟨rfl,store_all (vs:=nC n.v) a29.new rfl (nC_one n.v) fun w30 u30=>?_⟩⟩
  have e30:Ext W w30:=Ext.fresh a29 u30
  have ed30:=extDrew w30
  have x30:=e30.trans ed30
  have E30:Ext w w30.drew:=eW.trans x30
  have q:=fun(o:Nat)=>boxAt (cs:=nC n.v) u30.new o ed30
  obtain⟨p4,o4,hp4,hc4⟩:=(hH.ext E30).at ha
  have hw:IntKind.i64.wrap ((k:Int)+1)=((k+1:Nat):Int):=by rw[wrap_of (by omega) (by omega)];rfl
  have skip:=fun(hno:¬InP x hs i k d)=>(⟨rfl,m-1,by omega,k+1,us,so,hk',by omega,by rw[hw],by omega,fun j=>by
   rw[hmem]
   refine⟨fun⟨g1,g2⟩=>⟨by omega,g2⟩,fun⟨g1,g2⟩=>⟨?_,g2⟩⟩
   rcases Nat.lt_or_ge j k with h'|h'
   ·exact h'
   ·exact absurd g2 (by rw[show j=k by omega];exact hno),hos.ext x30,hbk,E30⟩:([]:List Nat)=[]/\∃b,b<m/\∃(k':Nat)(us:List Nat)(so':Sl),k'<=hs.length/\b+k'=hs.length/\(so,IntKind.i64.wrap ((k:Int)+1))=(so',(k':Int))/\us.length<=k'/\(∀j,j∈us↔j<k'/\InP x hs i j d)/\OwS w30.drew so' 1 (us.map fun k:Nat=>iv (k:Int))/\(∀j∈blk so',w.heap.size<=j)/\Ext w w30.drew)
  refine⟨_,q 0,p4,o4,hp4,hbd,a.v.1,by rw[Int.toNat_natCast];exact hc4 0 _ rfl,IfB.intro (fun g1=>⟨_,q 3,IfB.intro (fun g2=>⟨_,q 2,IfB.dec (fun g3=>⟨_,q 2,IfB.dec (fun g4=>⟨by decide,fun b40 w41 a40=>?_⟩) fun g4=>skip fun k'=>?_⟩) fun g3=>skip fun k'=>?_⟩) fun g2=>skip fun k'=>?_⟩) fun g1=>skip fun k'=>?_⟩
  ·have g1:n.v.1=a.v.1:=by simpa using g1
   have g2:n.v.2.2.2.1=false:=by simpa using g2
   dsimp only at g3 g4
   have hik:InP x hs i k d:=(hin hn).2 ⟨g1,g2,g3,g4⟩
   have e41:Ext w30.drew w41:=a40.ch _
   have z41:=a40.size;have p41:=a40.here;have z30:=E30.size
   have hsn:=hos.len
   rw[List.length_map,Nat.mul_one] at hsn
   refine((hos.ext x30).ext e41).lit (new:=[iv (k:Int)]) a40.new rfl (by intro v hv;rw[List.mem_singleton.1 hv];rfl) rfl rfl (by omega) (by decide) fun s43 w44 ho44 hn44 hC44 hb44=>⟨rfl,m-1,by omega,k+1,us++[k],s43,hk',by omega,by rw[hw],by rw[List.length_append,List.length_singleton];omega,fun j=>?_,by rw[List.map_append];exact ho44,fun j hj=>?_,(E30.trans e41).chN hC44 fun j hj=>hbk j hj⟩
   ·rw[List.mem_append,List.mem_singleton,hmem]
    constructor
    ·rintro(⟨h2,h3⟩|rfl)
     ·exact⟨by omega,h3⟩
     ·exact⟨by omega,hik⟩
    ·rintro⟨h2,h3⟩
     rcases Nat.lt_or_ge j k with h'|h'
     ·exact .inl ⟨h',h3⟩
     ·exact .inr (by omega)
   ·rcases hb44 j hj with h'|h'
    ·exact hbk j h'
    ·omega
  ·have:=((hin hn).1 k').2.2.2
   dsimp only at g4;omega
  ·have:=((hin hn).1 k').2.2.1
   dsimp only at g3;omega
  ·rw[((hin hn).1 k').2.1] at g2;cases g2
  ·have g1:¬n.v.1=a.v.1:=by simpa using g1
   exact g1 ((hin hn).1 k').1
 ·dsimp only at hge
  have hk':k=hs.length:=by omega
  subst hk'
  exact⟨so,us,rfl,fun j=>by rw[hmem];exact⟨fun h=>h.2,fun h=>⟨h.lt hi,h⟩⟩,by omega,hos,eW⟩
theorem box1{w w':World}{b:Nat}{v:Value}{T:TypeId}(h:w.heap[b]? =some (.cells #[v] T (0,0)))(e:Ext w w'):w'.cell? ⟨b,0,none⟩=some v:=by rw[cell_of (e.at h)];rfl
theorem c162{w:World}{b b1 b3 n o k:Nat}{order:List Int}{T1 T3:TypeId}(hf:FnB w b n fun k=>iv (plc order k:Int))(h1:w.heap[b1]? =some (.cells #[slV ⟨some ⟨b,0,none⟩,n,n⟩] T1 (0,0)))(h3:w.heap[b3]? =some (.cells #[iv (o:Int)] T3 (0,0)))(hk:k<n)(ho:o<n):
  Cw 162 #[iv (k:Int),.pointer (some ⟨b1,0,none⟩),.pointer (some ⟨b3,0,none⟩)] w fun v w'=>v=.bool (decide (plc order k<plc order o))/\Ext w w':=by
 have ed:=extDrew w
 refine F162_ok (k:Int) b1 b3 w _ ⟨⟨some ⟨b,0,none⟩,n,n⟩,box1 h1 ed,b,0,rfl,⟨by omega,by dsimp only;omega⟩,(plc order k:Int),by rw[Nat.zero_add,Int.toNat_natCast];exact(hf.ext ed).get hk rfl,⟨some ⟨b,0,none⟩,n,n⟩,box1 h1 ed,(o:Int),box1 h3 ed,b,0,rfl,⟨by omega,by dsimp only;omega⟩,(plc order o:Int),by rw[Nat.zero_add,Int.toNat_natCast];exact(hf.ext ed).get ho rfl,?_,ed⟩
 congr 1
 exact decide_eq_decide.2 (by omega)
theorem c163{w:World}{b b1 b3 n o k:Nat}{order:List Int}{T1 T3:TypeId}(hf:FnB w b n fun k=>iv (plc order k:Int))(h1:w.heap[b1]? =some (.cells #[slV ⟨some ⟨b,0,none⟩,n,n⟩] T1 (0,0)))(h3:w.heap[b3]? =some (.cells #[iv (o:Int)] T3 (0,0)))(hk:k<n)(ho:o<n):
  Cw 163 #[iv (k:Int),.pointer (some ⟨b1,0,none⟩),.pointer (some ⟨b3,0,none⟩)] w fun v w'=>v=.bool (decide (plc order o<plc order k))/\Ext w w':=by
 have ed:=extDrew w
 refine F163_ok (k:Int) b1 b3 w _ ⟨⟨some ⟨b,0,none⟩,n,n⟩,box1 h1 ed,b,0,rfl,⟨by omega,by dsimp only;omega⟩,(plc order k:Int),by rw[Nat.zero_add,Int.toNat_natCast];exact(hf.ext ed).get hk rfl,⟨some ⟨b,0,none⟩,n,n⟩,box1 h1 ed,(o:Int),box1 h3 ed,b,0,rfl,⟨by omega,by dsimp only;omega⟩,(plc order o:Int),by rw[Nat.zero_add,Int.toNat_natCast];exact(hf.ext ed).get ho rfl,?_,ed⟩
 congr 1
 exact decide_eq_decide.2 (by omega)
theorem any_nat{us:List Nat}{p:Nat->Prop}[DecidablePred p]:((us.map fun k:Nat=>(k:Int)).any fun z=>decide (p z.toNat))=true↔∃k∈us,p k:=by
 rw[List.any_eq_true]
 constructor
 ·rintro⟨z,hz,h⟩
  obtain⟨k,hk,rfl⟩:=List.mem_map.1 hz
  exact⟨k,hk,by simpa using h⟩
 ·rintro⟨k,hk,h⟩
  exact⟨(k:Int),List.mem_map.2 ⟨k,hk,rfl⟩,by simpa using h⟩
theorem c108{w:World}{u:Sl}{b n o:Nat}{order:List Int}{us:List Nat}(hf:FnB w b n fun k=>iv (plc order k:Int))(hu:Rd w u 1 (us.map fun k:Nat=>iv (k:Int)))(hul:us.length<=1000000)(hus:∀k∈us,k<n)(ho:o<n):
  Cw 108 #[slV ⟨some ⟨b,0,none⟩,n,n⟩,iv (o:Int),slV u] w fun r w'=>∃b',r=.bool b'/\(b'=true↔(∃k∈us,plc order k<plc order o)/\∃k∈us,plc order o<plc order k)/\Ext w w':=by
 rw[mapIv] at hu
 refine F108_ok _ (o:Int) u w _ fun b1 w2 a2 b3 w4 a4=>?_
 have e2:Ext w w2:=a2.ch _
 have e4:Ext w2 w4:=a4.ch _
 have E4:=e2.trans e4
 have mem:∀ {z:Int},z∈us.map (fun k:Nat=>(k:Int))->∃k:Nat,z=(k:Int)/\k<n:=fun hz=>by
  obtain⟨k,hk,rfl⟩:=List.mem_map.1 hz
  exact⟨k,rfl,hus k hk⟩
 refine(c109 (t1:=(162,#[.pointer (some ⟨b1,0,none⟩),.pointer (some ⟨b3,0,none⟩)])) (q:=fun z=>decide (plc order z.toNat<plc order o)) (hu.ext E4) (by rw[List.length_map];exact hul) fun z W hz e R' hR=>?_).use ?_
 ·obtain⟨k,rfl,hk⟩:=mem hz
  exact(c162 (hf.ext (E4.trans e)) (Ext.at (e4.trans e) a2.new) (Ext.at e a4.new) hk ho).use fun v w' ⟨hv,e'⟩=>by rw[hv];exact hR w' e'
 rintro _ w6 ⟨rfl,e6⟩
 refine⟨_,rfl,IfB.intro (fun h1=>?_) fun h1=>⟨false,rfl,⟨fun h=>(by cases h),fun h'=>?_⟩,E4.trans e6⟩⟩
 ·refine(c109 (t1:=(163,#[.pointer (some ⟨b1,0,none⟩),.pointer (some ⟨b3,0,none⟩)])) (q:=fun z=>decide (plc order o<plc order z.toNat)) (hu.ext (E4.trans e6)) (by rw[List.length_map];exact hul) fun z W hz e R' hR=>?_).use ?_
  ·obtain⟨k,rfl,hk⟩:=mem hz
   exact(c163 (hf.ext ((E4.trans e6).trans e)) (Ext.at ((e4.trans e6).trans e) a2.new) (Ext.at (e6.trans e) a4.new) hk ho).use fun v w' ⟨hv,e'⟩=>by rw[hv];exact hR w' e'
  rintro _ w9 ⟨rfl,e9⟩
  exact⟨_,rfl,_,rfl,(any_nat (p:=fun k=>plc order o<plc order k)).trans ⟨fun h=>⟨(any_nat (p:=fun k=>plc order k<plc order o)).1 h1,h⟩,fun h=>h.2⟩,(E4.trans e6).trans e9⟩
 ·rw[(any_nat (p:=fun k=>plc order k<plc order o)).2 h'.1] at h1;cases h1
def FairO(x:CatD)(hs:List Nd)(order:List Int):Prop:=KeepO hs order/\FairR x hs (plc order)
def BadP(x:CatD)(hs:List Nd)(order:List Int)(o i:Nat):Prop:=∃no ni,hs[o]? =some no/\hs[i]? =some ni/\ni.v.1≠no.v.1/\(∃a,InP x hs i a no.v.2.1/\plc order a<plc order o)/\(∃b,InP x hs i b no.v.2.1/\plc order o<plc order b)/\∃u,InP x hs i u no.v.2.1/\(Dp hs o u\/Dp hs u o)
theorem fair_bad{x:CatD}{hs:List Nd}{order:List Int}(hM:HMay x hs)(hK:KeepO hs order):FairO x hs order↔∀o i,¬BadP x hs order o i:=by
 constructor
 ·rintro⟨_,hF⟩ o i ⟨no,ni,ho,hi,hne,⟨a,ha,h1⟩,⟨b,hb,h2⟩,u,hu,hd⟩
  obtain⟨na,hna,hsa⟩:=ha.saga hi
  exact hF.fair o a b u no na ho hna (by rw[hsa];exact hne) ((ha.sym hM).tr hM hb) (by omega) (by omega) ((ha.sym hM).tr hM hu) hd
 ·intro h
  refine⟨hK,fun i j hi hj e=>hK.1.inj hi hj e,hK.2,fun o a b u no na ho ha hne hab h1 h2 hau hd=>?_⟩
  obtain⟨nb,hnb,hsb⟩:=hab.saga ha
  have k1:plc order a≠plc order o:=fun e=>by
   have:=hK.1.inj (get_lt ha) (get_lt ho) e
   subst this
   rw[ho] at ha;cases ha;exact hne rfl
  have k2:plc order o≠plc order b:=fun e=>by
   have:=hK.1.inj (get_lt ho) (get_lt hnb) e
   subst this
   rw[ho] at hnb;cases hnb;exact hne hsb.symm
  exact h o a ⟨no,na,ho,ha,hne,⟨a,.inl rfl,by omega⟩,⟨b,hab,by omega⟩,u,hau,hd⟩
theorem c106{w:World}{tl:Sl}{rows:List RwL}{hs:List Nd}{b1 b2 o k:Nat}{T1 T2:TypeId}(hL:Rws w tl rows)(hrl:rows.length=hs.length)(hrow:∀i x,rows[i]? =some x->RowOf hs i x.2)(hl:hs.length<=1000)(h1:w.heap[b1]? =some (.cells #[slV tl] T1 (0,0)))(h2:w.heap[b2]? =some (.cells #[iv (o:Int)] T2 (0,0)))(hk:k<hs.length)(ho:o<hs.length):
  Cw 106 #[iv (k:Int),.pointer (some ⟨b1,0,none⟩),.pointer (some ⟨b2,0,none⟩)] w fun v w'=>∃r,v=.bool r/\(r=true↔Dp hs o k\/Dp hs k o)/\Ext w w':=by
 have ed:=extDrew w
 have hLd:=hL.ext ed
 have htn:=hL.n
 have go:rows[o]? =some (rows[o]'(by omega)):=List.getElem?_eq_getElem (by omega)
 have gk:rows[k]? =some (rows[k]'(by omega)):=List.getElem?_eq_getElem (by omega)
 generalize rows[o]'_=ro at go
 generalize rows[k]'_=rk at gk
 have Ro:=hrow o ro go
 have Rk:=hrow k rk gk
 have lo:=Ro.len
 have lk:=Rk.len
 have mem:∀ {i j:Nat}{r:RwL},RowOf hs i r.2->((j:Int)∈r.2↔Dp hs i j):=fun{i j r} h=>by
  rw[h.mem]
  exact⟨fun⟨k',e,hd⟩=>by rw[show j=k' by omega];exact hd,fun hd=>⟨j,rfl,hd⟩⟩
 obtain⟨⟨pa,oa,hpa,hca⟩,hra,_⟩:=hLd.at go
 refine F106_ok (k:Int) b1 b2 w _ ⟨tl,box1 h1 ed,(o:Int),box1 h2 ed,pa,oa,hpa,⟨by omega,by omega⟩,ro.1,by rw[Int.toNat_natCast];exact hca,(c107 hra (by omega) (k:Int)).use ?_⟩
 rintro _ _ ⟨rfl,rfl⟩
 obtain⟨⟨pb,ob,hpb,hcb⟩,hrb,_⟩:=hLd.at gk
 refine⟨_,rfl,IfB.dec (fun hin=>⟨true,rfl,⟨fun _=>.inl ((mem Ro).1 hin),fun _=>rfl⟩,ed⟩) fun hin=>⟨tl,box1 h1 ed,pb,ob,hpb,⟨by omega,by omega⟩,rk.1,by rw[Int.toNat_natCast];exact hcb,(o:Int),box1 h2 ed,(c107 hrb (by omega) (o:Int)).use ?_⟩⟩
 rintro _ _ ⟨rfl,rfl⟩
 refine⟨_,rfl,_,rfl,?_,ed⟩
 rw[decide_eq_true_eq,mem Rk]
 exact⟨.inr,fun h=>h.resolve_left fun h'=>hin ((mem Ro).2 h')⟩
theorem c44{w:World}{v:CatV}{x:CatD}{t u:Sl}{hs:List Nd}{order:List Int}(h:CatM w v x)(hH:Hst w t hs)(hl:hs.length<=1000)(hO:Rd w u 1 (order.map iv))(hol:order.length<=1000):
  Cw 44 #[cxV v,slV t,slV u] w fun r w'=>∃b,r=.bool b/\(b=true↔HMay x hs/\FairO x hs order)/\Ext w w':=by
 have htn:=hH.n
 refine F44_ok v t u w _ fun b1 w2 a2=>?_
 have e2:Ext w w2:=a2.ch _
 refine⟨v,cxN h a2.new (Ch.refl _ _),(c42 (h.ext e2) (hH.ext e2) hl (hO.ext e2) hol).use ?_⟩
 rintro _ w7 ⟨q,rfl,hq,e7⟩
 have E7:=e2.trans e7
 have no:∀ {W:World},¬(HMay x hs/\FairO x hs order)->Ext w W->∃b,Value.bool false=.bool b/\(b=true↔HMay x hs/\FairO x hs order)/\Ext w W:=fun h e=>⟨false,rfl,⟨fun h=>(by cases h),fun h'=>absurd h' h⟩,e⟩
 refine⟨q,rfl,IfB.intro (fun h1=>no (fun hh=>by rw[hq.2 ⟨hh.1,hh.2.1⟩] at h1;cases h1) E7) fun h1=>?_⟩
 obtain⟨hM,hK⟩:=hq.1 (by simpa using h1)
 rw[show (t.2:Int)=((hs.length:Nat):Int) by show (t.n:Int)=_;rw[htn]]
 refine(c102 (hO.ext E7) hol hl).use ?_
 rintro _ w10 ⟨s,ok,rfl,hok,hpl,e10⟩
 obtain⟨b,rfl,hf⟩:=hpl (hok.2 hK.1)
 have E10:=E7.trans e10
 refine⟨(_,ok),rfl,(c85 (hH.ext E10) hl).use ?_⟩
 rintro _ w13 ⟨tl,rows,rfl,hrl,hrow,hR,e13⟩
 have E13:=E10.trans e13
 refine⟨tl,rfl,fun b15 w16 a15=>⟨rfl,store_one a15.new (by simp) rfl fun w17 u17=>?_⟩⟩
 have e17:Ext w13 w17:=Ext.fresh a15 u17
 have E17:=E13.trans e17
 have x17:=((e7.trans e10).trans e13).trans e17
 have h15:w17.heap[b15]? =some (.cells #[slV tl] 102 (0,0)):=u17.new
 have hf17:=(hf.ext e13).ext e17
 have hL17:=(hR.ext e17).rws
 refine⟨fun m z W=>∃o:Nat,o<=hs.length/\m+o=hs.length/\z=(o:Int)/\(∀o' i,o'<o->¬BadP x hs order o' i)/\Ext w17 W,⟨hs.length,0,Nat.zero_le _,rfl,rfl,fun o' i ho=>absurd ho (Nat.not_lt_zero _),Ch.refl _ _⟩,?_⟩
 rintro m1 _ W g ⟨o,ho,hmo,rfl,hall,eW⟩
 unfold F44j1
 refine IfB.dec (fun hlt=>?_) fun hge=>?_
 ·have ho':o<hs.length:=by omega
  have go:hs[o]? =some hs[o]:=List.getElem?_eq_getElem ho'
  generalize hs[o]=no' at go
  have oo:=hM.ok o no' go
  refine fun b25 w26 a25=>⟨rfl,store_one a25.new (by simp) rfl fun w27 u27=>?_⟩
  have e27:Ext W w27:=Ext.fresh a25 u27
  have h25:w27.heap[b25]? =some (.cells #[iv (o:Int)] 3 (0,0)):=u27.new
  have eW27:=eW.trans e27
  refine⟨fun m z V=>∃i:Nat,i<=hs.length/\m+i=hs.length/\z=(i:Int)/\(∀i',i'<i->¬BadP x hs order o i')/\Ext w27 V,⟨hs.length,0,Nat.zero_le _,rfl,rfl,fun i' hi=>absurd hi (Nat.not_lt_zero _),Ch.refl _ _⟩,?_⟩
  rintro m2 _ V g2 ⟨i,hi,hmi,rfl,hin,eV⟩
  unfold F44j2
  refine IfB.dec (fun hli=>?_) fun hgi=>?_
  ·have hi':i<hs.length:=by omega
   have gi:hs[i]? =some hs[i]:=List.getElem?_eq_getElem hi'
   generalize hs[i]=ni at gi
   have hwi:IntKind.i64.wrap ((i:Int)+1)=((i+1:Nat):Int):=by rw[wrap_of (by omega) (by omega)];rfl
   have next:∀ {U:World},Ext w27 U->¬BadP x hs order o i->([]:List Nat)=[]/\∃b,b<m2/\∃i':Nat,i'<=hs.length/\b+i'=hs.length/\IntKind.i64.wrap ((i:Int)+1)=(i':Int)/\(∀q,q<i'->¬BadP x hs order o q)/\Ext w27 U:=fun eU hh=>⟨rfl,m2-1,by omega,i+1,hi',by omega,hwi,fun q hq=>by
    rcases Nat.lt_or_ge q i with h'|h'
    ·exact hin q h'
    ·rw[show q=i by omega];exact hh,eU⟩
   have ed:=extDrew V
   have xd:=eV.trans ed
   have Ed:=E17.trans (eW27.trans xd)
   obtain⟨pi,oi,hpi,hci⟩:=(hH.ext Ed).at gi
   obtain⟨po,oo',hpo,hco⟩:=(hH.ext Ed).at go
   have bi:(0:Int)<=(i:Int)/\(i:Int)<(t.n:Int):=⟨by omega,by omega⟩
   have bo:(0:Int)<=(o:Int)/\(o:Int)<(t.n:Int):=⟨by omega,by omega⟩
   refine⟨pi,oi,hpi,bi,ni.v.1,by rw[Int.toNat_natCast];exact hci 0 _ rfl,(o:Int),box1 h25 xd,po,oo',hpo,bo,no'.v.1,by rw[Int.toNat_natCast];exact hco 0 _ rfl,IfB.intro (fun hs1=>next xd fun⟨n1,n2,k1,k2,k3,_⟩=>?_) fun hs1=>?_⟩
   ·rw[go] at k1;rw[gi] at k2;cases k1;cases k2
    exact k3 (by simpa using hs1)
   have hs1:ni.v.1≠no'.v.1:=by simpa using hs1
   have edd:=extDrew V.drew
   have xdd:=xd.trans edd
   have Edd:=E17.trans (eW27.trans xdd)
   obtain⟨pq,oq,hpq,hcq⟩:=(hH.ext Edd).at go
   refine⟨v,cxN h a2.new (x17.trans (eW27.trans xdd)),(o:Int),box1 h25 xdd,pq,oq,hpq,bo,no'.v.2.1,by rw[Int.toNat_natCast];exact hcq 1 _ rfl,(c105 (h.ext Edd) (hH.ext Edd) hM hi' ⟨oo.c0,oo.cn⟩).use ?_⟩
   rintro _ w51 ⟨su,us,rfl,hus,hul,hou,e51⟩
   have x51:=xdd.trans e51
   have hlt:∀k∈us,k<hs.length:=fun k hk=>((hus k).1 hk).lt hi'
   refine⟨su,rfl,(o:Int),box1 h25 x51,(c108 (hf17.ext (eW27.trans x51)) hou.rd (by omega) hlt ho').use ?_⟩
   rintro _ w55 ⟨q1,rfl,hq1,e55⟩
   have x55:=x51.trans e55
   refine⟨q1,rfl,IfB.intro (fun g1=>?_) fun g1=>next x55 fun⟨n1,n2,k1,k2,k3,⟨a,ha,h4⟩,⟨c,hc,h5⟩,_⟩=>?_⟩
   ·obtain⟨⟨a,ha,h4⟩,c,hc,h5⟩:=hq1.1 g1
    have hmap:Rd w55 su 1 ((us.map fun k:Nat=>(k:Int)).map iv):=by rw[<-mapIv];exact(hou.ext e55).rd
    classical
    refine(c109 (t1:=(106,#[.pointer (some ⟨b15,0,none⟩),.pointer (some ⟨b25,0,none⟩)])) (q:=fun z=>decide (Dp hs o z.toNat\/Dp hs z.toNat o)) hmap (by rw[List.length_map];omega) fun z U hz e R' hR'=>?_).use ?_
    ·obtain⟨k,hk,rfl⟩:=List.mem_map.1 hz
     refine(c106 (hL17.ext (eW27.trans (x55.trans e))) hrl hrow hl (Ext.at (eW27.trans (x55.trans e)) h15) (Ext.at (x55.trans e) h25) (hlt k hk) ho').use ?_
     rintro _ U' ⟨r,rfl,hr,e'⟩
     rw[show r=decide (Dp hs o ((k:Int)).toNat\/Dp hs ((k:Int)).toNat o) by rw[Bool.eq_iff_iff,hr,decide_eq_true_eq,Int.toNat_natCast]]
     exact hR' U' e'
    rintro _ w58 ⟨rfl,e58⟩
    have x58:=x55.trans e58
    have hany:=any_nat (us:=us) (p:=fun k=>Dp hs o k\/Dp hs k o)
    refine⟨_,rfl,IfB.intro (fun g2=>no (fun hh=>?_) (E17.trans (eW27.trans x58))) fun g2=>next x58 fun⟨n1,n2,k1,k2,k3,_,_,u',hu',hd⟩=>?_⟩
    ·obtain⟨u',hu',hd⟩:=hany.1 g2
     exact(fair_bad hM hK).1 hh.2 o i ⟨no',ni,go,gi,hs1,⟨a,(hus a).1 ha,h4⟩,⟨c,(hus c).1 hc,h5⟩,u',(hus u').1 hu',hd⟩
    ·rw[go] at k1;cases k1
     rw[hany.2 ⟨u',(hus u').2 hu',hd⟩] at g2;cases g2
   ·rw[go] at k1;cases k1
    have g1:q1=false:=g1
    rw[hq1.2 ⟨⟨a,(hus a).2 ha,h4⟩,c,(hus c).2 hc,h5⟩] at g1;cases g1
  ·have hii:i=hs.length:=by omega
   subst hii
   refine⟨rfl,m1-1,by omega,o+1,ho',by omega,by rw[wrap_of (by omega) (by omega)];rfl,fun o' i' ho2=>?_,eW27.trans eV⟩
   rcases Nat.lt_or_ge o' o with h'|h'
   ·exact hall o' i' h'
   ·have:o'=o:=by omega
    subst this
    intro hB
    obtain⟨n1,n2,k1,k2,_⟩:=id hB
    exact hin i' (get_lt k2) hB
 ·have ho':o=hs.length:=by omega
  subst ho'
  refine⟨true,rfl,⟨fun _=>⟨hM,(fair_bad hM hK).2 fun o i hB=>?_⟩,fun _=>rfl⟩,E17.trans eW⟩
  obtain⟨n1,n2,k1,k2,_⟩:=id hB
  exact hall o i (get_lt k1) hB
end Go.Proofs.YtlpgdngcgbeegaaGreat.Gx
