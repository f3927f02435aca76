/- Merged by pack.py: GxOI, GreA, GxOJ, RsgA, SrAI, GxSGA, SrAJ, RsgB, ArcC, RsgC, RsgD, RsgE, RsgF, RsgG, FairP, FairQ, RsgH, GxOX, IncA, GxOL, RefE. -/
import Derived.Test.YtlpgdngcgbeegaaGreatIt1
import Derived.Test.YtlpgdngcgbeegaaGreatIt2
import Derived.Test.YtlpgdngcgbeegaaGreatIt3
import Derived.Test.YtlpgdngcgbeegaaGreatIt4
import Derived.Test.YtlpgdngcgbeegaaGreatIt5
namespace Go.Proofs.YtlpgdngcgbeegaaGreat.Gx
open Go
set_option linter.unusedVariables false
set_option maxRecDepth 100000
def F134j1(R:RV)(s14:Sl)(y16:Nat->Int->World->Prop)(b18:Nat)(n19:Int)(w20:World):Prop:=IfB (decide (n19<(s14.n:Int))) (Qx s14.1 n19 (s14.2:Int) fun b23 b24=>Qs w20 b23 (b24+n19.toNat*2+0) fun s25=>IfB (decide (40<(s25.n:Int))) (R (Value.bool true) w20) (Qx s14.1 n19 (s14.2:Int) fun b26 b27=>Qs w20 b26 (b27+n19.toNat*2+1) fun s28=>IfB (decide (40<(s28.n:Int))) (R (Value.bool true) w20) (Qn y16 b18 (IntKind.i64.wrap (n19+1)) w20))) (R (Value.bool false) w20)
theorem F134_ok(t0:ByteArray×Int×Sl×Sl×Bool)(w:World)(R:RV)(h:AllocP w (Obj.cells (lC49 t0).toArray 49) fun b1 w2=>∃z3:ByteArray,w2.cell? ⟨b1,0+0,none⟩=some (Value.string z3)/\IfB (decide (300<(z3.size:Int))) (R (Value.bool true) w2) (Qs w2 b1 (0+2) fun s4=>IfB (decide (20<(s4.n:Int))) (R (Value.bool true) w2) (Qs w2 b1 (0+3) fun s5=>IfB (decide (20<(s5.n:Int))) (R (Value.bool true) w2) (Qs w2.drew b1 (0+2) fun s6=>Qs w2.drew b1 (0+3) fun s7=>0*2<=16777216/\AllocP w2.drew (Obj.cells #[] 99) fun b8 w9=>w9.cell? ⟨b1,0+3,none⟩=some (Qy s7)/\w9.cell? ⟨b1,0+2,none⟩=some (Qy s6)/\∃(l10:List Value),ReadC w9 s6.1 (s6.2*2) l10/\AppendP tt99 99 w9 (some ⟨b8,0,none⟩) 0 0 s6.2 l10 fun s11 w12=>w12.cell? ⟨b1,0+3,none⟩=some (Qy s7)/\∃(l13:List Value),ReadC w12 s7.1 (s7.2*2) l13/\AppendP tt99 99 w12 s11.1 s11.2 s11.3 s7.2 l13 fun s14 w15=>Ql (α:=Int) 0 w15 fun y16 b18 n19 w20=>(F134j1 R s14 y16 b18 n19 w20))))):Cw 134 #[(.agg (lC49 t0).toArray)] w R:=
 ckF Tryz.func134 (nd (nd (.node (.draw (sts [1,2,4,5] (.ac 0 [5,4,2,1] (.ac 3 [5,4] (.ac 6 [] (.st 7 .fin) .non) .non) .non))) (.node (nd (.loop [(4,oi)] (rg [2,2,4,4,28,49]) .nil)) .nil)))) h (by kernel_rfl) (by kernel_rfl)
def F71j1(R:RV)(b1:Nat)(y3:Nat->Int->World->Prop)(b5:Nat)(n6:Int)(w7:World):Prop:=Qs w7 b1 (0+0) fun s10=>IfB (decide (n6<(s10.n:Int))) (Qs w7 b1 (0+0) fun s11=>Qx s11.1 n6 (s11.2:Int) fun b12 b13=>∃(x14:ByteArray×Int×Sl×Sl×Bool),CellsAt w7 b12 (b13+n6.toNat*5) (lC49 x14)/\Qv' 134 #[Value.agg (lC49 x14).toArray] w7 fun t17 w16=>IfB t17 (R (Value.bool true) w16) (Qn y3 b5 (IntKind.i64.wrap (n6+1)) w16)) (Qs w7 b1 (0+0) fun s19=>R (Value.bool (decide (12<(s19.n:Int)))) w7)
theorem F71_ok(t0:Sl×List Value)(w:World)(R:RV)(h:AllocP w (Obj.cells { toList:=Qy t0.fst::t0.2 } 26) fun b1 w2=>Ql (α:=Int) 0 w2 fun y3 b5 n6 w7=>(F71j1 R b1 y3 b5 n6 w7)):Cw 71 #[Value.agg { toList:=Qy t0.fst::t0.2 }] w R:=
 ckF Tryz.func71 (nd (.node (nd (.loop [(3,oi)] (rg [2,16]) .nil)) .nil)) h (by kernel_rfl) (by kernel_rfl)
def F82j1(t1:Sl)(R:RV)(b1:Nat)(y3:Nat->Int->World->Prop)(b5:Nat)(n6:Int)(w7:World):Prop:=IfB (decide (n6<(t1.n:Int))) (Qx t1.1 n6 (t1.2:Int) fun b10 b11=>Qs w7 b10 (b11+n6.toNat*6+4) fun s12=>IfB (decide (60<(s12.n:Int))) (R (Value.bool true) w7) (Qx t1.1 n6 (t1.2:Int) fun b13 b14=>Qs w7 b13 (b14+n6.toNat*6+5) fun s15=>IfB (decide (60<(s15.n:Int))) (R (Value.bool true) w7) (Qn y3 b5 (IntKind.i64.wrap (n6+1)) w7))) (∃(x17:Sl×List Value),CellsN w7 b1 0 17 (Qy x17.fst::x17.2)/\Qv' 71 #[Value.agg { toList:=Qy x17.fst::x17.2 }] w7 fun t22 w21=>IfB t22 (R (Value.bool true) w21) (R (Value.bool (decide (110<(t1.n:Int)))) w21))
theorem F82_ok(t0:Sl×List Value)(t1:Sl)(w:World)(R:RV)(h:AllocP w (Obj.cells { toList:=Qy t0.fst::t0.2 } 26) fun b1 w2=>Ql (α:=Int) 0 w2 fun y3 b5 n6 w7=>(F82j1 t1 R b1 y3 b5 n6 w7)):Cw 82 #[Value.agg { toList:=Qy t0.fst::t0.2 },Qy t1] w R:=
 ckF Tryz.func82 (nd (.node (nd (.loop [(5,oi)] (rg [4,27]) .nil)) .nil)) h (by kernel_rfl) (by kernel_rfl)
theorem F29_ok(t0:Sl×List Value)(t1:Sl)(w:World)(R:RV)(h:AllocP w (Obj.cells { toList:=Qy t0.fst::t0.2 } 26) fun b1 w2=>∃(x3:Sl×List Value),CellsN w2 b1 0 17 (Qy x3.fst::x3.2)/\Qv' 82 #[Value.agg { toList:=Qy x3.fst::x3.2 },Qy t1] w2 fun t8 w7=>IfB t8 (R (Value.bool true) w7) (Qv' 83 #[Qy t1] w7 fun t11 w10=>IfB t11 (R (Value.bool true) w10) (R (Value.bool (decide (24<(t1.n:Int)))) w10))):Cw 29 #[Value.agg { toList:=Qy t0.fst::t0.2 },Qy t1] w R:=
 ckF Tryz.func29 .nil h (by kernel_rfl) (by kernel_rfl)
set_option linter.unusedSimpArgs false
theorem stC_all(ss:List (Sl×Sl)):One (ss.flatMap stC):=by
 intro v hv
 obtain⟨x,_,hx⟩:=List.mem_flatMap.1 hv
 exact stC_one x v hx
theorem stC_flat(ss:List (Sl×Sl)):(ss.flatMap stC).length=ss.length*2:=flatLen stC_len ss
theorem c134{w:World}{v:ClsV}{x:ClsD}(h:ClsM w v x):Cw 134 #[clV v] w fun r w'=>∃b,r=.bool b/\Ext w w':=by
 refine F134_ok v w _ fun b1 w2 a2=>?_
 have e2:Ext w w2:=a2.ch _
 have q:=fun{W:World} (o:Nat) (e:Ext w2 W)=>boxAt (cs:=clsC v) a2.new o e
 have r2:=Ch.refl (fun _=>False) w2
 obtain⟨ss,hs1,hs2,hs3⟩:=h.st.list
 obtain⟨cs,hc1,hc2,hc3⟩:=h.co.list
 have hsn:=rdN stC_len (by omega) hs2
 have hcn:=rdN stC_len (by omega) hc2
 refine⟨_,q 0 r2,IfB.dec (fun _=>⟨true,rfl,e2⟩) fun _=>⟨_,q 2 r2,IfB.dec (fun _=>⟨true,rfl,e2⟩) fun g1=>⟨_,q 3 r2,IfB.dec (fun _=>⟨true,rfl,e2⟩) fun g2=>?_⟩⟩⟩
 have g1:¬(20:Int)<(v.2.2.1.n:Int):=g1
 have g2:¬(20:Int)<(v.2.2.2.1.n:Int):=g2
 have ed:=extDrew w2
 refine⟨_,q 2 ed,_,q 3 ed,by decide,fun b8 w9 a8=>?_⟩
 have e9:Ext w2 w9:=ed.trans (a8.ch _)
 have E9:Ext w w9:=e2.trans e9
 have p8:=a8.here;have z8:=a8.size;have z2:=a2.size;have p2:=a2.here
 have zd:w2.drew.heap.size=w2.heap.size:=rfl
 have r9:Rd w9 v.2.2.1 2 (ss.flatMap stC):=hs2.ext E9
 refine⟨q 3 e9,q 2 e9,_,r9.2,OwS.append (s:=⟨some ⟨b8,0,none⟩,0,0⟩) (cs:=[]) (new:=ss.flatMap stC) (sz:=2) (cnt:=v.2.2.1.n) (OwS.new (cs:=[]) (n:=0) a8 rfl) rfl rfl (by rw[stC_flat,hsn]) (stC_all ss) ⟨by dsimp only;omega,Nat.le_trans (Nat.mul_le_mul (show 2*(0+v.2.2.1.n)<=1000 by omega) (show _<=100000 by decide)) (by decide)⟩ fun s11 w12 ho hn hC hb _=>?_⟩
 have e12:Ext w2 w12:=e9.chN hC fun j hj=>by
  have:j=b8:=by simpa [blk] using hj
  omega
 have E12:Ext w w12:=e2.trans e12
 have r12:Rd w12 v.2.2.2.1 2 (cs.flatMap stC):=hc2.ext E12
 rw[List.nil_append] at ho
 dsimp only at hn
 refine⟨q 3 e12,_,r12.2,OwS.append (new:=cs.flatMap stC) (cnt:=v.2.2.2.1.n) ho rfl rfl (by rw[stC_flat,hcn]) (stC_all cs) ⟨by omega,Nat.le_trans (Nat.mul_le_mul (show 2*(s11.n+v.2.2.2.1.n)<=1000 by omega) (show _<=100000 by decide)) (by decide)⟩ fun s14 w15 ho' hn' hC' hb' _=>?_⟩
 have zz:=E9.size
 have e15:Ext w w15:=E12.chN hC' fun j hj=>by
  rcases hb j hj with h'|h'
  ·have:j=b8:=by simpa [blk] using h'
   have:=e2.size;omega
  ·omega
 rw[<-List.flatMap_append] at ho'
 have hl:=rdN stC_len (by omega) ho'.rd
 have hla:(ss++cs).length=ss.length+cs.length:=List.length_append
 refine⟨fun m z W=>∃i:Nat,i<=(ss++cs).length/\m+i=(ss++cs).length/\z=(i:Int)/\W=w15,⟨_,0,Nat.zero_le _,rfl,rfl,rfl⟩,?_⟩
 rintro m _ _ g ⟨i,hi,hm,rfl,rfl⟩
 unfold F134j1
 refine IfB.dec (fun hlt=>?_) fun _=>⟨false,rfl,e15⟩
 have hi':i<(ss++cs).length:=by omega
 have hx:(ss++cs)[i]? =some (ss++cs)[i]:=List.getElem?_eq_getElem hi'
 generalize (ss++cs)[i]=y at hx
 obtain⟨b,o,hp,hc⟩:=ho'.rd.elem (i:=i) (by omega) (by omega) (flatGet stC_len hx)
 exact⟨b,o,hp,⟨by omega,hlt⟩,y.1,by rw[Int.toNat_natCast];exact hc 0 _ rfl,IfB.dec (fun _=>⟨true,rfl,e15⟩) fun _=>⟨b,o,hp,⟨by omega,hlt⟩,y.2,by rw[Int.toNat_natCast];exact hc 1 _ rfl,IfB.dec (fun _=>⟨true,rfl,e15⟩) fun _=>⟨rfl,m-1,by omega,i+1,hi',by omega,by rw[wrap_of (by omega) (by omega)];rfl,rfl⟩⟩⟩
theorem c71{w:World}{v:CatV}{x:CatD}(h:CatM w v x):Cw 71 #[cxV v] w fun r w'=>∃b,r=.bool b/\Ext w w':=by
 have hn:=cat_cl h
 have hcap:=h.cl.cap
 have hml:=maxLen_le
 refine F71_ok v w _ fun b1 w2 a2=>?_
 have e2:Ext w w2:=a2.ch _
 have q:=fun{W:World} (e:Ext w2 W)=>boxAt (cs:=cxC v) a2.new 0 e
 refine⟨fun m z W=>∃i:Nat,i<=x.1.length/\m+i=x.1.length/\z=(i:Int)/\Ext w2 W,⟨_,0,Nat.zero_le _,rfl,rfl,Ch.refl _ _⟩,?_⟩
 rintro m _ W g ⟨i,hi,hm,rfl,e⟩
 unfold F71j1
 refine⟨_,q e,IfB.dec (fun hlt=>?_) fun _=>⟨_,q e,_,rfl,e2.trans e⟩⟩
 have hlt:(i:Int)<(v.1.n:Int):=hlt
 have hi':i<x.1.length:=by omega
 have hx:x.1[i]? =some x.1[i]:=List.getElem?_eq_getElem hi'
 generalize x.1[i]=y at hx
 obtain⟨b,o,cv,hp,hc,hM⟩:=ClsR.at (SlR.ext h.cl (e2.trans e)) hx
 refine⟨_,q e,b,o,hp,⟨by omega,hlt⟩,cv,by rw[Int.toNat_natCast];exact hc,(c134 hM).use ?_⟩
 rintro _ w16 ⟨r,rfl,e16⟩
 exact⟨r,rfl,IfB.intro (fun _=>⟨true,rfl,(e2.trans e).trans e16⟩) fun _=>⟨rfl,m-1,by omega,i+1,hi',by omega,by rw[wrap_of (by omega) (by omega)];rfl,e.trans e16⟩⟩
theorem c82{w:World}{v:CatV}{x:CatD}{t:Sl}{hs:List Nd}(h:CatM w v x)(hH:HIn w t hs):
  Cw 82 #[cxV v,slV t] w fun r w'=>∃b,r=.bool b/\(b=false->hs.length<=110/\∀n∈hs,n.rs.length<=60/\n.ws.length<=60)/\Ext w w':=by
 have hn:=hH.n
 have hml:=maxLen_le
 have hlen:=hH.len
 refine F82_ok v t w _ fun b1 w2 a2=>?_
 have e2:Ext w w2:=a2.ch _
 refine⟨fun m z W=>∃i:Nat,i<=hs.length/\m+i=hs.length/\z=(i:Int)/\(∀n∈hs.take i,n.rs.length<=60/\n.ws.length<=60)/\Ext w2 W,⟨_,0,Nat.zero_le _,rfl,rfl,by simp,Ch.refl _ _⟩,?_⟩
 rintro m _ W g ⟨i,hi,hm,rfl,ha,e⟩
 have yes:∀ {V:World},Ext w V->∃b,Value.bool true=.bool b/\(b=false->hs.length<=110/\∀n∈hs,n.rs.length<=60/\n.ws.length<=60)/\Ext w V:=fun e=>⟨true,rfl,fun h=>(by cases h),e⟩
 unfold F82j1
 refine IfB.dec (fun hlt=>?_) fun hge=>?_
 ·have hi':i<hs.length:=by omega
  have hx:hs[i]? =some hs[i]:=List.getElem?_eq_getElem hi'
  have hxm:hs[i]∈hs:=List.getElem_mem hi'
  have htk:=take_succ_get hx
  generalize hs[i]=y at hx hxm htk
  obtain⟨b,o,hp,hc⟩:=(hH.ext (e2.trans e)).rd.elem (i:=i) (by omega) (by omega) (flatGet nL_len hx)
  obtain⟨hr,hw⟩:=(hH.nd y hxm).rn
  refine⟨b,o,hp,⟨by omega,hlt⟩,y.v.2.2.2.2.1,by rw[Int.toNat_natCast];exact hc 4 _ rfl,IfB.dec (fun _=>yes (e2.trans e)) fun g1=>⟨b,o,hp,⟨by omega,hlt⟩,y.v.2.2.2.2.2,by rw[Int.toNat_natCast];exact hc 5 _ rfl,IfB.dec (fun _=>yes (e2.trans e)) fun g2=>⟨rfl,m-1,by omega,i+1,hi',by omega,by rw[wrap_of (by omega) (by omega)];rfl,?_,e⟩⟩⟩
  rw[htk];intro z hz
  rcases List.mem_append.1 hz with hz|hz
  ·exact ha z hz
  ·rw[List.mem_singleton.1 hz]
   have g1:¬(60:Int)<(y.v.2.2.2.2.1.n:Int):=g1
   have g2:¬(60:Int)<(y.v.2.2.2.2.2.n:Int):=g2
   omega
 ·have hi':i=hs.length:=by omega
  subst hi'
  rw[List.take_length] at ha
  refine⟨v,cxN h a2.new e,(c71 (h.ext (e2.trans e))).use ?_⟩
  rintro _ w21 ⟨r,rfl,e21⟩
  refine⟨r,rfl,IfB.intro (fun _=>yes ((e2.trans e).trans e21)) fun _=>⟨_,rfl,fun hf=>⟨?_,ha⟩,(e2.trans e).trans e21⟩⟩
  rw[decide_eq_false_iff_not] at hf
  omega
theorem c29{w:World}{v:CatV}{x:CatD}{t:Sl}{hs:List Nd}(h:CatM w v x)(hH:HIn w t hs):
  Cw 29 #[cxV v,slV t] w fun r w'=>∃b,r=.bool b/\(b=false->Hst w' t hs/\hs.length<=24)/\Ext w w':=by
 have hn:=hH.n
 have hml:=maxLen_le
 refine F29_ok v t w _ fun b1 w2 a2=>?_
 have e2:Ext w w2:=a2.ch _
 have yes:∀ {V:World},Ext w V->∃b,Value.bool true=.bool b/\(b=false->Hst V t hs/\hs.length<=24)/\Ext w V:=fun e=>⟨true,rfl,fun h=>(by cases h),e⟩
 refine⟨v,cxN h a2.new (Ch.refl _ _),(c82 (h.ext e2) (hH.ext e2)).use ?_⟩
 rintro _ w7 ⟨r,rfl,hr,e7⟩
 have e27:=e2.trans e7
 have h7:=hH.ext e27
 refine⟨r,rfl,IfB.intro (fun _=>yes e27) fun g1=>(c83 h7.rd (fun n hn=>(h7.nd n hn).rn) (Nat.le_trans hH.len hml)).use ?_⟩
 rintro _ _ ⟨r2,rfl,hr2,rfl⟩
 refine⟨r2,rfl,IfB.intro (fun _=>yes e27) fun g2=>⟨_,rfl,fun hf=>⟨h7.hst fun h'=>?_,?_⟩,e27⟩⟩
 ·rw[hr2.2 h'] at g2;cases g2
 ·rw[decide_eq_false_iff_not] at hf
  omega
def F154k1(t1:Sl)(x21:Int×Int×Int)(w22:World)(t2:Int)(b20:Nat)(y18:Nat->Int×Int×Int->World->Prop)(x17:Int×Int×Bool):Prop:=Qx t1.1 x21.snd.2 (t1.2:Int) fun b25 b26=>∃(x27:Int×Int×Int×Bool×Sl×Sl),CellsAt w22 b25 (b26+Int.toNat x21.snd.2*6) (lC53 x27)/\AllocP w22 (Obj.cells #[Qz 0,Qz 0,Qz 0,Value.bool false,Value.slice none 0 0,Value.slice none 0 0] 53) fun b28 w29=>(lC53 x27).toArray.size=6/\StoreP w29 b28 0 (lC53 x27) fun w30=>Qi w30.drew b28 (0+0) fun n31=>Qx t1.1 t2 (t1.2:Int) fun b32 b33=>Qi w30.drew b32 (b33+t2.toNat*6+0) fun n34=>IfB (n31 != n34) (Qn y18 b20 (x21.1,x21.snd.1,IntKind.i64.wrap (x21.snd.2+1)) w30.drew) (Qb w30.drew b28 (0+3) fun t36=>IfB t36 (Qn y18 b20 (x21.1,x21.snd.1,IntKind.i64.wrap (x21.snd.2+1)) w30.drew) (Qi w30.drew b28 (0+2) fun n38=>IfB (decide (n38<x17.fst)) (Qn y18 b20 (x21.1,x21.snd.1,IntKind.i64.wrap (x21.snd.2+1)) w30.drew) (Qi w30.drew b28 (0+2) fun n40=>IfB (decide (x17.snd.fst<n40)) (Qn y18 b20 (x21.1,x21.snd.1,IntKind.i64.wrap (x21.snd.2+1)) w30.drew) (Qn y18 b20 (if x21.snd.snd<x21.fst then x21.snd.2 else x21.1,if x21.snd.fst<x21.snd.snd then x21.snd.2 else x21.snd.1,IntKind.i64.wrap (x21.snd.2+1)) w30.drew))))
def F154j1(t1:Sl)(t2:Int)(R:RV)(x17:Int×Int×Bool)(y18:Nat->Int×Int×Int->World->Prop)(b20:Nat)(x21:Int×Int×Int)(w22:World):Prop:=IfB (decide (x21.snd.snd<(t1.n:Int))) (F154k1 t1 x21 w22 t2 b20 y18 x17) (R (Value.tuple #[Qz x21.1,Qz x21.snd.1]) w22)
theorem F154_ok(t0:Sl×List Value)(t1:Sl)(t2:Int)(t3:Int)(w:World)(R:RV)(h:AllocP w (Obj.cells { toList:=Qy t0.fst::t0.2 } 26) fun b1 w2=>Qx t1.1 t2 (t1.2:Int) fun b3 b4=>Qb w2 b3 (b4+t2.toNat*6+3) fun t5=>IfB t5 (R (Value.tuple #[Qz t2,Qz t2]) w2) (∃(x6:Sl×List Value),CellsN w2.drew b1 0 17 (Qy x6.fst::x6.2)/\Qx t1.1 t2 (t1.2:Int) fun b9 b10=>Qi w2.drew b9 (b10+t2.toNat*6+1) fun n11=>Qx t1.1 t2 (t1.2:Int) fun b12 b13=>Qi w2.drew b12 (b13+t2.toNat*6+2) fun n14=>Cx 136 #[Value.agg { toList:=Qy x6.fst::x6.2 },Qz n11,Qz t3,Qz n14] w2.drew fun v15 w16=>∃(x17:Int×Int×Bool),v15=Value.tuple #[Qz x17.1,Qz x17.snd.1,Value.bool x17.snd.2]/\Ql (α:=Int×Int×Int) (t2,t2,0) w16 fun y18 b20 x21 w22=>(F154j1 t1 t2 R x17 y18 b20 x21 w22))):Cw 154 #[Value.agg { toList:=Qy t0.fst::t0.2 },Qy t1,Qz t2,Qz t3] w R:=
 ckF Tryz.func154 (nd (nd (.node (.draw (sts [0,1,2,3,4,5,6,7,8,9,10,11] (.ac 12 [] (sts [13,14,15,16,17,18,19] .fin) .non))) (nd (.node (nd (.loop [(13,oi),(14,oi),(45,oi)] (rg [13,16,45,80]) (nd (nd (.node (nd (.node (.node (.draw (sts [0,1,2,3,4,5,6,7,8,9,10,11,12,13,14,15,16,17,18,19,20,21,22,23] .fin)) .nil) .nil)) .nil))))) .nil))))) h (by kernel_rfl) (by kernel_rfl)
noncomputable def R86_0:Code:=codeAt [1,0,1,0] (bodyOf Tryz.f86)
def R86_0a:An:=.node (.draw (sts [0,1,2,3,4,5,6,7] .fin)) .nil
theorem R86_0ok1:okC tb Tryz.f86.ntmps (rA R86_0) .nil=true:=by kernel_rfl
theorem R86_0ok2:okC tb Tryz.f86.ntmps (rB R86_0) R86_0a=true:=by kernel_rfl
theorem R86_0okp:(rP R86_0).toList.all (fun p=>Nat.blt p Tryz.f86.ntmps)=true:=by kernel_rfl
theorem F86_ok(t0:Sl)(t1:Int)(w:World)(R:RV)(h:AllocP w (Obj.cells #[Qy t0] 39) fun b1 w2=>AllocP w2 (Obj.cells #[Qz t1] 3) fun b3 w4=>AllocP w4 (Obj.cells #[Value.slice none 0 0] 41) fun b5 w6=>Qs w6 b1 0 fun s7=>Qi w6 b3 0 fun n8=>(0<=n8/\n8<=(s7.3:Int))/\Cx 153 #[Value.slice (slAddr s7.1 s7.3 0 6) n8.toNat s7.3] w6 fun v9 w10=>∃(x11:Nat×Array Value),v9=Value.func (Fn.func x11.1) #[] x11.2/\∀(y12:Nat->Value),RangeP Tryz.prog tb (nat_lit 25) none R86_0a (rG R86_0) (rP R86_0) (rA R86_0) (rB R86_0) (frC y12 [(2,Value.pointer (some ⟨b1,0,none⟩)),(3,Value.pointer (some ⟨b3,0,none⟩)),(4,Value.pointer (some ⟨b5,0,none⟩)),(10,Value.func (Fn.func x11.1) #[] x11.2)]) [] w10 (fun(l13:List Nat) (w14:World)=>#[Value.slice none 0 0].size=1/\StoreP w14 b5 0 [Value.slice none 0 0] fun w15=>marksP w15 l13 fun w16=>Qs w16 b5 0 fun s17=>R (Qy s17) w16) (fun(l18:List Nat) (w19:World)=>marksP w19 l18 fun w20=>Qs w20 b5 0 fun s21=>R (Qy s21) w20) fun(b22:Nat) (l23:List Nat) (w24:World)=>match b22.beq 0 with|true=>#[Value.slice none 0 0].size=1/\StoreP w24 b5 0 [Value.slice none 0 0] fun w26=>marksP w26 l23 fun w27=>Qs w27 b5 0 fun s28=>R (Qy s28) w27|false=>False):Cw 86 #[Qy t0,Qz t1] w R:=
 ckF Tryz.func86 (nd (.node (nd (.rng [(2,.one (.box)),(3,.one (.box)),(4,.one (.box)),(10,.one (.clo))] (.node (.draw (sts [0,1,2,3,4,5,6,7] .fin)) .nil))) .nil)) h (by kernel_rfl) (by kernel_rfl)
theorem F86b0_ok(t2:Nat)(t3:Nat)(t4:Nat)(t10:Nat×Array Value)(x11:Int)(x12:Int×Int×Int×Bool×Sl×Sl)(l D n₀:Nat)(Jn:World->Prop)(Jx:Code->World->Prop)(W:World){g:Nat->Value}(h:AllocP W (Obj.cells #[Qz 0,Qz 0,Qz 0,Value.bool false,Value.slice none 0 0,Value.slice none 0 0] 53) fun b1 w2=>(lC53 x12).toArray.size=6/\StoreP w2 b1 0 (lC53 x12) fun w3=>([]:List Nat)=[]/\(w3.1[l]? =W.1[l]? /\w3.1[D]? =W.1[D]?)/\∀(w12:World),Stb n₀ w3 w12->Its w3 w12->(∃y15:Loop,w12.1[l]? =some (Obj.loop y15))->Qi w12.drew b1 (0+0) fun n19=>∃s20:Sl,w12.drew.cell? ⟨t2,0,none⟩=some (Qy s20)/\∃n21:Int,w12.drew.cell? ⟨t3,0,none⟩=some (Qz n21)/\Qx s20.1 n21 (s20.2:Int) fun b22 b23=>Qi w12.drew b22 (b23+n21.toNat*6+0) fun n24=>IfB (n19 == n24) (∃n25:Int,w12.drew.cell? ⟨t3,0,none⟩=some (Qz n25)/\1*3<=16777216/\AllocP w12.drew (Obj.cells #[Qz x11,Qz n25,Qz 1] 44) fun b26 w27=>#[Value.slice (some ⟨b26,0,none⟩) 1 1].size=1/\StoreP w27 t4 0 [Value.slice (some ⟨b26,0,none⟩) 1 1] fun w28=>(w28.1[l]? =w12.1[l]? /\w28.1[D]? =w12.1[D]?)/\Jx Code.ret w28) ((w12.drew.1[l]? =w12.1[l]? /\w12.drew.1[D]? =w12.1[D]?)/\Jn w12.drew)):
  BodyP Tryz.prog tb Tryz.f86.ntmps l D n₀ R86_0a (rP R86_0) (rA R86_0) (rB R86_0) (frC g [(2,Value.pointer (some ⟨t2,0,none⟩)),(3,Value.pointer (some ⟨t3,0,none⟩)),(4,Value.pointer (some ⟨t4,0,none⟩)),(10,Value.func (Fn.func t10.1) #[] t10.2)]) Jn Jx [Value.int IntKind.i64 x11,(.agg (lC53 x12).toArray)] W:=
 Eq.mp (by kernel_rfl) h
theorem F87_ok(t0:Sl×List Value)(t1:Sl)(t2:Int)(t3:Int)(w:World)(R:RV)(h:AllocP w (Obj.cells { toList:=Qy t0.fst::t0.2 } 26) fun b1 w2=>∃(x3:Sl×List Value),CellsN w2.drew b1 0 17 (Qy x3.fst::x3.2)/\Qx t1.1 t3 (t1.2:Int) fun b6 b7=>Qi w2.drew b6 (b7+t3.toNat*6+1) fun n8=>Cx 154 #[Value.agg { toList:=Qy x3.fst::x3.2 },Qy t1,Qz t2,Qz n8] w2.drew fun v9 w10=>∃(x11:Int×Int),v9=Value.tuple #[Qz x11.1,Qz x11.2]/\∃(x12:Sl×List Value),CellsN w10.drew b1 0 17 (Qy x12.fst::x12.2)/\Qx t1.1 t2 (t1.2:Int) fun b15 b16=>Qi w10.drew b15 (b16+t2.toNat*6+1) fun n17=>Cx 154 #[Value.agg { toList:=Qy x12.fst::x12.2 },Qy t1,Qz t3,Qz n17] w10.drew fun v18 w19=>∃(x20:Int×Int),v18=Value.tuple #[Qz x20.1,Qz x20.2]/\3*3<=16777216/\AllocP w19 (Obj.cells #[Qz t2,Qz t3,Qz 2,Qz x11.2,Qz t3,Qz 3,Qz t2,Qz x20.1,Qz 4] 44) fun b21 w22=>R (Value.slice (some ⟨b21,0,none⟩) 3 3) w22):Cw 87 #[Value.agg { toList:=Qy t0.fst::t0.2 },Qy t1,Qz t2,Qz t3] w R:=
 ckF Tryz.func87 (nd (.node (.draw (sts [0,1,2,3,4,5,6,7] (.ac 8 [] (sts [9,10,11,12,13] .fin) .non))) (.node (.draw (sts [0,1,2,3,4,5,6,7] (.ac 8 [] (sts [9,10,11,12,13] .fin) .non))) .nil))) h (by kernel_rfl) (by kernel_rfl)
def F157j1(t0:Sl)(R:RV)(y1:Nat->Int->World->Prop)(b3:Nat)(n4:Int)(w5:World):Prop:=IfB (decide (n4<(t0.n:Int))) (Qx t0.1 n4 (t0.2:Int) fun b8 b9=>Qi w5 b8 (b9+n4.toNat) fun n10=>IfB (n10 != 0) (R (Qz n10) w5) (Qn y1 b3 (IntKind.i64.wrap (n4+1)) w5)) (R (Qz 0) w5)
theorem F157_ok(t0:Sl)(w:World)(R:RV)(h:Ql (α:=Int) 0 w fun y1 b3 n4 w5=>(F157j1 t0 R y1 b3 n4 w5)):Cw 157 #[Qy t0] w R:=
 ckF Tryz.func157 (nd (nd (.node (nd (.loop [(8,oi)] (rg [2,2,5,5,8,16]) .nil)) .nil))) h (by kernel_rfl) (by kernel_rfl)
theorem F89_ok(t0:Int×Int×Int)(t1:Int×Int×Int)(w:World)(R:RV)(h:AllocP w (Obj.cells (lC44 t0).toArray 44) fun b1 w2=>AllocP w2 (Obj.cells (lC44 t1).toArray 44) fun b3 w4=>Qi w4.drew b1 (0+0) fun n5=>Qi w4.drew b3 (0+0) fun n6=>Qi w4.drew b1 (0+1) fun n7=>Qi w4.drew b3 (0+1) fun n8=>Qi w4.drew b1 (0+2) fun n9=>Qi w4.drew b3 (0+2) fun n10=>Qw' 158 #[Qz n5,Qz n6] w4.drew fun n13 w12=>w12.cell? ⟨b3,0+2,none⟩=some (Qz n10)/\w12.cell? ⟨b1,0+2,none⟩=some (Qz n9)/\w12.cell? ⟨b3,0+1,none⟩=some (Qz n8)/\w12.cell? ⟨b1,0+1,none⟩=some (Qz n7)/\Qw' 158 #[Qz n7,Qz n8] w12 fun n16 w15=>w15.cell? ⟨b3,0+2,none⟩=some (Qz n10)/\w15.cell? ⟨b1,0+2,none⟩=some (Qz n9)/\Qw' 158 #[Qz n9,Qz n10] w15 fun n19 w18=>3*1<=16777216/\AllocP w18 (Obj.cells #[Qz n13,Qz n16,Qz n19] 3) fun b20 w21=>Qw' 157 #[Value.slice (some ⟨b20,0,none⟩) 3 3] w21 fun n24 w23=>R (Qz n24) w23):Cw 89 #[(.agg (lC44 t0).toArray),(.agg (lC44 t1).toArray)] w R:=
 ckF Tryz.func89 (nd (.node (.draw (sts [0,1,2,3,5,6,7,8,10,11,12,13] (.ac 4 (rg [5,8,10,13]) (.ac 9 [13,12,11,10] (.ac 14 [] (.ac 15 [] (.ac 16 [] (.st 17 .fin) .non) .non) .non) .non) .non))) .nil)) h (by kernel_rfl) (by kernel_rfl)
def F90j2(t0:Sl)(R:RV)(n4:Int)(y15:Nat->Int×Int->World->Prop)(b17:Nat)(x18:Int×Int)(w19:World):Prop:=IfB (decide (x18.snd<(((t0.n-n4.toNat:Nat):Int):Int))) (Qx (slAddr t0.1 t0.3 n4.toNat 3) x18.2 ((t0.2-n4.toNat:Nat):Int) fun b22 b23=>∃(x24:Int×Int×Int),CellsAt w19.drew b22 (b23+x18.2.toNat*3) (lC44 x24)/\Qx (slAddr t0.1 t0.3 n4.toNat 3) (IntKind.i64.wrap (x18.2-1)) ((t0.2-n4.toNat:Nat):Int) fun b25 b26=>∃(x27:Int×Int×Int),CellsAt w19.drew b25 (b26+(IntKind.i64.wrap (x18.2-1)).toNat*3) (lC44 x27)/\∃t28:Bool,EqAt Tryz.prog 44 ((.agg (lC44 x24).toArray)) ((.agg (lC44 x27).toArray)) t28/\IfB (!t28) (Qx (slAddr t0.1 t0.3 n4.toNat 3) x18.2 ((t0.2-n4.toNat:Nat):Int) fun b29 b30=>∃(x31:Int×Int×Int),CellsAt w19.drew b29 (b30+x18.2.toNat*3) (lC44 x31)/\Qx t0.1 x18.1 (t0.2:Int) fun b32 b33=>(lC44 x31).toArray.size=3/\StoreP w19.drew b32 (b33+x18.1.toNat*3) (lC44 x31) fun w34=>Qn y15 b17 (IntKind.i64.wrap (x18.1+1),IntKind.i64.wrap (x18.2+1)) w34) (Qn y15 b17 (x18.1,IntKind.i64.wrap (x18.2+1)) w19.drew)) ((0<=x18.1/\x18.1<=(t0.2:Int))/\match slAddr t0.1 t0.3 x18.1.toNat 3 with|none=>(0<=x18.1/\x18.1<=(t0.3:Int))/\R (Value.slice (slAddr t0.1 t0.3 0 3) x18.1.toNat t0.3) w19|some ({ block:=b38,off:=b39,spot:=none }:Addr)=>StoreP w19 b38 b39 (zc #[Qz 0,Qz 0,Qz 0] (t0.2-x18.1.toNat)) fun w40=>(0<=x18.1/\x18.1<=(t0.3:Int))/\R (Value.slice (slAddr t0.1 t0.3 0 3) x18.1.toNat t0.3) w40|some y41=>False)
def F90j1(t0:Sl)(R:RV)(y1:Nat->Int->World->Prop)(b3:Nat)(n4:Int)(w5:World):Prop:=IfB (decide (n4<(t0.n:Int))) (Qx t0.1 n4 (t0.2:Int) fun b8 b9=>∃(x10:Int×Int×Int),CellsAt w5.drew b8 (b9+n4.toNat*3) (lC44 x10)/\Qx t0.1 (IntKind.i64.wrap (n4-1)) (t0.2:Int) fun b11 b12=>∃(x13:Int×Int×Int),CellsAt w5.drew b11 (b12+(IntKind.i64.wrap (n4-1)).toNat*3) (lC44 x13)/\∃t14:Bool,EqAt Tryz.prog 44 ((.agg (lC44 x10).toArray)) ((.agg (lC44 x13).toArray)) t14/\IfB t14 ((0<=n4/\n4<=(t0.2:Int))/\Ql (α:=Int×Int) (n4,1) w5.drew fun y15 b17 x18 w19=>(F90j2 t0 R n4 y15 b17 x18 w19)) (Qn y1 b3 (IntKind.i64.wrap (n4+1)) w5.drew)) (R (Qy t0) w5)
theorem F90_ok(t0:Sl)(w:World)(R:RV)(h:IfB (decide ((t0.n:Int)<2)) (R (Qy t0) w) (Ql (α:=Int) 1 w fun y1 b3 n4 w5=>(F90j1 t0 R y1 b3 n4 w5))):Cw 90 #[Qy t0] w R:=
 ckF Tryz.func90 (nd (nd (.node (nd (.loop [(3,oi)] (rg [2,5,10,59]) (nd (.node (.node (.draw (sts [0,1,2,3,4,5,6,7,8,9] .fin)) (.node (nd (.node (nd (.loop [(3,oi),(5,oi)] (rg [3,3,5,5,29,53]) (nd (.node (.node (.draw (sts [0,1,2,3,4,5,6,7,8,9] .fin)) .nil) .nil)))) .nil)) .nil)) .nil)))) .nil))) h (by kernel_rfl) (by kernel_rfl)
def F30j2(t1:Sl)(b1:Nat)(y12:Nat->Sl×Int->World->Prop)(b14:Nat)(x15:Sl×Int)(s21:Sl)(y28:Nat->Sl×Int->World->Prop)(b30:Nat)(x31:Sl×Int)(w32:World):Prop:=IfB (decide (x31.snd<(s21.n:Int))) (Qx s21.1 x31.2 (s21.2:Int) fun b35 b36=>Qi w32 b35 (b36+x31.2.toNat) fun n37=>Qx t1.1 n37 (t1.2:Int) fun b38 b39=>Qi w32.drew b38 (b39+n37.toNat*6+0) fun n40=>Qx t1.1 x15.2 (t1.2:Int) fun b41 b42=>Qi w32.drew b41 (b42+x15.2.toNat*6+0) fun n43=>IfB (n40 != n43) (∃(x44:Sl×List Value),CellsN w32.drew b1 0 17 (Qy x44.fst::x44.2)/\Qu' 87 #[Value.agg { toList:=Qy x44.fst::x44.2 },Qy t1,Qz n37,Qz x15.2] w32.drew fun s49 w48=>∃(l50:List Value),ReadC w48 s49.1 (s49.2*3) l50/\AppendP tt44 44 w48 x31.fst.1 x31.fst.2 x31.fst.3 s49.2 l50 fun s51 w52=>Qn y28 b30 ({ p:=s51.1,n:=s51.2,c:=s51.3 },IntKind.i64.wrap (x31.2+1)) w52) (Qn y28 b30 ({ p:=x31.fst.1,n:=x31.fst.2,c:=x31.fst.3 },IntKind.i64.wrap (x31.2+1)) w32.drew)) (Qn y12 b14 ({ p:=x31.fst.1,n:=x31.fst.2,c:=x31.fst.3 },IntKind.i64.wrap (x15.2+1)) w32)
def F30j1(t1:Sl)(R:RV)(b1:Nat)(s11:Sl)(y12:Nat->Sl×Int->World->Prop)(b14:Nat)(x15:Sl×Int)(w16:World):Prop:=IfB (decide (x15.snd<(s11.n:Int))) (Qx s11.1 x15.2 (s11.2:Int) fun b19 b20=>Qs w16 b19 (b20+x15.2.toNat) fun s21=>Qu' 86 #[Qy t1,Qz x15.2] w16 fun s24 w23=>∃(l25:List Value),ReadC w23 s24.1 (s24.2*3) l25/\AppendP tt44 44 w23 x15.fst.1 x15.fst.2 x15.fst.3 s24.2 l25 fun s26 w27=>Ql (α:=Sl×Int) ({ p:=s26.1,n:=s26.2,c:=s26.3 },0) w27 fun y28 b30 x31 w32=>(F30j2 t1 b1 y12 b14 x15 s21 y28 b30 x31 w32)) (Cx 88 #[Qy x15.fst,Value.func (Fn.func 89) #[] #[]] w16 fun v56 w57=>∃y58:Unit,v56=Value.tuple #[]/\Qu' 90 #[Qy x15.fst] w57 fun s61 w60=>R (Qy s61) w60)
theorem F30_ok(t0:Sl×List Value)(t1:Sl)(w:World)(R:RV)(h:AllocP w (Obj.cells { toList:=Qy t0.fst::t0.2 } 26) fun b1 w2=>∃(x3:Sl×List Value),CellsN w2 b1 0 17 (Qy x3.fst::x3.2)/\Qv' 84 #[Value.agg { toList:=Qy x3.fst::x3.2 },Qy t1] w2 fun t8 w7=>IfB (!t8) (R (Value.slice none 0 0) w7) (Qu' 85 #[Qy t1] w7 fun s11 w10=>Ql (α:=Sl×Int) ({ p:=none,n:=0,c:=0 },0) w10 fun y12 b14 x15 w16=>(F30j1 t1 R b1 s11 y12 b14 x15 w16))):Cw 30 #[Value.agg { toList:=Qy t0.fst::t0.2 },Qy t1] w R:=
 ckF Tryz.func30 (nd (nd (nd (.node (nd (.loop [(5,.one (.sl)),(17,oi)] (rg [5,7,9,9,17,52]) (nd (nd (.node (nd (nd (nd (.loop [(5,.one (.sl)),(29,oi)] (rg [5,5,9,9,29,51]) (nd (nd (.node (nd (.node (.draw (sts [0,1,2,3,4,5,6,7,8,9,10] .fin)) .nil)) .nil))))))) .nil))))) .nil)))) h (by kernel_rfl) (by kernel_rfl)
def F95j4(t0:Int)(t1:Sl)(b1:Nat)(y26:Nat->Sl->World->Prop)(b28:Nat)(x36:Sl×Int)(s54:Sl)(y56:Nat->Int->World->Prop)(b58:Nat)(n59:Int)(w60:World):Prop:=IfB (decide (n59<(t1.n:Int))) (Qx t1.1 n59 (t1.2:Int) fun b63 b64=>∃(x65:Int×Int×Int),CellsAt w60 b63 (b64+n59.toNat*3) (lC44 x65)/\AllocP w60 (Obj.cells #[Qz 0,Qz 0,Qz 0] 44) fun b66 w67=>(lC44 x65).toArray.size=3/\StoreP w67 b66 0 (lC44 x65) fun w68=>Qi w68 b66 (0+0) fun n69=>IfB (n69 == x36.2) (Qi w68 b66 (0+1) fun n70=>Qx (some ⟨b1,0,none⟩) n70 (t0.toNat:Int) fun b71 b72=>Qi w68 b71 (b72+n70.toNat) fun n73=>Qx (some ⟨b1,0,none⟩) n70 (t0.toNat:Int) fun b74 b75=>#[Qz (IntKind.i64.wrap (n73-1))].size=1/\StoreP w68 b74 (b75+n70.toNat) [Qz (IntKind.i64.wrap (n73-1))] fun w76=>Qn y56 b58 (IntKind.i64.wrap (n59+1)) w76) (Qn y56 b58 (IntKind.i64.wrap (n59+1)) w68)) (Qn y26 b28 { p:=s54.1,n:=s54.2,c:=s54.3 } w60)
def F95j3(t0:Int)(t1:Sl)(R:RV)(b1:Nat)(b24:Nat)(y26:Nat->Sl->World->Prop)(b28:Nat)(y33:Nat->Sl×Int->World->Prop)(b35:Nat)(x36:Sl×Int)(w37:World):Prop:=IfB (decide (x36.snd<t0)) (Qx (some ⟨b24,0,none⟩) x36.2 (t0.toNat:Int) fun b40 b41=>Qb w37 b40 (b41+x36.2.toNat) fun t42=>IfB t42 (Qn y33 b35 ({ p:=x36.fst.1,n:=x36.fst.2,c:=x36.fst.3 },IntKind.i64.wrap (x36.2+1)) w37) (Qx (some ⟨b1,0,none⟩) x36.2 (t0.toNat:Int) fun b44 b45=>Qi w37 b44 (b45+x36.2.toNat) fun n46=>IfB (decide (0<n46)) (Qn y33 b35 ({ p:=x36.fst.1,n:=x36.fst.2,c:=x36.fst.3 },IntKind.i64.wrap (x36.2+1)) w37) (Qx (some ⟨b24,0,none⟩) x36.2 (t0.toNat:Int) fun b48 b49=>#[Value.bool true].size=1/\StoreP w37 b48 (b49+x36.2.toNat) [Value.bool true] fun w50=>1*1<=16777216/\AllocP w50 (Obj.cells #[Qz x36.2] 3) fun b51 w52=>∃(l53:List Value),ReadC w52 (some ⟨b51,0,none⟩) (1*1) l53/\AppendP tt3 3 w52 x36.fst.1 x36.fst.2 x36.fst.3 1 l53 fun s54 w55=>Ql (α:=Int) 0 w55 fun y56 b58 n59 w60=>(F95j4 t0 t1 b1 y26 b28 x36 s54 y56 b58 n59 w60)))) (R (Qy x36.fst) w37)
def F95j1(t0:Int)(t1:Sl)(R:RV)(b1:Nat)(y3:Nat->Int->World->Prop)(b5:Nat)(n6:Int)(w7:World):Prop:=IfB (decide (n6<(t1.n:Int))) (Qx t1.1 n6 (t1.2:Int) fun b10 b11=>∃(x12:Int×Int×Int),CellsAt w7 b10 (b11+n6.toNat*3) (lC44 x12)/\AllocP w7 (Obj.cells #[Qz 0,Qz 0,Qz 0] 44) fun b13 w14=>(lC44 x12).toArray.size=3/\StoreP w14 b13 0 (lC44 x12) fun w15=>Qi w15 b13 (0+1) fun n16=>Qx (some ⟨b1,0,none⟩) n16 (t0.toNat:Int) fun b17 b18=>Qi w15 b17 (b18+n16.toNat) fun n19=>Qx (some ⟨b1,0,none⟩) n16 (t0.toNat:Int) fun b20 b21=>#[Qz (IntKind.i64.wrap (n19+1))].size=1/\StoreP w15 b20 (b21+n16.toNat) [Qz (IntKind.i64.wrap (n19+1))] fun w22=>Qn y3 b5 (IntKind.i64.wrap (n6+1)) w22) ((0<=t0/\t0<=t0/\t0<=281474976710656/\((1:Nat):Int)*t0<=281474976710656)/\AllocP w7 (Obj.cells { toList:=zc #[Value.bool false] t0.toNat } 4) fun b24 w25=>Ql (α:=Sl) ({ p:=none,n:=0,c:=0 }) w25 fun y26 b28 s29 w30=>Ql (α:=Sl×Int) ({ p:=s29.1,n:=s29.2,c:=s29.3 },0) w30 fun y33 b35 x36 w37=>(F95j3 t0 t1 R b1 b24 y26 b28 y33 b35 x36 w37))
theorem F95_ok(t0:Int)(t1:Sl)(w:World)(R:RV)(h:(0<=t0/\t0<=t0/\t0<=281474976710656/\((8:Nat):Int)*t0<=281474976710656)/\AllocP w (Obj.cells { toList:=zc #[Qz 0] t0.toNat } 3) fun b1 w2=>Ql (α:=Int) 0 w2 fun y3 b5 n6 w7=>(F95j1 t0 t1 R b1 y3 b5 n6 w7)):Cw 95 #[Qz t0,Qy t1] w R:=
 ckF Tryz.func95 (nd (nd (.node (nd (.loop [(17,oi)] (rg [7,7,17,28]) .nil)) (nd (nd (nd (.loop [(8,.one (.sl))] (rg [4,4,8,8,10,10,12,12,31,72]) (.node (nd (.loop [(8,.one (.sl)),(32,oi)] (rg [8,8,10,10,12,12,32,71]) (nd (nd (.node (nd (nd (nd (nd (.node (nd (.loop [(55,oi)] (rg [12,12,55,70]) .nil)) .nil))))) .nil))))) .nil)))))))) h (by kernel_rfl) (by kernel_rfl)
theorem F37_ok(t0:Sl×List Value)(t1:Sl)(w:World)(R:RV)(h:AllocP w (Obj.cells { toList:=Qy t0.fst::t0.2 } 26) fun b1 w2=>∃(x3:Sl×List Value),CellsN w2 b1 0 17 (Qy x3.fst::x3.2)/\Qu' 30 #[Value.agg { toList:=Qy x3.fst::x3.2 },Qy t1] w2 fun s8 w7=>Qu' 95 #[Qz (t1.2:Int),Qy s8] w7 fun s11 w10=>∃(x12:Sl×List Value),CellsN w10 b1 0 17 (Qy x12.fst::x12.2)/\Qv' 84 #[Value.agg { toList:=Qy x12.fst::x12.2 },Qy t1] w10 fun t17 w16=>IfB (!t17) (R (Value.slice none 0 0) w16) (IfB (decide ((s11.n:Int)<(t1.n:Int))) (R (Value.slice none 0 0) w16) (R (Qy s11) w16))):Cw 37 #[Value.agg { toList:=Qy t0.fst::t0.2 },Qy t1] w R:=
 ckF Tryz.func37 .nil h (by kernel_rfl) (by kernel_rfl)
theorem own_class{x:CatD}{hs:List Nd}(h:HMay x hs)(s:Int):∀i,i<=hs.length->match lastOwn hs i s with
  | none=>∀k b,k<i->hs[k]? =some b->b.v.1≠s
  | some m=>∀k b,k<i->hs[k]? =some b->b.v.1=s->b.v.2.1=m.v.2.1:=by
 intro i
 induction i with
 | zero=>
  intro _
  have:lastOwn hs 0 s=none:=by unfold lastOwn ownL;simp
  rw[this]
  exact fun k b hk=>absurd hk (Nat.not_lt_zero _)
 | succ i ih=>
  intro hi
  have ih:=ih (by omega)
  have hx:hs[i]? =some hs[i]:=List.getElem?_eq_getElem (by omega)
  generalize hs[i]=y at hx
  have hnx:=(h.ok i y hx).nx
  rw[lastOwn_succ hx]
  by_cases hys:y.v.1=s
  ·rw[if_pos hys]
   intro k b hk hb hbs
   rcases Nat.lt_or_ge k i with h'|h'
   ·rw[hys] at hnx
    cases hl:lastOwn hs i s with
    | none=>rw[hl] at ih;exact absurd hbs (ih k b h' hb)
    | some m=>
     rw[hl] at ih hnx
     exact(ih k b h' hb hbs).trans hnx.1.symm
   ·have:k=i:=by omega
    subst this
    rw[hx] at hb;cases hb;rfl
  ·rw[if_neg hys]
   have old:∀k b,k<i+1->hs[k]? =some b->b.v.1=s->k<i:=fun k b hk hb hbs=>by
    rcases Nat.lt_or_ge k i with h'|h'
    ·exact h'
    ·have:k=i:=by omega
     subst this
     rw[hx] at hb;cases hb;exact absurd hbs hys
   cases hl:lastOwn hs i s with
   | none=>
    rw[hl] at ih
    intro k b hk hb hbs
    exact ih k b (old k b hk hb hbs) hb hbs
   | some m=>
    rw[hl] at ih
    intro k b hk hb hbs
    exact ih k b (old k b hk hb hbs) hb hbs
theorem HMay.cls{x:CatD}{hs:List Nd}(h:HMay x hs){i k:Nat}{a b:Nd}(ha:hs[i]? =some a)(hb:hs[k]? =some b)(he:a.v.1=b.v.1):a.v.2.1=b.v.2.1:=by
 have hia:=(List.getElem?_eq_some_iff.1 ha).1
 have hkb:=(List.getElem?_eq_some_iff.1 hb).1
 have:=own_class h b.v.1 hs.length (Nat.le_refl _)
 cases hl:lastOwn hs hs.length b.v.1 with
 | none=>rw[hl] at this;exact absurd rfl (this k b hkb hb)
 | some m=>rw[hl] at this;exact(this i a hia ha he).trans (this k b hkb hb rfl).symm
def FstP(x:CatD)(hs:List Nd)(i:Nat)(d:Int)(f:Nat):Prop:=InP x hs i f d/\∀k,InP x hs i k d->f<=k
def LstP(x:CatD)(hs:List Nd)(i:Nat)(d:Int)(l:Nat):Prop:=InP x hs i l d/\∀k,InP x hs i k d->k<=l
theorem InP.lt{x:CatD}{hs:List Nd}{i k:Nat}{d:Int}(h:InP x hs i k d)(hi:i<hs.length):k<hs.length:=by
 rcases h with rfl|⟨_,b,_,hb,_⟩
 ·exact hi
 ·exact(List.getElem?_eq_some_iff.1 hb).1
theorem uN_of{x:CatD}{c d:Int}(hc:0<=c)(hd:0<=d)(k:Nat):uN x c d k=unitN x c.toNat d.toNat k:=by unfold uN;rw[if_pos ⟨hc,hd⟩]
theorem c154{w:World}{v:CatV}{x:CatD}{t:Sl}{hs:List Nd}(h:CatM w v x)(hH:Hst w t hs)(hM:HMay x hs){i:Nat}(hi:i<hs.length){d:Int}(hd:0<=d/\d<(x.1.length:Int)):
  Cw 154 #[cxV v,slV t,iv i,iv d] w fun r w'=>∃f l:Nat,r=.tuple #[iv f,iv l]/\FstP x hs i d f/\LstP x hs i d l/\Ext w w':=by
 have htn:=hH.n
 have hl100:=hM.len
 have ha:hs[i]? =some hs[i]:=List.getElem?_eq_getElem hi
 generalize hs[i]=a at ha
 have sa:=hM.step ha
 have oa:=hM.ok i a ha
 have hbd:(0:Int)<=(i:Int)/\(i:Int)<(t.n:Int):=⟨by omega,by omega⟩
 refine F154_ok v t (i:Int) d w _ fun b1 w2 a2=>?_
 have e2:Ext w w2:=a2.ch _
 obtain⟨p1,o1,hp1,hc1⟩:=(hH.ext e2).at ha
 refine⟨p1,o1,hp1,hbd,a.v.2.2.2.1,by rw[Int.toNat_natCast];exact hc1 3 _ rfl,IfB.intro (fun h1=>⟨i,i,rfl,⟨.inl rfl,fun k hk=>?_⟩,⟨.inl rfl,fun k hk=>?_⟩,e2⟩) fun h1=>?_⟩
 ·rcases hk with rfl|⟨a',b',ha',_,_,hb',_⟩
  ·exact Nat.le_refl _
  ·rw[ha] at ha';cases ha';rw[h1] at hb';cases hb'
 ·rcases hk with rfl|⟨a',b',ha',_,_,hb',_⟩
  ·exact Nat.le_refl _
  ·rw[ha] at ha';cases ha';rw[h1] at hb';cases hb'
 have ed:=extDrew w2
 have E2:=e2.trans ed
 obtain⟨p2,o2,hp2,hc2⟩:=(hH.ext E2).at ha
 refine⟨v,cxN h a2.new ed,p2,o2,hp2,hbd,a.v.2.1,by rw[Int.toNat_natCast];exact hc2 1 _ rfl,p2,o2,hp2,hbd,a.v.2.2.1,by rw[Int.toNat_natCast];exact hc2 2 _ rfl,(c136 (h.ext E2) hM.cat a.v.2.1 d a.v.2.2.1).use ?_⟩
 rintro _ w16 ⟨lo,up,b,rfl,hb,hlu,e16⟩
 have E16:=E2.trans e16
 obtain⟨l,u,rfl,rfl,hB⟩:=hlu (hb.2 ⟨⟨oa.c0,oa.cn⟩,hd,sa.1,sa.2.1⟩)
 have hin:∀ {k:Nat}{n:Nd},hs[k]? =some n->(InP x hs i k d↔n.v.1=a.v.1/\n.v.2.2.2.1=false/\(l:Int)<=n.v.2.2.1/\n.v.2.2.1<=(u:Int)):=fun{k n} hn=>by
  have sn:=hM.step hn
  have key:n.v.1=a.v.1->(uN x a.v.2.1 d a.v.2.2.1.toNat=uN x a.v.2.1 d n.v.2.2.1.toNat↔(l:Int)<=n.v.2.2.1/\n.v.2.2.1<=(u:Int)):=fun he=>by
   have hcl:=hM.cls hn ha he
   rw[uN_of oa.c0 hd.1,uN_of oa.c0 hd.1,eq_comm,hB.iff (by rw[<-hcl];omega)]
   omega
  constructor
  ·rintro(rfl|⟨a',b',ha',hb',h2,h3,h4,h5⟩)
   ·rw[ha] at hn;cases hn
    have:=hB.l;have:=hB.h
    exact⟨rfl,h1,by omega,by omega⟩
   ·rw[ha] at ha';rw[hn] at hb'
    cases ha';cases hb'
    exact⟨h2.symm,h4,(key h2.symm).1 h5⟩
  ·rintro⟨h2,h3,h4⟩
   exact .inr ⟨a,n,ha,hn,h2.symm,h1,h3,(key h2).2 h4⟩
 refine⟨((l:Int),(u:Int),b),rfl,fun m z W=>∃k f e:Nat,k<=hs.length/\m+k=hs.length/\z=((f:Int),(e:Int),(k:Int))/\(InP x hs i f d/\InP x hs i e d/\∀j,j<k->InP x hs i j d->f<=j/\j<=e)/\Ext w W,⟨hs.length,0,i,i,Nat.zero_le _,rfl,rfl,⟨.inl rfl,.inl rfl,fun j hj=>absurd hj (Nat.not_lt_zero _)⟩,E16⟩,?_⟩
 rintro m _ W g ⟨k,f,e,hk,hm,rfl,⟨hf,he,hall⟩,eW⟩
 unfold F154j1
 refine IfB.dec (fun hlt=>?_) fun hge=>?_
 ·dsimp only at hlt
  have hk':k<hs.length:=by omega
  have hn:hs[k]? =some hs[k]:=List.getElem?_eq_getElem hk'
  generalize hs[k]=n at hn
  have hbk:(0:Int)<=(k:Int)/\(k:Int)<(t.n:Int):=⟨by omega,by omega⟩
  obtain⟨p3,o3,hp3,hc3⟩:=(hH.ext eW).at hn
  unfold F154k1
  refine⟨p3,o3,hp3,hbk,n.v,by dsimp only;rw[Int.toNat_natCast];exact hc3,fun b28 w29 a29=>⟨rfl,store_all (vs:=nC n.v) a29.new rfl (nC_one n.v) fun w30 u30=>?_⟩⟩
  have e30:Ext W w30:=Ext.fresh a29 u30
  have ed30:=extDrew w30
  have E30:Ext w w30.drew:=(eW.trans e30).trans ed30
  have q:=fun(o:Nat)=>boxAt (cs:=nC n.v) u30.new o ed30
  obtain⟨p4,o4,hp4,hc4⟩:=(hH.ext E30).at ha
  have hw:IntKind.i64.wrap ((k:Int)+1)=((k+1:Nat):Int):=by rw[wrap_of (by omega) (by omega)];rfl
  have step:∀ {f' e':Nat},(InP x hs i f' d/\InP x hs i e' d/\∀j,j<k+1->InP x hs i j d->f'<=j/\j<=e')->([]:List Nat)=[]/\∃b,b<m/\∃k' f e:Nat,k'<=hs.length/\b+k'=hs.length/\((f':Int),(e':Int),IntKind.i64.wrap ((k:Int)+1))=((f:Int),(e:Int),(k':Int))/\(InP x hs i f d/\InP x hs i e d/\∀j,j<k'->InP x hs i j d->f<=j/\j<=e)/\Ext w w30.drew:=fun{f' e'} hh=>⟨rfl,m-1,by omega,k+1,f',e',hk',by omega,by rw[hw],hh,E30⟩
  have skip:=fun(hno:¬InP x hs i k d)=>step (f':=f) (e':=e) ⟨hf,he,fun j hj hj'=>by
   rcases Nat.lt_or_ge j k with h'|h'
   ·exact hall j h' hj'
   ·exact absurd hj' (by rw[show j=k by omega];exact hno)⟩
  refine⟨_,q 0,p4,o4,hp4,hbd,a.v.1,by rw[Int.toNat_natCast];exact hc4 0 _ rfl,IfB.intro (fun g1=>skip fun k'=>?_) fun g1=>⟨_,q 3,IfB.intro (fun g2=>skip fun k'=>?_) fun g2=>⟨_,q 2,IfB.dec (fun g3=>skip fun k'=>?_) fun g3=>⟨_,q 2,IfB.dec (fun g4=>skip fun k'=>?_) fun g4=>?_⟩⟩⟩⟩
  ·have g1:n.v.1≠a.v.1:=by simpa using g1
   exact g1 ((hin hn).1 k').1
  ·rw[((hin hn).1 k').2.1] at g2;cases g2
  ·have:=((hin hn).1 k').2.2.1
   dsimp only at g3;omega
  ·have:=((hin hn).1 k').2.2.2
   dsimp only at g4;omega
  ·have g1:n.v.1=a.v.1:=by simpa using g1
   dsimp only at g3 g4
   have hik:InP x hs i k d:=(hin hn).2 ⟨g1,g2,by omega,by omega⟩
   have em:(if (k:Int)<(f:Int) then (k:Int) else (f:Int))=((min f k:Nat):Int):=by split<;>omega
   have eM:(if (e:Int)<(k:Int) then (k:Int) else (e:Int))=((max e k:Nat):Int):=by split<;>omega
   dsimp only
   rw[em,eM]
   refine step ⟨?_,?_,fun j hj hj'=>?_⟩
   ·rcases Nat.le_total f k with h'|h'
    ·rw[Nat.min_eq_left h'];exact hf
    ·rw[Nat.min_eq_right h'];exact hik
   ·rcases Nat.le_total e k with h'|h'
    ·rw[Nat.max_eq_right h'];exact hik
    ·rw[Nat.max_eq_left h'];exact he
   ·rcases Nat.lt_or_ge j k with h'|h'
    ·have:=hall j h' hj';omega
    ·omega
 ·dsimp only at hge
  have hk':k=hs.length:=by omega
  subst hk'
  exact⟨f,e,rfl,⟨hf,fun j hj=>(hall j (hj.lt hi) hj).1⟩,⟨he,fun j hj=>(hall j (hj.lt hi) hj).2⟩,eW⟩
end Go.Proofs.YtlpgdngcgbeegaaGreat.Gx
namespace Go.Proofs.YtlpgdngcgbeegaaGreat.Gx.SfA
open Go Go.Proofs.YtlpgdngcgbeegaaGreat.Gx
abbrev El:=Int×Int×Int
def key(x:El):Int:=x.1*1000000+x.2.1*1000+x.2.2
def Q(x:El):Prop:=(0<=x.1/\x.1<=999)/\(0<=x.2.1/\x.2.1<=999)/\0<=x.2.2/\x.2.2<=999
@[reducible] def ins:SrtC El:=⟨fun i=>[88,155,204,205,206,207,208,209,210,211,242,245,246,278].getD i 0,fun x=>[.int .i64 x.1,.int .i64 x.2.1,.int .i64 x.2.2],3,(0,0,0),key,Q⟩
set_option linter.unusedVariables false
set_option maxRecDepth 100000
theorem k0(t0:Sl)(t1:Nat×Array Value)(w:World)(R:RV)(h: @G0 El ins t0 t1 w R):Cw 88 #[Value.slice t0.1 t0.2 t0.3,Value.func (Fn.func t1.1) #[] t1.2] w R:=
 call_of tbOk mixed en88 Tryz.func88 rfl .nil (by kernel_rfl) (Nat.le_of_ble_eq_true (by kernel_rfl)) (Eq.mp (α:= @G0 El ins t0 t1 w R) (by kernel_rfl) h)
theorem k1(t0:Sl)(t1:Int)(t2:Int)(t3:Int)(t4:Nat×Array Value)(w:World)(R:RV)(h: @G1 El ins t0 t1 t2 t3 t4 w R):Cw 155 #[Value.slice t0.1 t0.2 t0.3,Value.int IntKind.i64 t1,Value.int IntKind.i64 t2,Value.int IntKind.i64 t3,Value.func (Fn.func t4.1) #[] t4.2] w R:=
 call_of tbOk mixed en155 Tryz.func155 rfl (nd (nd (.loop [(1,oi),(2,oi),(3,oi),(10,ob),(11,ob)] (rg [1,3,10,147]) (nd (nd (nd (.join [(3,oi)] (rg [3,3,38,46]) .nil (nd (.join [(13,oi),(14,oi)] (rg [13,14,55,67]) .nil (.join [] (rg [68,80]) .nil (.node (.node (.draw (sts [0,1,2,3,4,5,6,7,8,9,10,11,12] (.ac 13 [] (sts [14,15,16] .fin) .non))) .nil) .nil))))))))))) (by kernel_rfl) (Nat.le_of_ble_eq_true (by kernel_rfl)) (Eq.mp (α:= @G1 El ins t0 t1 t2 t3 t4 w R) (by kernel_rfl) h)
theorem k2(t0:Sl)(t1:Int)(t2:Int)(t3:Nat×Array Value)(w:World)(R:RV)(h: @G2 El ins t0 t1 t2 t3 w R):Cw 204 #[Value.slice t0.1 t0.2 t0.3,Value.int IntKind.i64 t1,Value.int IntKind.i64 t2,Value.func (Fn.func t3.1) #[] t3.2] w R:=
 call_of tbOk mixed en204 Tryz.func204 rfl (nd (.loop [(8,oi)] (rg [8,9,12,52]) (nd (.node (nd (.loop [(9,oi)] (rg [9,9,18,52]) (.node (.node (.draw (sts [0,1,2,3,4,5,6,7,8,9,10,11,12,13] (.ac 14 [] (sts [15,16] .fin) .non))) .nil) (.node (.draw (sts [0,1,2,3,4,5,6,7,8,9,10,11,12,13,14] (.ac 15 [4,3,2] (.st 16 (.ac 17 [] .fin .non)) .non))) .nil)))) .nil)))) (by kernel_rfl) (Nat.le_of_ble_eq_true (by kernel_rfl)) (Eq.mp (α:= @G2 El ins t0 t1 t2 t3 w R) (by kernel_rfl) h)
theorem k3(t0:Sl)(t1:Int)(t2:Int)(t3:Nat×Array Value)(w:World)(R:RV)(h: @G3 El ins t0 t1 t2 t3 w R):Cw 205 #[Value.slice t0.1 t0.2 t0.3,Value.int IntKind.i64 t1,Value.int IntKind.i64 t2,Value.func (Fn.func t3.1) #[] t3.2] w R:=
 call_of tbOk mixed en205 Tryz.func205 rfl (nd (nd (nd (.node (nd (.loop [(11,oi)] (rg [11,11,20,29]) .nil)) (nd (.loop [(12,oi)] (rg [12,12,32,59]) (nd (.node (.node (.draw (sts [0,1,2,3,4,5,6,7,8,9,10,11,12,13,14,15,16] (.ac 17 [5,4,3,2] (.st 18 (.ac 19 [] .fin .non)) .non))) .nil) .nil)))))))) (by kernel_rfl) (Nat.le_of_ble_eq_true (by kernel_rfl)) (Eq.mp (α:= @G3 El ins t0 t1 t2 t3 w R) (by kernel_rfl) h)
theorem k4(t0:Sl)(t1:Int)(t2:Int)(t3:Nat×Array Value)(w:World)(R:RV)(h: @G4 El ins t0 t1 t2 t3 w R):Cw 206 #[Value.slice t0.1 t0.2 t0.3,Value.int IntKind.i64 t1,Value.int IntKind.i64 t2,Value.func (Fn.func t3.1) #[] t3.2] w R:=
 call_of tbOk mixed en206 Tryz.func206 rfl (nd (nd (.node (nd (nd (nd (.loop [(11,oi)] (rg [11,12,28,66]) (nd (.node (nd (.join [(12,oi)] (rg [12,12,43,48]) .nil (.draw (sts [0,1,2,3,4,5,6,7,8,9,10,11,12,13,14,15,16] (.ac 17 [5,4,3,2] (.st 18 (.ac 19 [] .fin .non)) .non))))) .nil)))))) .nil))) (by kernel_rfl) (Nat.le_of_ble_eq_true (by kernel_rfl)) (Eq.mp (α:= @G4 El ins t0 t1 t2 t3 w R) (by kernel_rfl) h)
theorem k5(t0:Sl)(t1:Int)(t2:Int)(t3:Nat×Array Value)(w:World)(R:RV)(h: @G5 El ins t0 t1 t2 t3 w R):Cw 207 #[Value.slice t0.1 t0.2 t0.3,Value.int IntKind.i64 t1,Value.int IntKind.i64 t2,Value.func (Fn.func t3.1) #[] t3.2] w R:=
 call_of tbOk mixed en207 Tryz.func207 rfl (nd (nd (nd (nd (nd (nd (.join [(13,oi)] (rg [12,14,33,54]) (nd (.node (.join [(12,oi),(13,oi),(14,oi)] (rg [12,14,35,48]) .nil .nil) .nil)) .nil))))))) (by kernel_rfl) (Nat.le_of_ble_eq_true (by kernel_rfl)) (Eq.mp (α:= @G5 El ins t0 t1 t2 t3 w R) (by kernel_rfl) h)
theorem k6(t0:Sl)(t1:Int)(t2:Int)(t3:Nat×Array Value)(w:World)(R:RV)(h: @G6 El ins t0 t1 t2 t3 w R):Cw 208 #[Value.slice t0.1 t0.2 t0.3,Value.int IntKind.i64 t1,Value.int IntKind.i64 t2,Value.func (Fn.func t3.1) #[] t3.2] w R:=
 call_of tbOk mixed en208 Tryz.func208 rfl (nd (nd (.loop [(8,oi),(9,oi)] (rg [8,9,13,33]) (nd (.node (.draw (sts [0,1,2,3,4,5,6,7,8,9,10,11,12] (.ac 13 [3,2] (.st 14 (.ac 15 [] .fin .non)) .non))) .nil))))) (by kernel_rfl) (Nat.le_of_ble_eq_true (by kernel_rfl)) (Eq.mp (α:= @G6 El ins t0 t1 t2 t3 w R) (by kernel_rfl) h)
theorem k7(t0:Sl)(t1:Int)(t2:Int)(t3:Nat×Array Value)(w:World)(R:RV)(h: @G7 El ins t0 t1 t2 t3 w R):Cw 209 #[Value.slice t0.1 t0.2 t0.3,Value.int IntKind.i64 t1,Value.int IntKind.i64 t2,Value.func (Fn.func t3.1) #[] t3.2] w R:=
 call_of tbOk mixed en209 Tryz.func209 rfl (nd (nd (.node (nd (.loop [(9,oi),(10,oi)] (rg [8,12,15,140]) (nd (.node (.join [(9,oi)] (rg [9,9,19,38]) (.loop [(9,oi)] (rg [9,9,19,38]) (.node (.node (.draw (sts [0,1,2,3,4,5,6,7,8,9,10,11,12,13] (.ac 14 [] (sts [15,16,17] .fin) .non))) .nil) .nil)) (nd (nd (.node (.draw (sts [0,1,2,3,4,5,6,7,8,9,10,11,12,13,14] (.ac 15 [4,3,2] (.st 16 (.ac 17 [] .fin .non)) .non))) (.join [] (rg [11,11,62,100]) (nd (.node (nd (.loop [(11,oi)] (rg [11,11,68,100]) (nd (.node (.node (.node (.draw (sts [0,1,2,3,4,5,6,7,8,9] (.ac 10 [] (sts [11,12] .fin) .non))) .nil) (.draw (sts [0,1,2,3,4,5,6,7,8,9,10,11,12,13,14] (.ac 15 [4,3,2] (.st 16 (.ac 17 [] .fin .non)) .non)))) .nil)))) .nil)) (.join [(104,ob)] [101,102,103,104] .nil (.node (nd (.loop [(12,oi)] (rg [12,12,107,140]) (nd (.node (.node (.node (.draw (sts [0,1,2,3,4,5,6,7,8,9] (.ac 10 [] (sts [11,12] .fin) .non))) .nil) (.draw (sts [0,1,2,3,4,5,6,7,8,9,10,11,12,13,14] (.ac 15 [4,3,2] (.st 16 (.ac 17 [] .fin .non)) .non)))) .nil)))) .nil))))))) .nil)))) .nil))) (by kernel_rfl) (Nat.le_of_ble_eq_true (by kernel_rfl)) (Eq.mp (α:= @G7 El ins t0 t1 t2 t3 w R) (by kernel_rfl) h)
theorem k8(t0:Sl)(t1:Int)(t2:Int)(t3:Int)(t4:Nat×Array Value)(w:World)(R:RV)(h: @G8 El ins t0 t1 t2 t3 t4 w R):Cw 210 #[Value.slice t0.1 t0.2 t0.3,Value.int IntKind.i64 t1,Value.int IntKind.i64 t2,Value.int IntKind.i64 t3,Value.func (Fn.func t4.1) #[] t4.2] w R:=
 call_of tbOk mixed en210 Tryz.func210 rfl (nd (.node (.draw (sts [0,1,2,3,4,5,6,7,8,9,10,11,12] (.ac 13 [3,2] (.st 14 (.ac 15 [] .fin .non)) .non))) (nd (.node (.loop [(11,oi),(12,oi)] (rg [11,12,31,88]) (.join [(11,oi)] (rg [11,11,31,49]) (.loop [(11,oi)] (rg [11,11,31,49]) (.node (.node (.draw (sts [0,1,2,3,4,5,6,7,8,9,10,11,12] (.ac 13 [] (sts [14,15,16] .fin) .non))) .nil) .nil)) (.join [(12,oi)] (rg [12,12,50,67]) (.loop [(12,oi)] (rg [12,12,50,67]) (.node (.node (.draw (sts [0,1,2,3,4,5,6,7,8,9,10,11,12] (.ac 13 [] (sts [14,15] .fin) .non))) .nil) .nil)) (nd (.node (.draw (sts [0,1,2,3,4,5,6,7,8,9,10,11,12] (.ac 13 [3,2] (.st 14 (.ac 15 [] .fin .non)) .non))) .nil))))) .nil)))) (by kernel_rfl) (Nat.le_of_ble_eq_true (by kernel_rfl)) (Eq.mp (α:= @G8 El ins t0 t1 t2 t3 t4 w R) (by kernel_rfl) h)
theorem k9(t0:Sl)(t1:Int)(t2:Int)(t3:Int)(t4:Nat×Array Value)(w:World)(R:RV)(h: @G9 El ins t0 t1 t2 t3 t4 w R):Cw 211 #[Value.slice t0.1 t0.2 t0.3,Value.int IntKind.i64 t1,Value.int IntKind.i64 t2,Value.int IntKind.i64 t3,Value.func (Fn.func t4.1) #[] t4.2] w R:=
 call_of tbOk mixed en211 Tryz.func211 rfl (nd (.node (.draw (sts [0,1,2,3,4,5,6,7,8,9,10,11,12] (.ac 13 [3,2] (.st 14 (.ac 15 [] .fin .non)) .non))) (nd (.join [(12,oi)] (rg [12,12,32,49]) (.loop [(12,oi)] (rg [12,12,32,49]) (.node (.node (.draw (sts [0,1,2,3,4,5,6,7,8,9,10,11,12] (.ac 13 [] (sts [14,15] .fin) .non))) .nil) .nil)) (.join [(13,oi)] (rg [13,13,50,68]) (.loop [(13,oi)] (rg [13,13,50,68]) (.node (.node (.draw (sts [0,1,2,3,4,5,6,7,8,9,10,11,12] (.ac 13 [] (sts [14,15,16] .fin) .non))) .nil) .nil)) (.node (nd (.node (.node (.draw (sts [0,1,2,3,4,5,6,7,8,9,10,11,12] (.ac 13 [3,2] (.st 14 (.ac 15 [] .fin .non)) .non))) .nil) .nil)) (.node (.draw (sts [0,1,2,3,4,5,6,7,8,9,10,11,12] (.ac 13 [3,2] (.st 14 (.ac 15 [] .fin .non)) .non))) (nd (nd (.node (.loop [(12,oi),(13,oi)] (rg [12,13,105,162]) (.join [(12,oi)] (rg [12,12,105,122]) (.loop [(12,oi)] (rg [12,12,105,122]) (.node (.node (.draw (sts [0,1,2,3,4,5,6,7,8,9,10,11,12] (.ac 13 [] (sts [14,15] .fin) .non))) .nil) .nil)) (.join [(13,oi)] (rg [13,13,123,141]) (.loop [(13,oi)] (rg [13,13,123,141]) (.node (.node (.draw (sts [0,1,2,3,4,5,6,7,8,9,10,11,12] (.ac 13 [] (sts [14,15,16] .fin) .non))) .nil) .nil)) (nd (.node (.draw (sts [0,1,2,3,4,5,6,7,8,9,10,11,12] (.ac 13 [3,2] (.st 14 (.ac 15 [] .fin .non)) .non))) .nil))))) (.node (.draw (sts [0,1,2,3,4,5,6,7,8,9,10,11,12] (.ac 13 [3,2] (.st 14 (.ac 15 [] .fin .non)) .non))) .nil))))))))))) (by kernel_rfl) (Nat.le_of_ble_eq_true (by kernel_rfl)) (Eq.mp (α:= @G9 El ins t0 t1 t2 t3 t4 w R) (by kernel_rfl) h)
theorem k10(t0:Sl)(t1:Int)(t2:Int)(t3:Int)(t4:Nat×Array Value)(w:World)(R:RV)(h: @G10 El ins t0 t1 t2 t3 t4 w R):Cw 242 #[Value.slice t0.1 t0.2 t0.3,Value.int IntKind.i64 t1,Value.int IntKind.i64 t2,Value.int IntKind.i64 t3,Value.func (Fn.func t4.1) #[] t4.2] w R:=
 call_of tbOk mixed en242 Tryz.func242 rfl (nd (.loop [(10,oi)] (rg [10,11,13,81]) (nd (nd (.join [(11,oi)] (rg [11,11,19,42]) (.node (.draw (sts [0,1,2,3,4,5,6,7,8,9,10,11,12,13,14,15,16,17,18] (.ac 19 [] (sts [20,21] .fin) .non))) .nil) (.node (.node (.draw (sts [0,1,2,3,4,5,6,7,8,9,10,11,12] (.ac 13 [] (sts [14,15] .fin) .non))) .nil) (.node (.draw (sts [0,1,2,3,4,5,6,7,8,9,10,11,12,13,14,15,16,17,18,19,20] (.ac 21 [7,6,5,4] (.st 22 (.ac 23 [] .fin .non)) .non))) .nil))))))) (by kernel_rfl) (Nat.le_of_ble_eq_true (by kernel_rfl)) (Eq.mp (α:= @G10 El ins t0 t1 t2 t3 t4 w R) (by kernel_rfl) h)
theorem k11(t0:Sl)(t1:Int)(t2:Option Addr)(t3:Nat×Array Value)(w:World)(R:RV)(h: @G11 El ins t0 t1 t2 t3 w R):Cw 245 #[Value.slice t0.1 t0.2 t0.3,Value.int IntKind.i64 t1,Value.pointer t2,Value.func (Fn.func t3.1) #[] t3.2] w R:=
 call_of tbOk mixed en245 Tryz.func245 rfl .nil (by kernel_rfl) (Nat.le_of_ble_eq_true (by kernel_rfl)) (Eq.mp (α:= @G11 El ins t0 t1 t2 t3 w R) (by kernel_rfl) h)
theorem k12(t0:Sl)(t1:Int)(t2:Int)(t3:Int)(t4:Option Addr)(t5:Nat×Array Value)(w:World)(R:RV)(h: @G12 El ins t0 t1 t2 t3 t4 t5 w R):Cw 246 #[Value.slice t0.1 t0.2 t0.3,Value.int IntKind.i64 t1,Value.int IntKind.i64 t2,Value.int IntKind.i64 t3,Value.pointer t4,Value.func (Fn.func t5.1) #[] t5.2] w R:=
 call_of tbOk mixed en246 Tryz.func246 rfl .nil (by kernel_rfl) (Nat.le_of_ble_eq_true (by kernel_rfl)) (Eq.mp (α:= @G12 El ins t0 t1 t2 t3 t4 t5 w R) (by kernel_rfl) h)
theorem k13(t0:Sl)(t1:Int)(t2:Int)(t3:Option Addr)(t4:Nat×Array Value)(w:World)(R:RV)(h: @G13 El ins t0 t1 t2 t3 t4 w R):Cw 278 #[Value.slice t0.1 t0.2 t0.3,Value.int IntKind.i64 t1,Value.int IntKind.i64 t2,Value.pointer t3,Value.func (Fn.func t4.1) #[] t4.2] w R:=
 call_of tbOk mixed en278 Tryz.func278 rfl (nd (.node (.node (.draw (sts [0,1,2,3,4,5,6,7,8] (.ac 9 [] (.st 10 .fin) .non))) .nil) .nil)) (by kernel_rfl) (Nat.le_of_ble_eq_true (by kernel_rfl)) (Eq.mp (α:= @G13 El ins t0 t1 t2 t3 t4 w R) (by kernel_rfl) h)
theorem ok: @SrtOk El ins:= @SrtOk.mk El ins k0 k1 k2 k3 k4 k5 k6 k7 k8 k9 k10 k11 k12 k13
abbrev sv(x:El):List Value:=[.int .i64 x.1,.int .i64 x.2.1,.int .i64 x.2.2]
theorem ol: @SfG.SrtL El ins:= @SfG.SrtL.mk El ins (fun _=>rfl) (fun x=>by intro v hv;change v∈sv x at hv;simp at hv;rcases hv with rfl|rfl|rfl<;>rfl) (by decide)
def CmpP(cl:Nat×Array Value):Prop:=∀(x y:El)(W:World),Q x->Q y->Cw cl.1 { toList:=Value.agg (sv x).toArray::Value.agg (sv y).toArray::cl.2.toList } W fun v w'=>∃n:Int,v=iv n/\(n<0↔key x<key y)/\Ext W w'
theorem c88{cl:Nat×Array Value}(hcp:CmpP cl){w:World}{s:Sl}{xs:List El}(h:OwS w s 3 (xs.flatMap sv))(hl:xs.length<=1000000)(hq:∀x∈xs,Q x):
  Cw 88 #[slV s,.func (.func cl.1) #[] cl.2] w fun v w'=>v=.tuple #[]/\∃ys:List El,ys.Perm xs/\ys.Pairwise (fun x y=>key x<=key y)/\OwS w' s 3 (ys.flatMap sv)/\Ch (fun i=>i∈blk s) w w':=
 @SfG.q0 El ins ok ol cl (hcp) w s xs h hl hq
end Go.Proofs.YtlpgdngcgbeegaaGreat.Gx.SfA
namespace Go.Proofs.YtlpgdngcgbeegaaGreat.Gx
open Go
set_option linter.unusedSimpArgs false
set_option linter.unusedVariables false
abbrev ArcD:=Int×Int×Int
abbrev aC(x:ArcD):List Value:=[.int .i64 x.1,.int .i64 x.2.1,.int .i64 x.2.2]
theorem aC_len(x:ArcD):(aC x).length=3:=rfl
theorem aC_one(x:ArcD):One (aC x):=by intro v hv;simp at hv;rcases hv with rfl|rfl|rfl<;>rfl
theorem cmpZ(x y:Int)(w:World):Cw 158 #[.int .i64 x,.int .i64 y] w fun v w'=>∃n:Int,v=iv n/\(n<0↔x<y)/\(n=0↔x=y)/\w=w':=by
 refine F158_ok _ _ _ _ ((c214 x w).use ?_)
 rintro _ _ ⟨rfl,rfl⟩
 refine⟨false,rfl,(c214 y w).use ?_⟩
 rintro _ _ ⟨rfl,rfl⟩
 refine⟨false,rfl,IfB.no rfl (IfB.no rfl (IfB.dec (fun h=>⟨_,rfl,by simp;omega,by simp;omega,rfl⟩) fun h=>IfB.dec (fun h'=>⟨_,rfl,by simp;omega,by simp;omega,rfl⟩) fun h'=>⟨_,rfl,by simp;omega,by simp;omega,rfl⟩))⟩
def orI:List Int->Int
 | []=>0
 | x::l=>if x≠0 then x else orI l
theorem c157{w:World}{t:Sl}{xs:List Int}(h:Rd w t 1 (xs.map iv))(hl:xs.length<=1000000):Cw 157 #[slV t] w fun v w'=>v=iv (orI xs)/\w=w':=by
 have hn:=rdI h
 refine F157_ok t w _ ⟨fun m z W=>∃k:Nat,k<=xs.length/\m+k=xs.length/\z=(k:Int)/\orI xs=orI (xs.drop k)/\w=W,⟨_,0,Nat.zero_le _,rfl,rfl,rfl,rfl⟩,?_⟩
 rintro m _ _ g ⟨k,hk,hm,rfl,ho,rfl⟩
 unfold F157j1
 refine IfB.dec (fun hlt=>?_) fun hge=>?_
 ·have hk':k<xs.length:=by omega
  have hx:xs[k]? =some xs[k]:=List.getElem?_eq_getElem hk'
  have hd:=List.drop_eq_getElem_cons hk'
  generalize xs[k]=y at hx hd
  obtain⟨b,o,hp,hc⟩:=h.elem1 (i:=k) (v:=iv y) (by rw[List.getElem?_map,hx];rfl)
  have ho:orI xs=if y≠0 then y else orI (xs.drop (k+1)):=by rw[ho,hd,orI]
  refine⟨b,o,hp,⟨by omega,by omega⟩,y,by rw[Int.toNat_natCast];exact hc,IfB.intro (fun h1=>⟨?_,rfl⟩) fun h1=>⟨rfl,m-1,by omega,k+1,hk',by omega,by rw[wrap_of (by omega) (by omega)];rfl,?_,rfl⟩⟩
  ·have h1:y≠0:=by simpa using h1
   rw[if_pos h1] at ho
   rw[ho]
  ·have h1:¬y≠0:=by simpa using h1
   rw[if_neg h1] at ho
   exact ho
 ·have hk':k=xs.length:=by omega
  subst hk'
  rw[List.drop_length] at ho
  exact⟨by rw[ho];rfl,rfl⟩
theorem c89:SfA.CmpP (89,#[]):=by
 intro x y w hx hy
 refine F89_ok x y w _ fun b1 w2 a2 b3 w4 a4=>?_
 have e4:Ext w w4:=(a2.ch _).trans (a4.ch _)
 have ed:=extDrew w4
 have q1:=fun(o:Nat)=>boxAt (cs:=aC x) (a4.at a2.new) o ed
 have q3:=fun(o:Nat)=>boxAt (cs:=aC y) a4.new o ed
 refine⟨_,q1 0,_,q3 0,_,q1 1,_,q3 1,_,q1 2,_,q3 2,(cmpZ x.1 y.1 _).use ?_⟩
 rintro _ _ ⟨n1,rfl,h1,z1,rfl⟩
 refine⟨n1,rfl,q3 2,q1 2,q3 1,q1 1,(cmpZ x.2.1 y.2.1 _).use ?_⟩
 rintro _ _ ⟨n2,rfl,h2,z2,rfl⟩
 refine⟨n2,rfl,q3 2,q1 2,(cmpZ x.2.2 y.2.2 _).use ?_⟩
 rintro _ _ ⟨n3,rfl,h3,z3,rfl⟩
 refine⟨n3,rfl,by decide,fun b20 w21 a21=>?_⟩
 refine(c157 (xs:=[n1,n2,n3]) (OwS.new (sz:=1) (n:=3) (cs:=[iv n1,iv n2,iv n3]) a21 rfl).rd (by simp)).use ?_
 rintro _ _ ⟨rfl,rfl⟩
 refine⟨_,rfl,_,rfl,?_,(e4.trans ed).trans (a21.ch _)⟩
 obtain⟨k1,k2,k3⟩:=hx
 obtain⟨g1,g2,g3⟩:=hy
 unfold SfA.key
 simp only[orI]
 split
 ·omega
 ·split
  ·omega
  ·split<;>omega
def BtwP(x:CatD)(hs:List Nd)(a b:Nat)(xs:List ArcD):Prop:=∃na nb l f,hs[a]? =some na/\hs[b]? =some nb/\LstP x hs a nb.v.2.1 l/\FstP x hs b na.v.2.1 f/\xs=[((a:Int),(b:Int),2),((l:Int),(b:Int),3),((a:Int),(f:Int),4)]
theorem c87{w:World}{v:CatV}{x:CatD}{t:Sl}{hs:List Nd}(h:CatM w v x)(hH:Hst w t hs)(hM:HMay x hs){a b:Nat}(ha:a<hs.length)(hb:b<hs.length):
  Cw 87 #[cxV v,slV t,iv a,iv b] w fun r w'=>∃t' xs,r=slV t'/\BtwP x hs a b xs/\OwS w' t' 3 (xs.flatMap aC)/\Ext w w'/\∀j∈blk t',w.heap.size<=j:=by
 have htn:=hH.n
 have ga:hs[a]? =some hs[a]:=List.getElem?_eq_getElem ha
 have gb:hs[b]? =some hs[b]:=List.getElem?_eq_getElem hb
 generalize hs[a]=na at ga
 generalize hs[b]=nb at gb
 have oa:=hM.ok a na ga
 have ob:=hM.ok b nb gb
 refine F87_ok v t (a:Int) (b:Int) w _ fun b1 w2 a2=>?_
 have e2:Ext w w2:=a2.ch _
 have ed:=extDrew w2
 have E2:=e2.trans ed
 obtain⟨p1,o1,hp1,hc1⟩:=(hH.ext E2).at gb
 refine⟨v,cxN h a2.new ed,p1,o1,hp1,⟨by omega,by omega⟩,nb.v.2.1,by rw[Int.toNat_natCast];exact hc1 1 _ rfl,(c154 (h.ext E2) (hH.ext E2) hM ha ⟨ob.c0,ob.cn⟩).use ?_⟩
 rintro _ w10 ⟨f1,l1,rfl,_,hl1,e10⟩
 have ed10:=extDrew w10
 have x10:Ext w2 w10.drew:=(ed.trans e10).trans ed10
 have E10:=e2.trans x10
 obtain⟨p2,o2,hp2,hc2⟩:=(hH.ext E10).at ga
 refine⟨((f1:Int),(l1:Int)),rfl,v,cxN h a2.new x10,p2,o2,hp2,⟨by omega,by omega⟩,na.v.2.1,by rw[Int.toNat_natCast];exact hc2 1 _ rfl,(c154 (h.ext E10) (hH.ext E10) hM hb ⟨oa.c0,oa.cn⟩).use ?_⟩
 rintro _ w19 ⟨f2,l2,rfl,hf2,_,e19⟩
 refine⟨((f2:Int),(l2:Int)),rfl,by decide,fun b21 w22 a22=>⟨⟨some ⟨b21,0,none⟩,3,3⟩,[((a:Int),(b:Int),2),((l1:Int),(b:Int),3),((a:Int),(f2:Int),4)],rfl,⟨na,nb,l1,f2,ga,gb,hl1,hf2,rfl⟩,OwS.new (sz:=3) (n:=3) a22 rfl,(E10.trans e19).trans (a22.ch _),fun j hj=>?_⟩⟩
 have hj:j=b21:=by simpa [blk] using hj
 have:=a22.here;have:=(E10.trans e19).size
 omega
def OwnA(hs:List Nd)(i:Nat)(xs:List ArcD):Prop:=∃n,hs[i]? =some n/\((xs=[]/\∀k m,k<i->hs[k]? =some m->m.v.1≠n.v.1)\/∃k m,k<i/\hs[k]? =some m/\m.v.1=n.v.1/\xs=[((k:Int),(i:Int),1)]/\∀j m,k<j->j<i->hs[j]? =some m->m.v.1≠n.v.1)
theorem c86{w:World}{t:Sl}{hs:List Nd}(hH:Hst w t hs){i:Nat}(hi:i<hs.length):
  Cw 86 #[slV t,iv i] w fun r w'=>∃t' xs,r=slV t'/\OwnA hs i xs/\OwS w' t' 3 (xs.flatMap aC)/\Ext w w'/\∀j∈blk t',w.heap.size<=j:=by
 have htn:=hH.n
 have hlen:=hH.len
 have hcap:=hH.cap
 have ga:hs[i]? =some hs[i]:=List.getElem?_eq_getElem hi
 generalize hs[i]=n at ga
 refine F86_ok t (i:Int) w _ fun b1 w2 a2 b3 w4 a4 b5 w6 a6=>?_
 obtain⟨T1,a2⟩:∃T,IsAlloc w (.cells #[slV t] T (0,0)) b1 w2:=⟨_,a2⟩
 obtain⟨T5,a6⟩:∃T,IsAlloc w4 (.cells #[slV ⟨none,0,0⟩] T (0,0)) b5 w6:=⟨_,a6⟩
 have z2:=a2.size;have z4:=a4.size;have z6:=a6.size
 have p2:=a2.here;have p4:=a4.here;have p6:=a6.here
 have e6:Ext w w6:=((a2.ch _).trans (a4.ch _)).trans (a6.ch _)
 have k1:=a6.at (a4.at a2.new)
 have k3:=a6.at a4.new
 have k5:=a6.new
 refine⟨t,by rw[cell_of k1];rfl,(i:Int),by rw[cell_of k3];rfl,⟨by omega,by omega⟩,?_⟩
 rw[Int.toNat_natCast,slAddr_zero]
 refine(c153 ⟨t.p,i,t.c⟩ w6).use ?_
 rintro _ w10 ⟨pb,T,rfl,a10⟩
 have p10:=a10.here;have z10:=a10.size
 have x10:Ext w6 w10:=a10.ch _
 have e10:Ext w w10:=e6.trans x10
 refine⟨(203,#[.pointer (some ⟨pb,0,none⟩)]),rfl,fun g=>?_⟩
 obtain⟨vs,hvs⟩:∃vs,vs=(hs.take i).map (·.v):=⟨_,rfl⟩
 have hvl:vs.length=i:=by rw[hvs,List.length_map,List.length_take];omega
 have hvf:(hs.take i).flatMap nL=vs.flatMap nC:=by rw[hvs,List.flatMap_map]
 have hcut:=(hH.ext e10).cut (k:=i) (by omega)
 let Bx:World->Prop:=fun W=>W.heap[b1]? =some (.cells #[slV t] T1 (0,0))/\W.heap[b3]? =some (.cells #[iv i] 3 (0,0))
 let nil5:World->Prop:=fun W=>W.heap[b5]? =some (.cells #[slV ⟨none,0,0⟩] T5 (0,0))
 refine range_none tbOk mixed (gf:=203) (lb:=#[.pointer (some ⟨pb,0,none⟩)]) rfl (itB pb ⟨t.p,i,t.c⟩ vs (by omega)) R86_0ok1 R86_0ok2 R86_0okp (fun _=>rfl)
  (fun pre W=>pre.length<=i/\InvB pb ⟨t.p,i,t.c⟩ vs W/\(∀k m,i-pre.length<=k->k<i->hs[k]? =some m->m.v.1≠n.v.1)/\Bx W/\nil5 W/\Ext w W)
  (fun c pre W=>c=.ret/\∃t' xs,OwnA hs i xs/\OwS W t' 3 (xs.flatMap aC)/\W.heap[b5]? =some (.cells #[slV t'] T5 (0,0))/\(∀j∈blk t',w10.heap.size+2<=j)/\Ext w W) ?_ ?_ (fun _ _ h=>h.2.1) (fun h=>by cases h) ?_ ?_ ?_ ?_
 ·rintro pre A B ⟨h1,h2,h3,⟨q1,q3⟩,q5,h6⟩ hS
  exact⟨h1,h2.stb hS,h3,⟨hS.keep _ _ q1 rfl,hS.keep _ _ q3 rfl⟩,hS.keep _ _ q5 rfl,h6.stbE hS (by omega)⟩
 ·rintro c pre A B ⟨h1,t',xs,h2,h3,h4,h5,h6⟩ hS
  exact⟨h1,t',xs,h2,h3.stb hS,hS.keep _ _ h4 rfl,h5,h6.stbE hS (by omega)⟩
 ·exact⟨Nat.zero_le _,⟨⟨T,a10.new⟩,by rw[<-hvf];exact hcut.rd⟩,fun k m h1 h2=>by simp at h1;omega,⟨x10.at k1,x10.at k3⟩,x10.at k5,e10⟩
 ·rintro pre ⟨xi,xv⟩ W ⟨hpl,hIB,hno,⟨q1,q3⟩,q5,hX⟩ ⟨k,hk,hxi,hxv⟩ hW
  dsimp only at hxi hxv
  subst hxi
  have hki:k<i:=by omega
  have hnd:hs[k]? =some hs[k]:=List.getElem?_eq_getElem (by omega)
  generalize hs[k]=nd at hnd
  have hxe:xv=nd.v:=by
   rw[hvs,List.getElem?_map,List.getElem?_take_of_lt hki,hnd] at hxv
   exact(Option.some.inj hxv).symm
  subst hxe
  refine F86b0_ok b1 b3 b5 (203,#[.pointer (some ⟨pb,0,none⟩)]) (k:Int) nd.v _ _ _ _ _ W ?_
  refine boxNd rfl fun bb w3 hbb hs3 h3 e3 hS3=>⟨rfl,⟨e3.old _ (by omega) id,e3.old _ (by omega) id⟩,fun w12 hS hIt hL'=>?_⟩
  have zS:=hS.size
  have e12:Ext w w12:=(hX.trans e3).stbE hS (by omega)
  have r1:=hS.keep _ _ (e3.at q1) rfl
  have r3:=hS.keep _ _ (e3.at q3) rfl
  have r5:=hS.keep _ _ (e3.at q5) rfl
  have rb:=hS.keep _ _ h3 rfl
  have hIB12:=(hIB.stb (hS3 w10.heap.size (by omega))).stb hS
  have hItW:Its W w12:=(Its.ext e3).trans hIt
  have ed:=extDrew w12
  have ed':Ext w12 w12.drew:=ed
  have E12:Ext w w12.drew:=e12.trans ed
  obtain⟨pa,oa,hpa,hca⟩:=(hH.ext E12).at ga
  refine⟨_,boxAt (cs:=nC nd.v) rb 0 ed,t,by rw[cell_of (ed'.at r1)];rfl,(i:Int),by rw[cell_of (ed'.at r3)];rfl,pa,oa,hpa,⟨by omega,by omega⟩,n.v.1,by rw[Int.toNat_natCast];exact hca 0 _ rfl,IfB.intro (fun hq=>⟨(i:Int),by rw[cell_of (ed'.at r3)];rfl,by decide,fun b26 w27 a27=>?_⟩) fun hq=>?_⟩
  ·have hq:nd.v.1=n.v.1:=by simpa using hq
   have p27:=a27.here;have z27:=a27.size
   have zd:w12.drew.heap.size=w12.heap.size:=rfl
   have e27:Ext w12 w27:=ed'.trans (a27.ch _)
   refine⟨rfl,store_one (e27.at r5) (by simp) rfl fun w28 u28=>⟨⟨?_,?_⟩,rfl,⟨some ⟨b26,0,none⟩,1,1⟩,[((k:Int),(i:Int),1)],⟨n,ga,.inr ⟨k,nd,hki,hnd,hq,rfl,fun j m h1 h2 h3=>hno j m (by omega) h2 h3⟩⟩,?_,u28.new,fun j hj=>?_,(e12.trans e27).chN u28.ch fun j e=>by omega⟩⟩
   ·exact(u28.old _ (by omega)).trans (e27.old _ (by omega) id)
   ·exact(u28.old _ (by omega)).trans (e27.old _ (by omega) id)
   ·exact(OwS.new (sz:=3) (n:=1) (cs:=aC ((k:Int),(i:Int),1)) a27 rfl).ch u28.ch fun j hj e=>by
     have hj:j=b26:=by simpa [blk] using hj
     omega
   ·have hj:j=b26:=by simpa [blk] using hj
    omega
  ·have hq:¬nd.v.1=n.v.1:=by simpa using hq
   refine⟨⟨rfl,rfl⟩,⟨by simp;omega,⟨⟨_,ed'.at hIB12.box.choose_spec⟩,hIB12.rd.ext ed⟩,fun j m h1 h2 h3=>?_,⟨ed'.at r1,ed'.at r3⟩,ed'.at r5,E12⟩,hItW.trans (Its.ext ed)⟩
   rw[List.length_append,List.length_singleton] at h1
   rcases Nat.lt_or_ge k j with h'|h'
   ·exact hno j m (by omega) h2 h3
   ·have:j=k:=by omega
    subst this
    rw[hnd] at h3;cases h3;exact hq
 ·rintro xs W hfin ⟨h1,h2,hno,⟨q1,q3⟩,q5,hX⟩ hD
  have hxl:xs.length=i:=by rw[hfin,hvl]
  refine⟨rfl,store_one q5 (by simp) rfl fun w15 u15=>?_⟩
  refine marks_one (u15.at hD (by omega)) fun w16 u16=>?_
  exact⟨⟨none,0,0⟩,by rw[cell_of (u16.at u15.new (by omega))];rfl,⟨none,0,0⟩,[],rfl,⟨n,ga,.inl ⟨rfl,fun k m h1 h2=>hno k m (by omega) h1 h2⟩⟩,.nil _ _,(hX.chN u15.ch fun j e=>by omega).chN u16.ch fun j e=>by omega,by simp[blk]⟩
 ·rintro c pre W ⟨rfl,t',xs,h2,h3,h4,h5,h6⟩ hD
  refine marks_one hD fun w20 u20=>⟨t',by rw[cell_of (u20.at h4 (by omega))];rfl,t',xs,rfl,h2,h3.ch u20.ch fun j hj e=>?_,h6.chN u20.ch fun j e=>by omega,fun j hj=>by have:=h5 j hj;omega⟩
  have:=h5 j hj;omega
theorem eqArc(x y:ArcD):EqAt Tryz.prog 44 (.agg (aC x).toArray) (.agg (aC y).toArray) (x == y):=by
 have h:=eqAt_struct tbOk (d:=2) (by decide) (t:=44) (xs:=#[.int .i64 x.1,.int .i64 x.2.1,.int .i64 x.2.2]) (ys:=#[.int .i64 y.1,.int .i64 y.2.1,.int .i64 y.2.2]) (b:=(x.1 == y.1)&&((x.2.1 == y.2.1)&&((x.2.2 == y.2.2)&&true))) (by kernel_rfl) (by kernel_rfl)
 have e:(x == y)=((x.1 == y.1)&&((x.2.1 == y.2.1)&&((x.2.2 == y.2.2)&&true))):=by rw[Bool.and_true];rfl
 rw[e];exact h
section
variable {α:Type} [DecidableEq α]
def cpt1:α->List α->List α
 | _,[]=>[]
 | p,y::l=>if y=p then cpt1 y l else y::cpt1 y l
def cptL:List α->List α
 | []=>[]
 | x::l=>x::cpt1 x l
theorem cpt1_mem:∀ {l:List α}{p x:α},x∈p::cpt1 p l↔x∈p::l
 | [],p,x=>Iff.rfl
 | y::l,p,x=>by
  unfold cpt1
  have ih:=cpt1_mem (l:=l) (p:=y) (x:=x)
  simp only[List.mem_cons] at ih
  by_cases h:y=p
  ·rw[if_pos h]
   subst h
   simp only[List.mem_cons,ih]
   constructor
   ·rintro(h|h)<;>simp[h]
   ·rintro(h|h|h)<;>simp[h]
  ·rw[if_neg h]
   simp only[List.mem_cons,ih]
theorem cptL_mem{l:List α}{x:α}:x∈cptL l↔x∈l:=by
 cases l with
 | nil=>rfl
 | cons y l=>exact cpt1_mem
theorem cpt1_sorted{key:α->Int}:∀ {l:List α}{p:α},(∀x y,x∈p::l->y∈p::l->key x=key y->x=y)->(p::l).Pairwise (fun x y=>key x<=key y)->(p::cpt1 p l).Pairwise (fun x y=>key x<key y)
 | [],p,_,_=>by simp[cpt1]
 | y::l,p,hinj,h=>by
  obtain⟨h1,h2⟩:=List.pairwise_cons.1 h
  unfold cpt1
  have ih:=cpt1_sorted (key:=key) (fun a b ha hb=>hinj a b (List.mem_cons_of_mem _ ha) (List.mem_cons_of_mem _ hb)) h2
  by_cases he:y=p
  ·rw[if_pos he];subst he;exact ih
  ·rw[if_neg he]
   refine List.pairwise_cons.2 ⟨fun z hz=>?_,ih⟩
   have hpy:=h1 y (by simp)
   have hne:key p≠key y:=fun hk=>he (hinj p y (by simp) (by simp) hk).symm
   have hyz:=cpt1_mem.1 hz
   rcases List.mem_cons.1 hyz with rfl|hz'
   ·omega
   ·have:=(List.pairwise_cons.1 h2).1 z hz';omega
theorem cptL_sorted{key:α->Int}{l:List α}(hinj:∀x y,x∈l->y∈l->key x=key y->x=y)(h:l.Pairwise (fun x y=>key x<=key y)):(cptL l).Pairwise (fun x y=>key x<key y):=by
 cases l with
 | nil=>exact .nil
 | cons x l=>exact cpt1_sorted hinj h
theorem cpt1_len:∀(l:List α)(p:α),(cpt1 p l).length<=l.length
 | [],_=>Nat.le_refl _
 | y::l,p=>by
  unfold cpt1
  have:=cpt1_len l y
  split
  ·rw[List.length_cons];omega
  ·rw[List.length_cons,List.length_cons];omega
theorem cptL_len(l:List α):(cptL l).length<=l.length:=by
 cases l with
 | nil=>exact Nat.le_refl _
 | cons x l=>have:=cpt1_len l x;simp only[cptL,List.length_cons];omega
theorem cpt1_append:∀(l:List α)(p y:α),cpt1 p (l++[y])=cpt1 p l++if (p::l).getLast?=some y then [] else [y]
 | [],p,y=>by
  simp only[List.nil_append,cpt1,List.getLast?_singleton,Option.some.injEq]
  by_cases h:y=p
  ·rw[if_pos h,if_pos h.symm]
  ·rw[if_neg h,if_neg fun e=>h e.symm]
 | x::l,p,y=>by
  rw[List.cons_append]
  unfold cpt1
  rw[cpt1_append l x y,List.getLast?_cons_cons]
  split<;>rfl
theorem cptL_append{l:List α}{y:α}:cptL (l++[y])=cptL l++if l.getLast?=some y then [] else [y]:=by
 cases l with
 | nil=>rfl
 | cons x l=>
  show x::cpt1 x (l++[y])=(x::cpt1 x l)++_
  rw[cpt1_append];rfl
end
theorem c90{w:World}{t:Sl}{xs:List ArcD}(ho:OwS w t 3 (xs.flatMap aC))(hl:xs.length<=1000000):Cw 90 #[slV t] w fun v w'=>∃t',v=slV t'/\OwS w' t' 3 ((cptL xs).flatMap aC)/\t'.p=t.p/\Ch (fun i=>i∈blk t) w w':=by
 have hn:=owsN aC_len (by omega) ho
 have hcap:=ho.cap
 refine F90_ok t w _ (IfB.dec (fun h2=>?_) fun h2=>?_)
 ·have:cptL xs=xs:=by
   match xs,hn with
   | [],_=>rfl
   | [x],_=>rfl
   | x::y::l,hn=>simp at hn;omega
  exact⟨t,rfl,by rw[this];exact ho,rfl,Ch.refl _ _⟩
 ·have hx2:2<=xs.length:=by omega
  obtain⟨b,hp⟩:=ho.ptr (by omega)
  have hbk:blk t=[b]:=by simp[blk,hp]
  have last_take:∀ {m:Nat}{x:ArcD},xs[m]? =some x->(xs.take (m+1)).getLast?=some x:=fun h=>by rw[take_succ_get h,List.getLast?_append];rfl
  have step:∀ {m:Nat}{x y:ArcD},xs[m]? =some x->xs[m+1]? =some y->cptL (xs.take (m+2))=cptL (xs.take (m+1))++if x=y then [] else [y]:=fun hx hy=>by
   rw[take_succ_get hy,cptL_append,last_take hx]
   simp
  refine⟨fun n x W=>∃k:Nat,x=(k:Int)/\1<=k/\n+k=xs.length/\cptL (xs.take k)=xs.take k/\Ext w W,⟨xs.length-1,1,rfl,by omega,by omega,?_,Ch.refl _ _⟩,?_⟩
  ·match xs,hx2 with
   | x::y::l,_=>rfl
  ·rintro n _ W g ⟨k,rfl,hk1,hnk,hcp,eW⟩
   unfold F90j1
   refine IfB.dec (fun hlt=>?_) fun hge=>?_
   ·have hk:k<xs.length:=by omega
    obtain⟨m,rfl⟩:∃m,k=m+1:=⟨k-1,by omega⟩
    have hy:xs[m+1]? =some xs[m+1]:=List.getElem?_eq_getElem hk
    have hx:xs[m]? =some (xs[m]'(by omega)):=List.getElem?_eq_getElem _
    generalize xs[m+1]=y at hy
    generalize xs[m]'(by omega)=x at hx
    have hst:=step hx hy
    have ed:=extDrew W
    have eW':=eW.trans ed
    obtain⟨a,ha,hcy⟩:=(ho.ext eW').elem (i:=m+1) (by omega) (flatGet aC_len hy)
    obtain⟨a',ha',hcx⟩:=(ho.ext eW').elem (i:=m) (by omega) (flatGet aC_len hx)
    rw[hp] at ha ha';cases ha;cases ha'
    have hm1:IntKind.i64.wrap (((m+1:Nat):Int)-(1:Int))=(m:Int):=by rw[wrap_of (by omega) (by omega)];omega
    rw[hm1]
    refine⟨b,0,hp,⟨by omega,hlt⟩,y,by rw[Int.toNat_natCast,Nat.zero_add];exact hcy,b,0,hp,⟨by omega,by omega⟩,x,by rw[Int.toNat_natCast,Nat.zero_add];exact hcx,_,eqArc y x,IfB.intro (fun he=>?_) fun he=>?_⟩
    ·have he:y=x:=by simpa using he
     subst he
     rw[if_pos rfl,List.append_nil,hcp] at hst
     refine⟨⟨by omega,by omega⟩,?_⟩
     refine⟨fun n' x' W'=>∃(j:Nat)(gs:List ArcD),1<=j/\n'+(m+1+j)=xs.length/\(cptL (xs.take (m+1+j))).length+gs.length=m+j/\x'=(((cptL (xs.take (m+1+j))).length:Int),(j:Int))/\OwS W' t 3 ((cptL (xs.take (m+1+j))++gs++xs.drop (m+j)).flatMap aC)/\Ch (fun i=>i∈blk t) w W',
      ⟨xs.length-(m+2),1,[],by omega,by omega,?_,?_,?_,eW'.mono fun _ _ h=>h.elim⟩,?_⟩
     ·rw[hst,List.length_take];simp;omega
     ·rw[hst,List.length_take,Nat.min_eq_left (by omega)];rfl
     ·rw[hst,List.append_nil,List.take_append_drop];exact ho.ext eW'
     ·rintro n' _ W' g' ⟨j,gs,hj1,hnj,hlen,rfl,hO,hC⟩
      generalize hkd:cptL (xs.take (m+1+j))=kd at hlen hO
      have hsa:slAddr t.p t.c (((m+1:Nat):Int)).toNat 3=some ⟨b,(m+1)*3,none⟩:=by
       rw[Int.toNat_natCast,hp,slAddr_some,if_neg (by omega)];simp
      unfold F90j2
      refine IfB.dec (fun hlt'=>?_) fun hge'=>?_
      ·rw[Int.toNat_natCast] at hlt'
       have hlt'':m+1+j<xs.length:=by dsimp only at hlt';omega
       have hz:xs[m+1+j]? =some xs[m+1+j]:=List.getElem?_eq_getElem hlt''
       have hv:xs[m+j]? =some (xs[m+j]'(by omega)):=List.getElem?_eq_getElem _
       have hd1:xs.drop (m+j)=xs[m+j]'(by omega)::xs.drop (m+1+j):=by rw[show m+1+j=m+j+1 by omega];exact List.drop_eq_getElem_cons _
       have hd2:xs.drop (m+1+j)=xs[m+1+j]::xs.drop (m+1+(j+1)):=by rw[show m+1+(j+1)=m+1+j+1 by omega];exact List.drop_eq_getElem_cons _
       generalize xs[m+1+j]=z at hz hd2
       generalize xs[m+j]'(by omega)=v at hv hd1
       have hst2:cptL (xs.take (m+1+(j+1)))=kd++if v=z then [] else [z]:=by
        have:=step (m:=m+j) hv (by rw[show m+j+1=m+1+j by omega];exact hz)
        rw[show m+j+2=m+1+(j+1) by omega,show m+j+1=m+1+j by omega,hkd] at this
        exact this
       have hLz:(kd++gs++xs.drop (m+j))[m+1+j]? =some z:=by
        rw[List.getElem?_append_right (by rw[List.length_append];omega),List.length_append,show m+1+j-(kd.length+gs.length)=1 by omega,hd1,hd2];rfl
       have hLv:(kd++gs++xs.drop (m+j))[m+j]? =some v:=by
        rw[List.getElem?_append_right (by rw[List.length_append];omega),List.length_append,show m+j-(kd.length+gs.length)=0 by omega,hd1];rfl
       have ed':=extDrew W'
       have hOd:=hO.ext ed'
       obtain⟨a,ha,hcz⟩:=hOd.elem (i:=m+1+j) (by omega) (flatGet aC_len hLz)
       obtain⟨a',ha',hcv⟩:=hOd.elem (i:=m+j) (by omega) (flatGet aC_len hLv)
       rw[hp] at ha ha';cases ha;cases ha'
       have hj1':IntKind.i64.wrap ((j:Int)-(1:Int))=((j-1:Nat):Int):=wm1 (by omega) (by omega)
       have hL:(kd++gs++xs.drop (m+j)).length=xs.length:=by rw[List.length_append,List.length_append,List.length_drop];omega
       dsimp only
       rw[hj1',hsa]
       simp only[Int.toNat_natCast]
       have hzc:CellsAt W'.drew b ((m+1)*3+j*3) (aC z):=by rw[show (m+1)*3+j*3=(m+1+j)*3 by omega];exact hcz
       have hvc:CellsAt W'.drew b ((m+1)*3+(j-1)*3) (aC v):=by rw[show (m+1)*3+(j-1)*3=(m+j)*3 by omega];exact hcv
       refine⟨b,(m+1)*3,rfl,⟨by omega,by omega⟩,z,hzc,b,(m+1)*3,rfl,⟨by omega,by omega⟩,v,hvc,_,eqArc z v,IfB.intro (fun hne=>?_) fun heq=>?_⟩
       ·have hne:z≠v:=by simpa using hne
        rw[if_neg (fun h=>hne h.symm)] at hst2
        refine⟨b,(m+1)*3,rfl,⟨by omega,by omega⟩,z,hzc,b,0,hp,⟨by omega,by show (kd.length:Int)<(t.n:Int);omega⟩,rfl,?_⟩
        rw[Nat.zero_add]
        refine hOd.store (vs:=aC z) hp (by rw[aC_len];omega) (aC_one z) fun w32 hO32 hC32=>⟨(by trivial),n'-1,by omega,j+1,(gs++[v]).tail,by omega,by omega,?_,?_,?_,(hC.then ed' fun _ _ h=>h.elim).then hC32 fun i _ e=>by rw[hbk,e];simp⟩
        ·rw[hst2];simp;omega
        ·rw[hst2,wp1 (by omega),wp1 (by omega)];simp
        ·rw[aC_len,flatSet aC_len (by omega)] at hO32
         rw[hst2]
         have:(kd++gs++xs.drop (m+j)).set kd.length z=kd++[z]++(gs++[v]).tail++xs.drop (m+(j+1)):=by
          rw[hd1,show m+(j+1)=m+1+j by omega]
          cases gs with
          | nil=>simp
          | cons g0 gs=>simp
         rw[<-this];exact hO32
       ·have heq:z=v:=by simpa using heq
        subst heq
        rw[if_pos rfl,List.append_nil] at hst2
        refine⟨(by trivial),n'-1,by omega,j+1,gs++[z],by omega,by omega,by rw[hst2];simp;omega,?_,?_,hC.then ed' fun _ _ h=>h.elim⟩
        ·rw[hst2,wp1 (by omega)]
        ·rw[hst2]
         rw[hd1] at hOd
         rw[show m+(j+1)=m+1+j by omega]
         simpa using hOd
      ·rw[Int.toNat_natCast] at hge'
       dsimp only at hge'
       have hjn:m+1+j=xs.length:=by omega
       rw[hjn,List.take_length] at hkd
       have hkl:kd.length<t.n:=by omega
       refine⟨⟨by dsimp only;omega,by show (kd.length:Int)<=(t.n:Int);omega⟩,?_⟩
       dsimp only
       rw[Int.toNat_natCast,hp,slAddr_some]
       have hcut:=hO.cut (k:=kd.length) (by omega)
       rw[flatTake aC_len,List.append_assoc,List.take_append_of_le_length (Nat.le_refl _),List.take_length] at hcut
       dsimp only
       rw[if_neg (by omega),Nat.zero_add]
       refine hcut.storeTail hp (Nat.le_refl _) (by rw[zc_len];show kd.length*3+(t.n-kd.length)*3<=t.c*3;omega) (zc_one (by intro x hx;simp at hx;rcases hx with rfl|rfl|rfl<;>rfl) _) fun w25 hO25 hC25=>⟨⟨by omega,by omega⟩,?_⟩
       rw[<-hp,slAddr_zero]
       exact⟨⟨t.p,kd.length,t.c⟩,rfl,by rw[hkd];exact hO25,rfl,hC.then hC25 fun i _ e=>by rw[hbk,e];simp⟩
    ·have hne:x≠y:=by intro h;subst h;simp at he
     rw[if_neg hne] at hst
     refine⟨rfl,n-1,by omega,m+2,wp1 (by omega),by omega,by omega,?_,eW'⟩
     rw[hst,hcp,take_succ_get hy]
   ·have:k=xs.length:=by omega
    subst this
    rw[List.take_length] at hcp
    exact⟨t,rfl,by rw[hcp];exact ho.ext eW,rfl,eW.mono fun _ _ h=>h.elim⟩
theorem aC_all(xs:List ArcD):One (xs.flatMap aC):=by
 intro v hv
 obtain⟨x,_,hx⟩:=List.mem_flatMap.1 hv
 exact aC_one x v hx
theorem OwnA.uniq{hs:List Nd}{i:Nat}{xs ys:List ArcD}(h:OwnA hs i xs)(k:OwnA hs i ys):xs=ys:=by
 obtain⟨n,hn,h⟩:=h
 obtain⟨n',hn',k⟩:=k
 rw[hn] at hn';cases hn'
 rcases h with ⟨rfl,h⟩|⟨a,ma,a1,a2,a3,rfl,a4⟩<;>rcases k with ⟨rfl,k⟩|⟨b,mb,b1,b2,b3,rfl,b4⟩
 ·rfl
 ·exact absurd b3 (h b mb b1 b2)
 ·exact absurd a3 (k a ma a1 a2)
 ·have:a=b:=by
   rcases Nat.lt_trichotomy a b with h'|h'|h'
   ·exact absurd b3 (a4 b mb h' b1 b2)
   ·exact h'
   ·exact absurd a3 (b4 a ma h' a1 a2)
  rw[this]
theorem FstP.uniq{x:CatD}{hs:List Nd}{i:Nat}{d:Int}{f f':Nat}(h:FstP x hs i d f)(k:FstP x hs i d f'):f=f':=by
 have:=h.2 _ k.1;have:=k.2 _ h.1;omega
theorem LstP.uniq{x:CatD}{hs:List Nd}{i:Nat}{d:Int}{f f':Nat}(h:LstP x hs i d f)(k:LstP x hs i d f'):f=f':=by
 have:=h.2 _ k.1;have:=k.2 _ h.1;omega
theorem BtwP.uniq{x:CatD}{hs:List Nd}{a b:Nat}{xs ys:List ArcD}(h:BtwP x hs a b xs)(k:BtwP x hs a b ys):xs=ys:=by
 obtain⟨na,nb,l,f,h1,h2,h3,h4,rfl⟩:=h
 obtain⟨na',nb',l',f',k1,k2,k3,k4,rfl⟩:=k
 rw[h1] at k1;rw[h2] at k2;cases k1;cases k2
 rw[h3.uniq k3,h4.uniq k4]
def TwoP(hs:List Nd)(i k:Nat):Prop:=∃a b,hs[i]? =some a/\hs[k]? =some b/\b.v.1≠a.v.1
def ArcI(x:CatD)(hs:List Nd)(i:Nat)(e:ArcD):Prop:=(∃xs,OwnA hs i xs/\e∈xs)\/∃k xs,Dp hs i k/\TwoP hs i k/\BtwP x hs k i xs/\e∈xs
def ArcIn(x:CatD)(hs:List Nd)(e:ArcD):Prop:=∃i,i<hs.length/\ArcI x hs i e
structure ArcsP(x:CatD)(hs:List Nd)(ys:List ArcD):Prop where
 srt:ys.Pairwise fun a b=>SfA.key a<SfA.key b
 mem:HMay x hs->∀e,e∈ys↔ArcIn x hs e
 no:¬HMay x hs->ys=[]
theorem ArcIn.q{x:CatD}{hs:List Nd}{e:ArcD}(h:ArcIn x hs e):(0<=e.1/\e.1<(hs.length:Int))/\(0<=e.2.1/\e.2.1<(hs.length:Int))/\1<=e.2.2/\e.2.2<=4:=by
 obtain⟨i,hi,⟨xs,⟨n,hn,h⟩,he⟩|⟨k,xs,hd,_,⟨na,nb,l,f,h1,h2,h3,h4,rfl⟩,he⟩⟩:=h
 ·rcases h with ⟨rfl,_⟩|⟨k,m,k1,k2,k3,rfl,_⟩
  ·cases he
  ·rw[List.mem_singleton.1 he]
   exact⟨⟨by dsimp only;omega,by dsimp only;omega⟩,⟨by dsimp only;omega,by dsimp only;omega⟩,by dsimp only;omega,by dsimp only;omega⟩
 ·have hk:=Dp_lt hd
  have hl:=h3.1.lt (by omega)
  have hf:=h4.1.lt hi
  simp only[List.mem_cons,List.not_mem_nil,or_false] at he
  rcases he with rfl|rfl|rfl<;>exact⟨⟨by dsimp only;omega,by dsimp only;omega⟩,⟨by dsimp only;omega,by dsimp only;omega⟩,by dsimp only;omega,by dsimp only;omega⟩
theorem ArcIn.Q{x:CatD}{hs:List Nd}{e:ArcD}(h:ArcIn x hs e)(hl:hs.length<=100):SfA.Q e:=by
 obtain⟨h1,h2,h3⟩:=h.q
 exact⟨⟨by omega,by omega⟩,⟨by omega,by omega⟩,by omega,by omega⟩
theorem arcKey_inj{a b:ArcD}(ha:SfA.Q a)(hb:SfA.Q b)(h:SfA.key a=SfA.key b):a=b:=by
 obtain⟨a1,a2,a3⟩:=a
 obtain⟨b1,b2,b3⟩:=b
 obtain⟨h1,h2,h3⟩:=ha
 obtain⟨g1,g2,g3⟩:=hb
 unfold SfA.key at h
 dsimp only at*
 have e1:a1=b1:=by omega
 have e2:a2=b2:=by omega
 have e3:a3=b3:=by omega
 rw[e1,e2,e3]
set_option maxRecDepth 20000 in
theorem c30{w:World}{v:CatV}{x:CatD}{t:Sl}{hs:List Nd}(h:CatM w v x)(hH:Hst w t hs):
  Cw 30 #[cxV v,slV t] w fun r w'=>∃t' ys,r=slV t'/\ArcsP x hs ys/\OwS w' t' 3 (ys.flatMap aC)/\ys.length<=100000/\Ext w w'/\∀j∈blk t',w.heap.size<=j:=by
 have htn:=hH.n
 refine F30_ok v t w _ fun b1 w2 a2=>?_
 have e2:Ext w w2:=a2.ch _
 refine⟨v,cxN h a2.new (Ch.refl _ _),(c84 (h.ext e2) (hH.ext e2)).use ?_⟩
 rintro _ w7 ⟨r,rfl,hr,e7⟩
 have e27:=e2.trans e7
 refine⟨r,rfl,IfB.intro (fun h1=>⟨⟨none,0,0⟩,[],rfl,⟨.nil,fun hM=>?_,fun _=>rfl⟩,.nil _ _,by simp,e27,by simp[blk]⟩) fun h1=>?_⟩
 ·have h1:r=false:=by simpa using h1
  rw[hr.2 hM] at h1;cases h1
 have hM:=hr.1 (by simpa using h1)
 have hl100:=hM.len
 refine(c85 (hH.ext e27) (by omega)).use ?_
 rintro _ w10 ⟨tl,rows,rfl,hrl,hrow,hO,e10⟩
 have x10:Ext w2 w10:=e7.trans e10
 have E10:Ext w w10:=e27.trans e10
 have hR:=hO.rws
 have hRn:=hR.n
 have zz:=E10.size
 refine⟨tl,rfl,fun m z W=>∃(i:Nat)(so:Sl)(acc:List ArcD),i<=hs.length/\m+i=hs.length/\z=(so,(i:Int))/\OwS W so 3 (acc.flatMap aC)/\acc.length<=i*301/\(∀e,e∈acc↔∃i',i'<i/\ArcI x hs i' e)/\(∀j∈blk so,w10.heap.size<=j)/\Ext w10 W,
  ⟨hs.length,0,⟨none,0,0⟩,[],Nat.zero_le _,rfl,rfl,.nil _ _,by simp,fun e=>⟨fun h=>(by cases h),fun⟨i',h,_⟩=>absurd h (Nat.not_lt_zero _)⟩,by simp[blk],Ch.refl _ _⟩,?_⟩
 rintro m _ W g ⟨i,so,acc,hi,hm,rfl,ho,hal,hmem,hbk,eW⟩
 unfold F30j1
 have hon:=owsN aC_len (by omega) ho
 refine IfB.dec (fun hlt=>?_) fun hge=>?_
 ·dsimp only at hlt
  have hi':i<hs.length:=by omega
  have hrx:rows[i]? =some rows[i]:=List.getElem?_eq_getElem (by omega)
  generalize rows[i]=rw' at hrx
  have hRow:=hrow i rw' hrx
  have hRl:=hRow.len
  obtain⟨⟨pa,oa,hpa,hca⟩,_,hrn⟩:=(hR.ext eW).at hrx
  have ga:hs[i]? =some hs[i]:=List.getElem?_eq_getElem hi'
  generalize hs[i]=na at ga
  refine⟨pa,oa,hpa,⟨by dsimp only;omega,hlt⟩,rw'.1,by dsimp only;rw[Int.toNat_natCast];exact hca,(c86 (hH.ext (E10.trans eW)) hi').use ?_⟩
  rintro _ w23 ⟨s24,xo,rfl,hxo,hos,e23,hb23⟩
  have E23:Ext w10 w23:=eW.trans e23
  have hsn:=owsN aC_len (by omega) hos
  have hxl:xo.length<=1:=by
   obtain⟨n,_,⟨rfl,_⟩|⟨_,_,_,_,_,rfl,_⟩⟩:=hxo<;>simp
  refine⟨s24,rfl,_,hos.rd.2,OwS.append (new:=xo.flatMap aC) (cnt:=s24.n) (ho.ext e23) rfl rfl (by rw[flatLen aC_len,hsn]) (aC_all xo) ⟨by dsimp only;omega,Nat.le_trans (Nat.mul_le_mul (show 2*(so.n+s24.n)<=100000 by omega) (show _<=100000 by decide)) (by decide)⟩ fun s26 w27 ho27 hn27 hC27 hb27 _=>?_⟩
  rw[<-List.flatMap_append] at ho27
  have E27:Ext w10 w27:=E23.chN hC27 fun j hj=>hbk j hj
  have hbk27:∀j∈blk s26,w10.heap.size<=j:=fun j hj=>by
   rcases hb27 j hj with h'|h'
   ·exact hbk j h'
   ·have:=E23.size;omega
  refine⟨fun m' z V=>∃(q:Nat)(sq:Sl)(ac:List ArcD),q<=rw'.2.length/\m'+q=rw'.2.length/\z=(sq,(q:Int))/\OwS V sq 3 (ac.flatMap aC)/\ac.length<=i*301+1+q*3/\(∀e,e∈ac↔e∈acc\/e∈xo\/∃k:Nat,(k:Int)∈rw'.2.take q/\TwoP hs i k/\∃xs,BtwP x hs k i xs/\e∈xs)/\(∀j∈blk sq,w10.heap.size<=j)/\Ext w10 V,
   ⟨rw'.2.length,0,s26,acc++xo,Nat.zero_le _,rfl,rfl,ho27,by rw[List.length_append];omega,fun e=>by simp,hbk27,E27⟩,?_⟩
  rintro m' _ V g' ⟨q,sq,ac,hq,hmq,rfl,hoq,hql,hqm,hqb,eV⟩
  unfold F30j2
  have hqn:=owsN aC_len (by omega) hoq
  refine IfB.dec (fun hlt2=>?_) fun hge2=>?_
  ·dsimp only at hlt2
   have hq':q<rw'.2.length:=by omega
   have hk:rw'.2[q]? =some rw'.2[q]:=List.getElem?_eq_getElem hq'
   have hkm:rw'.2[q]∈rw'.2:=List.getElem_mem hq'
   have htk:=take_succ_get hk
   generalize rw'.2[q]=kz at hk hkm htk
   obtain⟨k,rfl,hdk⟩:=(hRow.mem kz).1 hkm
   have hki:=Dp_lt hdk
   have gb:hs[k]? =some hs[k]:=List.getElem?_eq_getElem (by omega)
   generalize hs[k]=nb at gb
   obtain⟨_,hrd,_⟩:=(hR.ext eV).at hrx
   obtain⟨pb,ob,hpb,hcb⟩:=hrd.elem1 (i:=q) (v:=iv (k:Int)) (by rw[List.getElem?_map,hk];rfl)
   have ed:=extDrew V
   have EV:Ext w V.drew:=(E10.trans eV).trans ed
   obtain⟨pc,oc,hpc,hcc⟩:=(hH.ext EV).at gb
   obtain⟨pd,od,hpd,hcd⟩:=(hH.ext EV).at ga
   have hw:IntKind.i64.wrap ((q:Int)+1)=((q+1:Nat):Int):=by rw[wrap_of (by omega) (by omega)];rfl
   refine⟨pb,ob,hpb,⟨by dsimp only;omega,by dsimp only;omega⟩,(k:Int),by dsimp only;rw[Int.toNat_natCast];exact hcb,pc,oc,hpc,⟨by omega,by omega⟩,nb.v.1,by rw[Int.toNat_natCast];exact hcc 0 _ rfl,pd,od,hpd,⟨by dsimp only;omega,by dsimp only;omega⟩,na.v.1,by dsimp only;rw[Int.toNat_natCast];exact hcd 0 _ rfl,IfB.intro (fun hne=>?_) fun heq=>?_⟩
   ·have hne:nb.v.1≠na.v.1:=by simpa using hne
    refine⟨v,cxN h a2.new ((x10.trans eV).trans ed),(c87 (h.ext EV) (hH.ext EV) hM (show k<hs.length by omega) hi').use ?_⟩
    rintro _ w48 ⟨s49,xb,rfl,hxb,hob,e48,hb48⟩
    have E48:Ext w10 w48:=(eV.trans ed).trans e48
    have hbn:=owsN aC_len (by omega) hob
    have hbl:xb.length=3:=by
     obtain⟨_,_,_,_,_,_,_,_,rfl⟩:=hxb;rfl
    refine⟨s49,rfl,_,hob.rd.2,OwS.append (new:=xb.flatMap aC) (cnt:=s49.n) ((hoq.ext ed).ext e48) rfl rfl (by rw[flatLen aC_len,hbn]) (aC_all xb) ⟨by dsimp only;omega,Nat.le_trans (Nat.mul_le_mul (show 2*(sq.n+s49.n)<=100000 by omega) (show _<=100000 by decide)) (by decide)⟩ fun s51 w52 ho52 hn52 hC52 hb52 _=>⟨rfl,m'-1,by omega,q+1,s51,ac++xb,hq',by omega,by dsimp only;rw[hw],by rw[<-List.flatMap_append] at ho52;exact ho52,by rw[List.length_append];omega,fun e=>?_,fun j hj=>?_,E48.chN hC52 fun j hj=>hqb j hj⟩⟩
    ·rw[List.mem_append,hqm,htk]
     constructor
     ·rintro((h'|h'|⟨k',h1,h2⟩)|h')
      ·exact .inl h'
      ·exact .inr (.inl h')
      ·exact .inr (.inr ⟨k',List.mem_append.2 (.inl h1),h2⟩)
      ·exact .inr (.inr ⟨k,by simp,⟨na,nb,ga,gb,hne⟩,xb,hxb,h'⟩)
     ·rintro(h'|h'|⟨k',h1,h2,xs,h3,h4⟩)
      ·exact .inl (.inl h')
      ·exact .inl (.inr (.inl h'))
      ·rcases List.mem_append.1 h1 with h1|h1
       ·exact .inl (.inr (.inr ⟨k',h1,h2,xs,h3,h4⟩))
       ·have:k'=k:=Int.ofNat.inj (List.mem_singleton.1 h1)
        subst this
        rw[hxb.uniq h3];exact .inr h4
    ·rcases hb52 j hj with h'|h'
     ·exact hqb j h'
     ·have:=E48.size;omega
   ·have heq:nb.v.1=na.v.1:=by simpa using heq
    refine⟨rfl,m'-1,by omega,q+1,sq,ac,hq',by omega,by dsimp only;rw[hw],hoq.ext ed,by omega,fun e=>?_,hqb,eV.trans ed⟩
    rw[hqm,htk]
    constructor
    ·rintro(h'|h'|⟨k',h1,h2⟩)
     ·exact .inl h'
     ·exact .inr (.inl h')
     ·exact .inr (.inr ⟨k',List.mem_append.2 (.inl h1),h2⟩)
    ·rintro(h'|h'|⟨k',h1,h2,xs,h3,h4⟩)
     ·exact .inl h'
     ·exact .inr (.inl h')
     ·rcases List.mem_append.1 h1 with h1|h1
      ·exact .inr (.inr ⟨k',h1,h2,xs,h3,h4⟩)
      ·have:k'=k:=Int.ofNat.inj (List.mem_singleton.1 h1)
       subst this
       obtain⟨a',b',g1,g2,g3⟩:=h2
       rw[ga] at g1;rw[gb] at g2;cases g1;cases g2
       exact absurd heq g3
  ·dsimp only at hge2
   have hwi:IntKind.i64.wrap ((i:Int)+1)=((i+1:Nat):Int):=by rw[wrap_of (by omega) (by omega)];rfl
   have hq':q=rw'.2.length:=by omega
   subst hq'
   have hal':ac.length<=(i+1)*301:=by omega
   refine⟨rfl,m-1,by omega,i+1,sq,ac,hi',by omega,by dsimp only;rw[hwi],hoq,hal',fun e=>?_,hqb,eV⟩
   rw[hqm,List.take_length,hmem]
   constructor
   ·rintro(⟨i',h1,h2⟩|h'|⟨k,h1,h2,xs,h3,h4⟩)
    ·exact⟨i',by omega,h2⟩
    ·exact⟨i,by omega,.inl ⟨xo,hxo,h'⟩⟩
    ·obtain⟨k',hk',hd⟩:=(hRow.mem (k:Int)).1 h1
     have:k=k':=Int.ofNat.inj hk'
     subst this
     exact⟨i,by omega,.inr ⟨k,xs,hd,h2,h3,h4⟩⟩
   ·rintro⟨i',h1,h2⟩
    rcases Nat.lt_or_ge i' i with h'|h'
    ·exact .inl ⟨i',h',h2⟩
    ·have:i'=i:=by omega
     subst this
     rcases h2 with ⟨xs,h3,h4⟩|⟨k,xs,hd,h3,h4,h5⟩
     ·rw[hxo.uniq h3];exact .inr (.inl h4)
     ·exact .inr (.inr ⟨k,(hRow.mem (k:Int)).2 ⟨k,rfl,hd⟩,h3,xs,h4,h5⟩)
 ·dsimp only at hge
  have hi':i=hs.length:=by omega
  subst hi'
  have hQ:∀e∈acc,SfA.Q e:=fun e he=>ArcIn.Q (x:=x) ((hmem e).1 he) hl100
  refine(SfA.c88 (cl:=(89,#[])) c89 ho (by omega) hQ).use ?_
  rintro _ w57 ⟨rfl,ys,hp,hsrt,ho57,hC57⟩
  have hpl:=hp.length_eq
  refine⟨(),rfl,(c90 ho57 (by omega)).use ?_⟩
  rintro _ w60 ⟨s61,rfl,ho60,hp60,hC60⟩
  have hcl:=cptL_len ys
  have hb61:∀j∈blk s61,w10.heap.size<=j:=fun j hj=>hbk j (by unfold blk at hj ⊢;rw[hp60] at hj;exact hj)
  refine⟨s61,rfl,s61,cptL ys,rfl,⟨cptL_sorted (fun a b ha hb=>arcKey_inj (hQ a (hp.mem_iff.1 ha)) (hQ b (hp.mem_iff.1 hb))) hsrt,fun _ e=>?_,fun hno=>absurd hM hno⟩,ho60,by omega,((E10.trans eW).chN hC57 fun j hj=>?_).chN hC60 fun j hj=>?_,fun j hj=>?_⟩
  ·rw[cptL_mem,hp.mem_iff,hmem];rfl
  ·have:=hbk j hj;omega
  ·have:=hbk j hj;omega
  ·have:=hb61 j hj;omega
def FnB(W:World)(b n:Nat)(f:Nat->Value):Prop:=∃T,W.heap[b]? =some (.cells ((List.range n).map f).toArray T (0,0))
theorem FnB.ch{F:Nat->Prop}{W W':World}{b n:Nat}{f:Nat->Value}(h:FnB W b n f)(e:Ch F W W')(hF:¬F b):FnB W' b n f:=h.elim fun T hT=>⟨T,e.at hT hF⟩
theorem FnB.ext{W W':World}{b n:Nat}{f:Nat->Value}(h:FnB W b n f)(e:Ext W W'):FnB W' b n f:=h.elim fun T hT=>⟨T,e.at hT⟩
theorem FnB.lt{W:World}{b n:Nat}{f:Nat->Value}(h:FnB W b n f):b<W.heap.size:=h.elim fun T hT=>heap_lt hT
theorem FnB.get{W:World}{b n:Nat}{f:Nat->Value}(h:FnB W b n f){j o:Nat}(hj:j<n)(ho:o=j):W.cell? ⟨b,o,none⟩=some (f j):=by
 subst ho
 obtain⟨T,hT⟩:=h
 rw[cell_of hT,List.getElem?_toArray,List.getElem?_map,List.getElem?_range hj];rfl
theorem FnB.put{W:World}{b n:Nat}{f:Nat->Value}(h:FnB W b n f){j o:Nat}(hj:j<n)(ho:o=j){v:Value}(h1:v.oneCell'=true){K:World->Prop}(hK:∀W',FnB W' b n (fun k=>if k=j then v else f k)->Ch (fun i=>i=b) W W'->K W'):StoreP W b o [v] K:=by
 subst ho
 obtain⟨T,hT⟩:=h
 refine store_one hT (by simpa using hj) h1 fun W' u=>hK W' ⟨T,?_⟩ u.ch
 have e:(((List.range n).map f).toArray.setIfInBounds o v)=((List.range n).map fun k=>if k=o then v else f k).toArray:=by
  rw[List.setIfInBounds_toArray]
  congr 1
  apply List.ext_getElem?
  intro k
  rw[List.getElem?_set,List.getElem?_map,List.getElem?_map,List.length_map,List.length_range]
  by_cases hk:k<n
  ·rw[List.getElem?_range hk]
   by_cases e:o=k
   ·subst e;simp[hk]
   ·rw[if_neg e,Option.map_some,Option.map_some,if_neg fun h=>e h.symm]
  ·rw[List.getElem?_eq_none (by simpa using hk)]
   by_cases e:o=k
   ·omega
   ·simp[e]
 rw[<-e];exact u.new
theorem FnB.new{w w':World}{b n:Nat}{T:TypeId}{v:Value}(a:IsAlloc w (.cells { toList:=zc #[v] n } T (0,0)) b w'):FnB w' b n fun _=>v:=by
 refine⟨T,?_⟩
 have e:zc #[v] n=(List.range n).map fun _=>v:=by
  rw[zc_all (v:=v) (by intro x hx;simpa using hx)]
  simp[List.map_const']
 have:=a.new
 rw[e] at this;exact this
theorem FnB.congr{W:World}{b n:Nat}{f g:Nat->Value}(h:FnB W b n f)(e:∀j,j<n->f j=g j):FnB W b n g:=by
 obtain⟨T,hT⟩:=h
 refine⟨T,?_⟩
 rw[hT,List.map_congr_left fun j hj=>e j (List.mem_range.1 hj)]
def holdB(out:List Nat)(j:Nat)(e:ArcD):Bool:=e.2.1 == (j:Int) && !(out.any fun k=>e.1 == (k:Int))
def holds(arcs:List ArcD)(out:List Nat)(j:Nat):Nat:=arcs.countP (holdB out j)
inductive TRun(arcs:List ArcD)(n:Nat):List Nat->Prop
 | nil:TRun arcs n []
 | snoc {out:List Nat} {i:Nat}:TRun arcs n out->i<n->i∉out->holds arcs out i=0->(∀j,j<i->j∈out\/0<holds arcs out j)->TRun arcs n (out++[i])
structure ToldP(arcs:List ArcD)(n:Nat)(out:List Nat):Prop where
 run:TRun arcs n out
 all:∀j,j<n->j∈out\/0<holds arcs out j
theorem TRun.nodup{arcs:List ArcD}{n:Nat}{out:List Nat}(h:TRun arcs n out):out.Nodup/\∀i∈out,i<n:=by
 induction h with
 | nil=>simp
 | snoc h hi hn _ _ ih=>
  refine⟨List.nodup_append.2 ⟨ih.1,by simp,fun a ha b hb=>?_⟩,fun j hj=>?_⟩
  ·rw[List.mem_singleton.1 hb];exact fun e=>hn (e ▸ ha)
  ·rcases List.mem_append.1 hj with hj|hj
   ·exact ih.2 j hj
   ·rw[List.mem_singleton.1 hj];exact hi
theorem TRun.len{arcs:List ArcD}{n:Nat}{out:List Nat}(h:TRun arcs n out):out.length<=n:=by
 have:=nodup_le (a:=out) (b:=List.range n) h.nodup.1 fun i hi=>List.mem_range.2 (h.nodup.2 i hi)
 simpa using this
theorem holdB_new{out:List Nat}{i:Nat}(hi:i∉out)(j:Nat)(e:ArcD):(e.1=(i:Int)->holdB (out++[i]) j e=false/\holdB out j e=(e.2.1 == (j:Int)))/\(e.1≠(i:Int)->holdB (out++[i]) j e=holdB out j e):=by
 unfold holdB
 rw[List.any_append]
 constructor
 ·intro h
  have h0:(out.any fun k=>e.1 == (k:Int))=false:=by
   rw[Bool.eq_false_iff];intro ht
   obtain⟨k,hk,hke⟩:=List.any_eq_true.1 ht
   have:(k:Int)=(i:Int):=by rw[<-h];exact(beq_iff_eq.1 hke).symm
   exact hi (Int.ofNat.inj this ▸ hk)
  rw[h0]
  simp[h]
 ·intro h
  have:([i].any fun k=>e.1 == (k:Int))=false:=by simp[h]
  rw[this,Bool.or_false]
theorem holds_snoc(l:List ArcD)(e:ArcD)(out:List Nat)(j:Nat):holds (l++[e]) out j=holds l out j+if holdB out j e then 1 else 0:=by
 unfold holds;rw[List.countP_append];simp[List.countP_cons]
theorem holds_cons(l:List ArcD)(e:ArcD)(out:List Nat)(j:Nat):holds (e::l) out j=holds l out j+if holdB out j e then 1 else 0:=by
 unfold holds;rw[List.countP_cons]
theorem holds_le(l:List ArcD)(out:List Nat)(j:Nat):holds l out j<=l.length:=List.countP_le_length
theorem c95{w:World}{t:Sl}{arcs:List ArcD}{n:Nat}(hR:Rd w t 3 (arcs.flatMap aC))(hl:arcs.length<=1000000)(hn:n<=1000)(hto:∀e∈arcs,0<=e.2.1/\e.2.1<(n:Int)):
  Cw 95 #[iv (n:Int),slV t] w fun v w'=>∃t' out,v=slV t'/\ToldP arcs n out/\OwS w' t' 1 (out.map fun k:Nat=>iv (k:Int))/\Ext w w'/\∀j∈blk t',w.heap.size<=j:=by
 have htn:=rdN aC_len (by omega) hR
 refine F95_ok (n:Int) t w _ ⟨⟨by omega,by omega,by omega,by omega⟩,fun b1 w2 a2=>?_⟩
 rw[Int.toNat_natCast] at a2
 have e2:Ext w w2:=a2.ch _
 have p2:=a2.here;have z2:=a2.size
 have h0:=FnB.new a2
 refine⟨fun m z W=>∃q:Nat,q<=arcs.length/\m+q=arcs.length/\z=(q:Int)/\FnB W b1 n (fun j=>iv (holds (arcs.take q) [] j:Nat))/\Ext w W,⟨_,0,Nat.zero_le _,rfl,rfl,h0.congr fun j _=>by simp[holds],e2⟩,?_⟩
 rintro m _ W g ⟨q,hq,hm,rfl,hf,eW⟩
 unfold F95j1
 simp only[Int.toNat_natCast]
 refine IfB.dec (fun hlt=>?_) fun hge=>?_
 ·have hq':q<arcs.length:=by omega
  have hx:arcs[q]? =some arcs[q]:=List.getElem?_eq_getElem hq'
  have hxm:arcs[q]∈arcs:=List.getElem_mem hq'
  have htk:=take_succ_get hx
  generalize arcs[q]=e at hx hxm htk
  have hte:=hto e hxm
  obtain⟨b,o,hp,hc⟩:=(hR.ext eW).elem (i:=q) (by omega) (by omega) (flatGet aC_len hx)
  refine⟨b,o,hp,⟨by omega,hlt⟩,e,hc,fun b13 w14 a14=>⟨rfl,store_all (vs:=aC e) a14.new rfl (aC_one e) fun w15 u15=>?_⟩⟩
  have e15:Ext W w15:=Ext.fresh a14 u15
  obtain⟨jt,hjt⟩:=Int.eq_ofNat_of_zero_le hte.1
  have hjn:jt<n:=by omega
  have hf15:=hf.ext e15
  have hle:=holds_le (arcs.take q) [] jt
  rw[List.length_take] at hle
  refine⟨_,boxAt (cs:=aC e) u15.new 1 (Ch.refl _ _),b1,0,rfl,hte,(holds (arcs.take q) [] jt:Nat),by rw[Nat.zero_add];exact hf15.get hjn (by omega),b1,0,rfl,hte,rfl,hf15.put hjn (by omega) rfl fun w22 hf22 hC22=>⟨(by trivial),m-1,by omega,q+1,hq',by omega,by rw[wrap_of (by omega) (by omega)];rfl,hf22.congr fun j hj=>?_,(eW.trans e15).chN hC22 fun i e=>by omega⟩⟩
  rw[htk,holds_snoc]
  have hb:holdB [] j e=(e.2.1 == (j:Int)):=by simp[holdB]
  rw[hb]
  by_cases h':j=jt
  ·subst h'
   rw[if_pos rfl,hjt,wrap_of (by omega) (by omega)];simp
  ·rw[if_neg h',hjt]
   have:((jt:Int) == (j:Int))=false:=by rw[beq_eq_false_iff_ne];intro h;exact h' (Int.ofNat.inj h).symm
   rw[this];simp
 have hq':q=arcs.length:=by omega
 subst hq'
 rw[List.take_length] at hf
 refine⟨⟨by omega,by omega,by omega,by omega⟩,fun b24 w25 a25=>?_⟩
 have e25:Ext W w25:=a25.ch _
 have p25:=a25.here;have z25:=a25.size
 have hlt1:=hf.lt
 have hd0:=FnB.new a25
 refine⟨fun m s V=>∃out:List Nat,TRun arcs n out/\m+out.length=n/\OwS V s 1 (out.map fun k:Nat=>iv (k:Int))/\(∀j∈blk s,b24<j)/\FnB V b1 n (fun j=>iv (holds arcs out j:Nat))/\FnB V b24 n (fun j=>.bool (decide (j∈out)))/\Ext w V,
  ⟨n,[],.nil,rfl,.nil _ _,by simp[blk],hf.ext e25,hd0.congr fun j _=>by simp,eW.trans e25⟩,?_⟩
 rintro m s V g2 ⟨out,hrun,hmo,hos,hbk,hfh,hfd,eV⟩
 have hbV:=hfd.lt
 refine⟨fun m' z V'=>V'=V/\∃i:Nat,i<=n/\m'+i=n/\z=(s,(i:Int))/\∀j,j<i->j∈out\/0<holds arcs out j,⟨n,rfl,0,Nat.zero_le _,rfl,rfl,fun j hj=>absurd hj (Nat.not_lt_zero _)⟩,?_⟩
 rintro m' _ _ g3 ⟨rfl,i,hi,hmi,rfl,hlow⟩
 unfold F95j3
 simp only[Int.toNat_natCast]
 refine IfB.dec (fun hlt=>?_) fun hge2=>?_
 ·skip
  have hin:i<n:=by omega
  have hbi:(0:Int)<=(i:Int)/\(i:Int)<(n:Int):=⟨by omega,by omega⟩
  have hw:IntKind.i64.wrap ((i:Int)+1)=((i+1:Nat):Int):=by rw[wrap_of (by omega) (by omega)];rfl
  have hhl:=holds_le arcs out i
  have up:(i∈out\/0<holds arcs out i)->∀j,j<i+1->j∈out\/0<holds arcs out j:=fun h j hj=>by
   rcases Nat.lt_or_ge j i with h'|h'
   ·exact hlow j h'
   ·rw[show j=i by omega];exact h
  refine⟨b24,0,rfl,hbi,decide (i∈out),by rw[Nat.zero_add];exact hfd.get hin rfl,IfB.intro (fun h1=>⟨(by trivial),m'-1,by omega,(by trivial),i+1,by omega,by omega,by rw[hw],up (.inl (of_decide_eq_true h1))⟩) fun h1=>⟨b1,0,rfl,hbi,(holds arcs out i:Nat),by rw[Nat.zero_add];exact hfh.get hin rfl,IfB.dec (fun h2=>⟨(by trivial),m'-1,by omega,(by trivial),i+1,by omega,by omega,by rw[hw],up (.inr (by omega))⟩) fun h2=>⟨b24,0,rfl,hbi,rfl,hfd.put hin (by omega) rfl fun w50 hd50 hC50=>⟨by decide,fun b51 w52 a52=>?_⟩⟩⟩⟩
  have hni:i∉out:=of_decide_eq_false h1
  have hz:holds arcs out i=0:=by omega
  have hrun':TRun arcs n (out++[i]):=hrun.snoc hin hni hz hlow
  have z50:=hC50.size
  have hlen:=hrun.len
  have e52:Ext w50 w52:=a52.ch _
  have z52:=a52.size;have p52:=a52.here
  have hos52:OwS w52 s 1 (out.map fun k:Nat=>iv (k:Int)):=(hos.ch hC50 fun j hj e=>by have:=hbk j hj;omega).ext e52
  have hsn:=hos52.len
  rw[List.length_map,Nat.mul_one] at hsn
  refine hos52.lit (new:=[iv (i:Int)]) a52.new rfl (by intro v hv;rw[List.mem_singleton.1 hv];rfl) rfl rfl (by omega) (by decide) fun s54 w55 hos55 hn55 hC55 hb55=>?_
  have hbk55:∀j∈blk s54,b24<j:=fun j hj=>by
   rcases hb55 j hj with h'|h'
   ·exact hbk j h'
   ·omega
  have hd55:FnB w55 b24 n (fun j=>.bool (decide (j∈out++[i]))):=((hd50.ext e52).ch hC55 fun h=>by have:=hbk _ h;omega).congr fun j hj=>by
   by_cases h':j=i
   ·simp[h']
   ·simp[h']
  have hh55:FnB w55 b1 n (fun j=>iv (holds arcs out j:Nat)):=((hfh.ch hC50 (by omega)).ext e52).ch hC55 fun h=>by have:=hbk _ h;omega
  have E55:Ext w w55:=((eV.chN hC50 fun j e=>by have:=eW.size;omega).trans e52).chN hC55 fun j hj=>by have:=hbk j hj;have:=eW.size;omega
  have hos55':OwS w55 s54 1 ((out++[i]).map fun k:Nat=>iv (k:Int)):=by rw[List.map_append];exact hos55
  refine⟨fun m4 z V=>∃q:Nat,q<=arcs.length/\m4+q=arcs.length/\z=(q:Int)/\OwS V s54 1 ((out++[i]).map fun k:Nat=>iv (k:Int))/\FnB V b24 n (fun j=>.bool (decide (j∈out++[i])))/\FnB V b1 n (fun j=>iv (holds (arcs.take q) (out++[i]) j+holds (arcs.drop q) out j:Nat))/\Ext w V,
   ⟨_,0,Nat.zero_le _,rfl,rfl,hos55',hd55,hh55.congr fun j _=>by simp[holds],E55⟩,?_⟩
  rintro m4 _ V4 g4 ⟨q,hq,hmq,rfl,ho4,hd4,hh4,e4⟩
  unfold F95j4
  simp only[Int.toNat_natCast]
  refine IfB.dec (fun hlq=>?_) fun hgq=>?_
  ·have hq':q<arcs.length:=by omega
   have hx:arcs[q]? =some arcs[q]:=List.getElem?_eq_getElem hq'
   have hxm:arcs[q]∈arcs:=List.getElem_mem hq'
   have htk:=take_succ_get hx
   have hdr:=List.drop_eq_getElem_cons hq'
   generalize arcs[q]=e at hx hxm htk hdr
   have hte:=hto e hxm
   obtain⟨jt,hjt⟩:=Int.eq_ofNat_of_zero_le hte.1
   have hjn:jt<n:=by omega
   obtain⟨b,o,hp,hc⟩:=(hR.ext e4).elem (i:=q) (by omega) (by omega) (flatGet aC_len hx)
   refine⟨b,o,hp,⟨by omega,hlq⟩,e,hc,fun b66 w67 a67=>⟨rfl,store_all (vs:=aC e) a67.new rfl (aC_one e) fun w68 u68=>?_⟩⟩
   have e68:Ext V4 w68:=Ext.fresh a67 u68
   have hwq:IntKind.i64.wrap ((q:Int)+1)=((q+1:Nat):Int):=by rw[wrap_of (by omega) (by omega)];rfl
   refine⟨_,boxAt (cs:=aC e) u68.new 0 (Ch.refl _ _),IfB.intro (fun he=>?_) fun he=>⟨(by trivial),m4-1,by omega,q+1,hq',by omega,hwq,ho4.ext e68,hd4.ext e68,(hh4.ext e68).congr fun j hj=>?_,e4.trans e68⟩⟩
   ·have he:e.1=(i:Int):=by simpa using he
    have hl1:=holds_le (arcs.take q) (out++[i]) jt
    have hl2:=holds_le (arcs.drop q) out jt
    rw[List.length_take] at hl1
    rw[List.length_drop] at hl2
    have hhb:=(holdB_new hni jt e).1 he
    have hone:holdB out jt e=true:=by rw[hhb.2,hjt];simp
    have hval:holds (arcs.drop q) out jt=holds (arcs.drop (q+1)) out jt+1:=by rw[hdr,holds_cons,hone];rfl
    refine⟨_,boxAt (cs:=aC e) u68.new 1 (Ch.refl _ _),b1,0,rfl,hte,(holds (arcs.take q) (out++[i]) jt+holds (arcs.drop q) out jt:Nat),by rw[Nat.zero_add];exact(hh4.ext e68).get hjn (by omega),b1,0,rfl,hte,rfl,(hh4.ext e68).put hjn (by omega) rfl fun w76 hf76 hC76=>⟨(by trivial),m4-1,by omega,q+1,hq',by omega,hwq,(ho4.ext e68).ch hC76 fun j hj e=>by have:=hbk55 j hj;omega,(hd4.ext e68).ch hC76 (by omega),hf76.congr fun j hj=>?_,(e4.trans e68).chN hC76 fun j e=>by omega⟩⟩
    rw[htk,holds_snoc,((holdB_new hni j e).1 he).1]
    by_cases h':j=jt
    ·subst h'
     rw[if_pos rfl,hval,wrap_of (by omega) (by omega)]
     congr 1
     simp
     omega
    ·rw[if_neg h',hdr,holds_cons,((holdB_new hni j e).1 he).2,hjt]
     have:((jt:Int) == (j:Int))=false:=by rw[beq_eq_false_iff_ne];intro h;exact h' (Int.ofNat.inj h).symm
     rw[this];simp
   ·have he:e.1≠(i:Int):=by simpa using he
    rw[htk,holds_snoc,hdr,holds_cons,(holdB_new hni j e).2 he]
    congr 1
    omega
  ·have hq':q=arcs.length:=by omega
   subst hq'
   have hml:=hrun'.len
   rw[List.length_append,List.length_singleton] at hml
   refine⟨(by trivial),m-1,by omega,out++[i],hrun',by rw[List.length_append,List.length_singleton];omega,ho4,hbk55,hh4.congr fun j _=>?_,hd4,e4⟩
   rw[List.take_length,List.drop_length];simp[holds]
 ·skip
  have hii:i=n:=by omega
  subst hii
  exact⟨s,out,rfl,⟨hrun,hlow⟩,hos,eV,fun j hj=>by have:=hbk j hj;have:=eW.size;omega⟩
theorem ArcsP.to{x:CatD}{hs:List Nd}{ys:List ArcD}(h:ArcsP x hs ys):∀e∈ys,0<=e.2.1/\e.2.1<(hs.length:Int):=fun e he=>by
 by_cases hM:HMay x hs
 ·exact(((h.mem hM e).1 he).q).2.1
 ·rw[h.no hM] at he;cases he
theorem c37{w:World}{v:CatV}{x:CatD}{t:Sl}{hs:List Nd}(h:CatM w v x)(hH:Hst w t hs)(hl:hs.length<=1000):
  Cw 37 #[cxV v,slV t] w fun r w'=>∃(t':Sl)(os:List Nat),r=slV t'/\OwS w' t' 1 (os.map fun k:Nat=>iv (k:Int))/\(¬HMay x hs->os=[])/\(HMay x hs->∃ys out,ArcsP x hs ys/\ToldP ys hs.length out/\os=if out.length=hs.length then out else [])/\Ext w w'/\∀j∈blk t',w.heap.size<=j:=by
 have htn:=hH.n
 refine F37_ok v t w _ fun b1 w2 a2=>?_
 have e2:Ext w w2:=a2.ch _
 refine⟨v,cxN h a2.new (Ch.refl _ _),(c30 (h.ext e2) (hH.ext e2)).use ?_⟩
 rintro _ w7 ⟨s8,ys,rfl,hA,ho,hyl,e7,_⟩
 have E7:=e2.trans e7
 refine⟨s8,rfl,?_⟩
 rw[show (t.2:Int)=((hs.length:Nat):Int) by rw[htn]]
 refine(c95 ho.rd (by omega) hl hA.to).use ?_
 rintro _ w10 ⟨s11,out,rfl,hT,ho2,e10,hb⟩
 have E10:=E7.trans e10
 have hn2:=ho2.len
 rw[List.length_map,Nat.mul_one] at hn2
 have hol:=hT.run.len
 refine⟨s11,rfl,v,cxN h a2.new (e7.trans e10),(c84 (h.ext E10) (hH.ext E10)).use ?_⟩
 rintro _ w16 ⟨r,rfl,hr,e16⟩
 have E16:=E10.trans e16
 refine⟨r,rfl,IfB.intro (fun h1=>⟨⟨none,0,0⟩,[],rfl,.nil _ _,fun _=>rfl,fun hM=>?_,E16,by simp[blk]⟩) fun h1=>?_⟩
 ·have h1:r=false:=by simpa using h1
  rw[hr.2 hM] at h1;cases h1
 have hM:=hr.1 (by simpa using h1)
 refine IfB.dec (fun h2=>⟨⟨none,0,0⟩,[],rfl,.nil _ _,fun _=>rfl,fun _=>⟨ys,out,hA,hT,?_⟩,E16,by simp[blk]⟩) fun h2=>⟨s11,out,rfl,ho2.ext e16,fun h=>absurd hM h,fun _=>⟨ys,out,hA,hT,?_⟩,E16,fun j hj=>?_⟩
 ·rw[if_neg (by omega)]
 ·rw[if_pos (by omega)]
 ·have:=hb j hj;have:=E7.size;omega
theorem TRun.at{arcs:List ArcD}{n:Nat}{L:List Nat}(h:TRun arcs n L):∀ {p q:List Nat}{a:Nat},L=p++a::q->a<n/\a∉p/\holds arcs p a=0/\∀j,j<a->j∈p\/0<holds arcs p j:=by
 induction h with
 | nil=>intro p q a h;simp at h
 | @snoc out i h1 h2 h3 h4 h5 ih=>
  intro p q a h
  rcases List.eq_nil_or_concat q with rfl|⟨q',z,rfl⟩
  ·obtain⟨e1,e2⟩:=List.append_inj' h rfl
   cases e2;subst e1
   exact⟨h2,h3,h4,h5⟩
  ·have:out++[i]=(p++a::q')++[z]:=by rw[h];simp
   exact ih (List.append_inj' this rfl).1
theorem TRun.pre{arcs:List ArcD}{n:Nat}{out out':List Nat}(h:TRun arcs n out)(k:ToldP arcs n out'):∃r,out'=out++r:=by
 induction h with
 | nil=>exact⟨out',rfl⟩
 | @snoc out i h1 h2 h3 h4 h5 ih=>
  obtain⟨r,hr⟩:=ih
  cases r with
  | nil=>
   rw[List.append_nil] at hr;subst hr
   rcases k.all i h2 with h'|h'
   ·exact absurd h' h3
   ·omega
  | cons a r=>
   obtain⟨g1,g2,g3,g4⟩:=k.run.at hr
   have:a=i:=by
    rcases Nat.lt_trichotomy a i with h'|h'|h'
    ·rcases h5 a h' with h''|h''
     ·exact absurd h'' g2
     ·omega
    ·exact h'
    ·rcases g4 i h' with h''|h''
     ·exact absurd h'' h3
     ·omega
   subst this
   exact⟨r,by rw[hr];simp⟩
theorem ToldP.uniq{arcs:List ArcD}{n:Nat}{out out':List Nat}(h:ToldP arcs n out)(k:ToldP arcs n out'):out=out':=by
 obtain⟨r,hr⟩:=h.run.pre k
 obtain⟨r',hr'⟩:=k.run.pre h
 have h1:=congrArg List.length hr
 have h2:=congrArg List.length hr'
 rw[List.length_append] at h1 h2
 have:r=[]:=List.eq_nil_of_length_eq_zero (by omega)
 rw[hr,this,List.append_nil]
theorem least{P:Nat->Prop}:∀ {n k:Nat},k<=n->P k->∃f,P f/\∀j,P j->f<=j:=by
 intro n
 induction n with
 | zero=>intro k hk h;exact⟨k,h,fun j _=>by omega⟩
 | succ n ih=>
  intro k hk h
  by_cases hx:∃j,j<=n/\P j
  ·obtain⟨j,hj,hp⟩:=hx;exact ih hj hp
  ·refine⟨k,h,fun j hj=>?_⟩
   rcases Nat.lt_or_ge j k with h'|h'
   ·exact absurd ⟨j,by omega,hj⟩ hx
   ·exact h'
theorem greatest{P:Nat->Prop}{n k:Nat}(h:P k)(hb:∀j,P j->j<n):∃l,P l/\∀j,P j->j<=l:=by
 obtain⟨m,⟨j,hj,hm⟩,hmin⟩:=least (P:=fun m=>∃j,P j/\m+j=n) (n:=n) (k:=n-k) (by omega) ⟨k,h,by have:=hb k h;omega⟩
 refine⟨j,hj,fun i hi=>?_⟩
 have h1:=hb i hi
 have h2:=hmin (n-i) ⟨i,hi,by omega⟩
 omega
theorem get_lt{α:Type}{l:List α}{i:Nat}{a:α}(h:l[i]? =some a):i<l.length:=(List.getElem?_eq_some_iff.1 h).1
theorem InP.sym{x:CatD}{hs:List Nd}(hM:HMay x hs){i k:Nat}{d:Int}(h:InP x hs i k d):InP x hs k i d:=by
 rcases h with rfl|⟨a,b,ha,hb,h1,h2,h3,h4⟩
 ·exact .inl rfl
 ·exact .inr ⟨b,a,hb,ha,h1.symm,h3,h2,by rw[hM.cls hb ha h1.symm];exact h4.symm⟩
theorem InP.tr{x:CatD}{hs:List Nd}(hM:HMay x hs){i j k:Nat}{d:Int}(h:InP x hs i j d)(g:InP x hs j k d):InP x hs i k d:=by
 rcases h with rfl|⟨a,b,ha,hb,h1,h2,h3,h4⟩
 ·exact g
 ·rcases g with rfl|⟨b',c,hb',hc,g1,g2,g3,g4⟩
  ·exact .inr ⟨a,b,ha,hb,h1,h2,h3,h4⟩
  ·rw[hb] at hb';cases hb'
   exact .inr ⟨a,c,ha,hc,h1.trans g1,h2,g3,h4.trans (by rw[hM.cls ha hb h1];exact g4)⟩
theorem InP.saga{x:CatD}{hs:List Nd}{i k:Nat}{d:Int}{a:Nd}(h:InP x hs i k d)(ha:hs[i]? =some a):∃b,hs[k]? =some b/\b.v.1=a.v.1:=by
 rcases h with rfl|⟨a',b,ha',hb,h1,_⟩
 ·exact⟨a,ha,rfl⟩
 ·rw[ha] at ha';cases ha';exact⟨b,hb,h1.symm⟩
theorem LstP.ex{x:CatD}{hs:List Nd}{i:Nat}(hi:i<hs.length)(d:Int):∃l,LstP x hs i d l:=greatest (P:=fun k=>InP x hs i k d) (.inl rfl) fun _ h=>h.lt hi
theorem FstP.ex{x:CatD}{hs:List Nd}{i:Nat}(hi:i<hs.length)(d:Int):∃l,FstP x hs i d l:=least (P:=fun k=>InP x hs i k d) (Nat.le_refl i) (.inl rfl)
def ArcE(x:CatD)(hs:List Nd)(a b:Nat):Prop:=∃c:Int,ArcIn x hs ((a:Int),(b:Int),c)
theorem arc_own{x:CatD}{hs:List Nd}:∀ {n i k:Nat}{m nd:Nd},i<=n->hs[k]? =some m->hs[i]? =some nd->m.v.1=nd.v.1->k<i->TC (ArcE x hs) k i:=by
 intro n
 induction n with
 | zero=>intro i k m nd h1 h2 h3 h4 h5;omega
 | succ n ih=>
  intro i k m nd h1 h2 h3 h4 h5
  obtain⟨j,⟨hj,nj,hnj,hsj⟩,hmax⟩:=greatest (P:=fun j=>j<i/\∃nj,hs[j]? =some nj/\nj.v.1=nd.v.1) (n:=i) (k:=k) ⟨h5,m,h2,h4⟩ fun j h=>h.1
  have harc:ArcE x hs j i:=⟨1,i,get_lt h3,.inl ⟨_,⟨nd,h3,.inr ⟨j,nj,hj,hnj,hsj,rfl,fun q mq g1 g2 g3 g4=>by have:=hmax q ⟨g2,mq,g3,g4⟩;omega⟩⟩,by simp⟩⟩
  have hkj:=hmax k ⟨h5,m,h2,h4⟩
  rcases Nat.lt_or_ge k j with h|h
  ·exact(ih (by omega) h2 hnj (h4.trans hsj.symm) h).more harc
  ·have:k=j:=by omega
   subst this;exact .one harc
theorem arc_btw{x:CatD}{hs:List Nd}{i k l f:Nat}{ni nk:Nd}(hd:Dp hs i k)(hi:hs[i]? =some ni)(hk:hs[k]? =some nk)(hne:nk.v.1≠ni.v.1)(hl:LstP x hs k ni.v.2.1 l)(hf:FstP x hs i nk.v.2.1 f):ArcE x hs k i/\ArcE x hs l i/\ArcE x hs k f:=by
 have h0:BtwP x hs k i [((k:Int),(i:Int),2),((l:Int),(i:Int),3),((k:Int),(f:Int),4)]:=⟨nk,ni,l,f,hk,hi,hl,hf,rfl⟩
 have h1:∀e,e∈[((k:Int),(i:Int),(2:Int)),((l:Int),(i:Int),3),((k:Int),(f:Int),4)]->ArcIn x hs e:=fun e he=>⟨i,get_lt hi,.inr ⟨k,_,hd,⟨ni,nk,hi,hk,hne⟩,h0,he⟩⟩
 exact⟨⟨2,h1 _ (by simp)⟩,⟨3,h1 _ (by simp)⟩,⟨4,h1 _ (by simp)⟩⟩
theorem arc_inv{x:CatD}{hs:List Nd}{a b:Nat}(h:ArcE x hs a b):(∃m n,a<b/\hs[a]? =some m/\hs[b]? =some n/\m.v.1=n.v.1)\/∃i k ni nk l f,Dp hs i k/\hs[i]? =some ni/\hs[k]? =some nk/\nk.v.1≠ni.v.1/\LstP x hs k ni.v.2.1 l/\FstP x hs i nk.v.2.1 f/\((a=k/\b=i)\/(a=l/\b=i)\/(a=k/\b=f)):=by
 obtain⟨c,i,hi,h⟩:=h
 rcases h with ⟨xs,⟨n,hn,h⟩,he⟩|⟨k,xs,hd,⟨ni,nk,h1,h2,h3⟩,⟨nk',ni',l,f,g1,g2,g3,g4,rfl⟩,he⟩
 ·rcases h with ⟨rfl,_⟩|⟨k,m,k1,k2,k3,rfl,_⟩
  ·cases he
  ·have:=List.mem_singleton.1 he
   simp only[Prod.mk.injEq] at this
   have ea:a=k:=by omega
   have eb:b=i:=by omega
   subst ea eb
   exact .inl ⟨m,n,k1,k2,hn,k3⟩
 ·rw[h2] at g1;rw[h1] at g2;cases g1;cases g2
  refine .inr ⟨i,k,ni,nk,l,f,hd,h1,h2,h3,g3,g4,?_⟩
  simp only[List.mem_cons,List.not_mem_nil,or_false,Prod.mk.injEq] at he
  omega
structure FairR(x:CatD)(hs:List Nd)(r:Nat->Nat):Prop where
 inj:∀i j,i<hs.length->j<hs.length->r i=r j->i=j
 keep:∀i k,EdP hs i k->r k<r i
 fair:∀o a b u no na,hs[o]? =some no->hs[a]? =some na->na.v.1≠no.v.1->InP x hs a b no.v.2.1->r a<=r o->r o<=r b->InP x hs a u no.v.2.1->¬(Dp hs o u\/Dp hs u o)
theorem dp_rank{hs:List Nd}{r:Nat->Nat}(h:∀i k,EdP hs i k->r k<r i){i k:Nat}(hd:Dp hs i k):r k<r i:=by
 induction hd with
 | one e=>exact h _ _ e
 | more _ e ih=>have:=h _ _ e;omega
theorem FairR.arc{x:CatD}{hs:List Nd}{r:Nat->Nat}(hM:HMay x hs)(h:FairR x hs r){a b:Nat}(e:ArcE x hs a b):r a<r b:=by
 rcases arc_inv e with ⟨m,n,h1,h2,h3,h4⟩|⟨i,k,ni,nk,l,f,hd,hi,hk,hne,hl,hf,hab⟩
 ·exact h.keep _ _ ⟨h1,n,m,h3,h2,.inl h4.symm⟩
 ·have hki:=dp_rank h.keep hd
  rcases hab with ⟨rfl,rfl⟩|⟨rfl,rfl⟩|⟨rfl,rfl⟩
  ·exact hki
  ·apply Nat.lt_of_not_le;intro hle
   exact h.fair b k a k ni nk hi hk hne hl.1 (by omega) hle (.inl rfl) (.inl hd)
  ·apply Nat.lt_of_not_le;intro hle
   obtain⟨nf,hnf,hsf⟩:=hf.1.saga hi
   exact h.fair a b i i nk nf hk hnf (by rw[hsf];exact fun e=>hne e.symm) (hf.1.sym hM) hle (by omega) (hf.1.sym hM) (.inr hd)
theorem tc_rank{E:Nat->Nat->Prop}{r:Nat->Nat}(h:∀a b,E a b->r a<r b){a b:Nat}(t:TC E a b):r a<r b:=by
 induction t with
 | one e=>exact h _ _ e
 | more _ e ih=>have:=h _ _ e;omega
theorem fair_of{x:CatD}{hs:List Nd}{r:Nat->Nat}(hM:HMay x hs)(inj:∀i j,i<hs.length->j<hs.length->r i=r j->i=j)(hr:∀a b,ArcE x hs a b->r a<r b):FairR x hs r:=by
 have own:∀ {k i:Nat}{m n:Nd},hs[k]? =some m->hs[i]? =some n->m.v.1=n.v.1->k<i->r k<r i:=fun h1 h2 h3 h4=>tc_rank hr (arc_own (Nat.le_refl _) h1 h2 h3 h4)
 have dp:∀ {i k:Nat},Dp hs i k->k<hs.length->i<hs.length->r k<r i:=fun{i k} hd hk hi=>by
  have hlt:=Dp_lt hd
  have gi:hs[i]? =some hs[i]:=List.getElem?_eq_getElem hi
  have gk:hs[k]? =some hs[k]:=List.getElem?_eq_getElem hk
  by_cases he:hs[k].v.1=hs[i].v.1
  ·exact own gk gi he hlt
  ·obtain⟨l,hl⟩:=LstP.ex (x:=x) hk hs[i].v.2.1
   obtain⟨f,hf⟩:=FstP.ex (x:=x) hi hs[k].v.2.1
   exact hr _ _ (arc_btw hd gi gk he hl hf).1
 refine⟨inj,fun i k h=>?_,fun o a b u no na ho ha hne hab h1 h2 hau hd=>?_⟩
 ·obtain⟨hlt,a,b,ga,gb,_⟩:=id h
  exact dp (.one h) (get_lt gb) (get_lt ga)
 ·obtain⟨nu,hu,hsu⟩:=hau.saga ha
  obtain⟨nb,hb,hsb⟩:=hab.saga ha
  rcases hd with hd|hd
  ·obtain⟨l,hl⟩:=LstP.ex (x:=x) (get_lt hu) no.v.2.1
   obtain⟨f,hf⟩:=FstP.ex (x:=x) (get_lt ho) nu.v.2.1
   have h3:=hr _ _ (arc_btw hd ho hu (by rw[hsu];exact hne) hl hf).2.1
   have hbl:=hl.2 b ((hau.sym hM).tr hM hab)
   obtain⟨nl,hnl,hsl⟩:=hl.1.saga hu
   rcases Nat.lt_or_ge b l with h'|h'
   ·have:=own hb hnl (hsb.trans (hsu.symm.trans hsl.symm)) h';omega
   ·have:b=l:=by omega
    subst this;omega
  ·obtain⟨l,hl⟩:=LstP.ex (x:=x) (get_lt ho) nu.v.2.1
   obtain⟨f,hf⟩:=FstP.ex (x:=x) (get_lt hu) no.v.2.1
   have h3:=hr _ _ (arc_btw hd hu ho (by rw[hsu];exact fun e=>hne e.symm) hl hf).2.2
   have hfa:=hf.2 a (hau.sym hM)
   obtain⟨nf,hnf,hsf⟩:=hf.1.saga hu
   rcases Nat.lt_or_ge f a with h'|h'
   ·have:=own hnf ha (hsf.trans hsu) h';omega
   ·have:f=a:=by omega
    subst this;omega
def pos:List Nat->Nat->Nat
 | [],_=>0
 | x::l,i=>if x=i then 0 else pos l i+1
theorem pos_mem:∀ {p:List Nat}{a:Nat}(q:List Nat),a∈p->pos (p++q) a<p.length
 | x::p,a,q,h=>by
  rw[List.cons_append,pos,List.length_cons]
  by_cases e:x=a
  ·rw[if_pos e];omega
  ·rw[if_neg e]
   have:=pos_mem (p:=p) q ((List.mem_cons.1 h).resolve_left fun h=>e h.symm)
   omega
theorem pos_not:∀ {p:List Nat}{b:Nat}(q:List Nat),b∉p->pos (p++b::q) b=p.length
 | [],b,q,_=>by rw[List.nil_append,pos,if_pos rfl];rfl
 | x::p,b,q,h=>by
  rw[List.cons_append,pos,if_neg (fun e=>h (by rw[e];exact List.mem_cons_self ..)),pos_not q fun h'=>h (List.mem_cons_of_mem _ h'),List.length_cons]
theorem pos_get:∀ {l:List Nat}{a:Nat},a∈l->l[pos l a]? =some a
 | x::l,a,h=>by
  rw[pos]
  by_cases e:x=a
  ·rw[if_pos e,e];rfl
  ·rw[if_neg e,List.getElem?_cons_succ]
   exact pos_get ((List.mem_cons.1 h).resolve_left fun h=>e h.symm)
theorem full_mem{out:List Nat}{n:Nat}(hn:out.Nodup)(hl:∀i∈out,i<n)(h:out.length=n){i:Nat}(hi:i<n):i∈out:=by
 refine Classical.byContradiction fun hno=>?_
 have:=nodup_le (a:=i::out) (b:=List.range n) (List.nodup_cons.2 ⟨hno,hn⟩) fun j hj=>by
  rcases List.mem_cons.1 hj with rfl|hj
  ·exact List.mem_range.2 hi
  ·exact List.mem_range.2 (hl j hj)
 rw[List.length_cons,List.length_range] at this
 omega
theorem full_miss{out:List Nat}{n:Nat}(h:out.length<n):∃i,i<n/\i∉out:=by
 refine Classical.byContradiction fun hno=>?_
 have:=nodup_le (a:=List.range n) (b:=out) List.nodup_range fun j hj=>Classical.byContradiction fun h'=>hno ⟨j,List.mem_range.1 hj,h'⟩
 rw[List.length_range] at this
 omega
theorem holds_pos{arcs:List ArcD}{out:List Nat}{j:Nat}:0<holds arcs out j↔∃e∈arcs,e.2.1=(j:Int)/\∀k∈out,e.1≠(k:Int):=by
 unfold holds
 rw[List.countP_pos_iff]
 refine exists_congr fun e=>and_congr_right fun _=>?_
 unfold holdB
 rw[Bool.and_eq_true,beq_iff_eq,Bool.not_eq_true']
 refine and_congr_right fun _=>⟨fun h k hk he=>?_,fun h=>?_⟩
 ·rw[List.any_eq_false] at h
  exact h k hk (beq_iff_eq.2 he)
 ·rw[List.any_eq_false]
  exact fun k hk he=>h k hk (beq_iff_eq.1 he)
theorem told_rank{arcs:List ArcD}{n:Nat}{out:List Nat}(hT:ToldP arcs n out)(hl:out.length=n){a b:Nat}{c:Int}(he:((a:Int),(b:Int),c)∈arcs)(hb:b<n):pos out a<pos out b:=by
 have hnd:=hT.run.nodup
 obtain⟨p,q,hpq⟩:=List.append_of_mem (full_mem hnd.1 hnd.2 hl hb)
 obtain⟨h1,h2,h3,_⟩:=hT.run.at hpq
 have:¬0<holds arcs p b:=by omega
 rw[holds_pos] at this
 have ha:a∈p:=Classical.byContradiction fun h=>this ⟨_,he,rfl,fun k hk e=>h (by rw[show a=k from Int.ofNat.inj e];exact hk)⟩
 rw[hpq,pos_not q h2]
 exact pos_mem _ ha
theorem told_full{arcs:List ArcD}{n:Nat}{out:List Nat}(hT:ToldP arcs n out){r:Nat->Nat}(hr:∀e∈arcs,∃a b:Nat,e.1=(a:Int)/\e.2.1=(b:Int)/\a<n/\r a<r b):out.length=n:=by
 have hlen:=hT.run.len
 refine Classical.byContradiction fun hne=>?_
 obtain⟨i0,h0,h0'⟩:=full_miss (out:=out) (n:=n) (by omega)
 obtain⟨m,⟨i,hi,hio,rfl⟩,hmin⟩:=least (P:=fun m=>∃i,i<n/\i∉out/\r i=m) (Nat.le_refl _) ⟨i0,h0,h0',rfl⟩
 obtain⟨e,he,h1,h2⟩:=holds_pos.1 ((hT.all i hi).resolve_left hio)
 obtain⟨a,b,ha,hb,han,hab⟩:=hr e he
 have:b=i:=Int.ofNat.inj (hb.symm.trans h1)
 subst this
 have:=hmin (r a) ⟨a,han,fun h=>h2 a h ha,rfl⟩
 omega
theorem TRun.ex{arcs:List ArcD}{n:Nat}:∀ {m:Nat}{out:List Nat},TRun arcs n out->m+out.length=n->∃out',ToldP arcs n out':=by
 intro m
 induction m with
 | zero=>
  intro out h hm
  have hnd:=h.nodup
  exact⟨out,h,fun j hj=>.inl (full_mem hnd.1 hnd.2 (by omega) hj)⟩
 | succ m ih=>
  intro out h hm
  by_cases hx:∀j,j<n->j∈out\/0<holds arcs out j
  ·exact⟨out,h,hx⟩
  ·have:∃j,j<n/\j∉out/\holds arcs out j=0:=Classical.byContradiction fun hno=>hx fun j hj=>by
    by_cases hm:j∈out
    ·exact .inl hm
    ·exact .inr (Nat.pos_of_ne_zero fun h0=>hno ⟨j,hj,hm,h0⟩)
   obtain⟨j0,hj0⟩:=this
   obtain⟨i,⟨hi,hio,hi0⟩,hmin⟩:=least (P:=fun j=>j<n/\j∉out/\holds arcs out j=0) (Nat.le_refl _) hj0
   refine ih (h.snoc hi hio hi0 fun j hj=>?_) (by rw[List.length_append,List.length_singleton];omega)
   by_cases hm:j∈out
   ·exact .inl hm
   ·exact .inr (Nat.pos_of_ne_zero fun h0=>by have:=hmin j ⟨by omega,hm,h0⟩;omega)
theorem told_ex(arcs:List ArcD)(n:Nat):∃out,ToldP arcs n out:=TRun.ex (m:=n) .nil rfl
theorem arc_of{x:CatD}{hs:List Nd}{ys:List ArcD}(hM:HMay x hs)(hA:ArcsP x hs ys){e:ArcD}(he:e∈ys):∃a b:Nat,e.1=(a:Int)/\e.2.1=(b:Int)/\a<hs.length/\b<hs.length/\ArcE x hs a b:=by
 have h:=(hA.mem hM e).1 he
 obtain⟨⟨h1,h2⟩,⟨h3,h4⟩,_⟩:=h.q
 obtain⟨e1,e2,e3⟩:=e
 obtain⟨a,rfl⟩:=Int.eq_ofNat_of_zero_le h1
 obtain⟨b,rfl⟩:=Int.eq_ofNat_of_zero_le h3
 exact⟨a,b,rfl,rfl,by dsimp only at h2;omega,by dsimp only at h4;omega,e3,h⟩
theorem ArcE.lt{x:CatD}{hs:List Nd}{a b:Nat}(h:ArcE x hs a b):a<hs.length/\b<hs.length:=by
 obtain⟨c,h⟩:=h
 have:=h.q
 dsimp only at this
 omega
theorem told_fair{x:CatD}{hs:List Nd}{ys:List ArcD}{out:List Nat}(hM:HMay x hs)(hA:ArcsP x hs ys)(hT:ToldP ys hs.length out)(hl:out.length=hs.length):FairR x hs (pos out):=by
 have hnd:=hT.run.nodup
 refine fair_of hM (fun i j hi hj e=>?_) fun a b ⟨c,h⟩=>told_rank hT hl ((hA.mem hM _).2 h) (ArcE.lt ⟨c,h⟩).2
 have h1:=pos_get (full_mem hnd.1 hnd.2 hl hi)
 have h2:=pos_get (full_mem hnd.1 hnd.2 hl hj)
 rw[e,h2] at h1
 exact(Option.some.inj h1).symm
theorem told_iff{x:CatD}{hs:List Nd}{ys:List ArcD}{out:List Nat}(hM:HMay x hs)(hA:ArcsP x hs ys)(hT:ToldP ys hs.length out):out.length=hs.length↔∃r,FairR x hs r:=
 ⟨fun h=>⟨_,told_fair hM hA hT h⟩,fun⟨r,h⟩=>told_full hT (r:=r) fun e he=>by
  obtain⟨a,b,h1,h2,h3,h4,h5⟩:=arc_of hM hA he
  exact⟨a,b,h1,h2,h3,h.arc hM h5⟩⟩
theorem TC.flip{α:Type}{E:α->α->Prop}{a b:α}(h:TC (fun x y=>E y x) a b):TC E b a:=by
 induction h with
 | one e=>exact .one e
 | more _ e ih=>exact(TC.one e).trans ih
theorem acyc_iff{x:CatD}{hs:List Nd}{ys:List ArcD}(hM:HMay x hs)(hA:ArcsP x hs ys):(∀i,¬TC (ArcE x hs) i i)↔∃r,FairR x hs r:=by
 constructor
 ·intro h
  obtain⟨out,hT⟩:=told_ex ys hs.length
  refine(told_iff hM hA hT).1 (Classical.byContradiction fun hne=>?_)
  have hlen:=hT.run.len
  obtain⟨i,hi,hio⟩:=full_miss (out:=out) (n:=hs.length) (by omega)
  have pred:∀j,j<hs.length->j∉out->∃a,a∉out/\ArcE x hs a j:=fun j hj hjo=>by
   obtain⟨e,he,h1,h2⟩:=holds_pos.1 ((hT.all j hj).resolve_left hjo)
   obtain⟨a,b,g1,g2,g3,g4,g5⟩:=arc_of hM hA he
   have:b=j:=Int.ofNat.inj (g2.symm.trans h1)
   subst this
   exact⟨a,fun h=>h2 a h g1,g5⟩
  obtain⟨a,⟨b,hb⟩,hall⟩:=acyc_some (E:=fun b a=>b∉out/\a∉out/\ArcE x hs a b) (keys:=List.range hs.length) (fun k hk=>h k (TC.flip (hk.mono fun _ _ h=>h.2.2))) (fun a b h=>List.mem_range.2 h.2.2.lt.2) (k:=i) (by
   obtain⟨a,h1,h2⟩:=pred i hi hio
   exact⟨a,hio,h1,h2⟩)
  obtain⟨c,h1,h2⟩:=pred b hb.2.2.lt.1 hb.2.1
  exact hall b hb c ⟨hb.2.1,h1,h2⟩
 ·rintro⟨r,h⟩ i hi
  have:=tc_rank (fun a b e=>h.arc hM e) hi
  omega
theorem InP.take{x:CatD}{hs:List Nd}{m i k:Nat}{d:Int}(h:InP x (hs.take m) i k d):InP x hs i k d:=by
 rcases h with rfl|⟨a,b,ha,hb,h'⟩
 ·exact .inl rfl
 ·rw[List.getElem?_take] at ha hb
  split at ha
  ·split at hb
   ·exact .inr ⟨a,b,ha,hb,h'⟩
   ·cases hb
  ·cases ha
theorem take_get{hs:List Nd}{m i:Nat}{a:Nd}(h:(hs.take m)[i]? =some a):i<m/\hs[i]? =some a:=by
 rw[List.getElem?_take] at h
 split at h
 ·exact⟨‹_›,h⟩
 ·cases h
theorem FairR.take{x:CatD}{hs:List Nd}{r:Nat->Nat}(h:FairR x hs r)(m:Nat):FairR x (hs.take m) r:=by
 refine⟨fun i j hi hj=>h.inj i j (by rw[List.length_take] at hi;omega) (by rw[List.length_take] at hj;omega),fun i k e=>?_,fun o a b u no na ho ha hne hab h1 h2 hau hd=>?_⟩
 ·obtain⟨hlt,a,b,ga,gb,hd⟩:=e
  exact h.keep i k ⟨hlt,a,b,(take_get ga).2,(take_get gb).2,hd⟩
 ·obtain⟨ho1,ho2⟩:=take_get ho
  obtain⟨ha1,ha2⟩:=take_get ha
  obtain⟨nu,hu,_⟩:=hau.saga ha
  have hu1:=(take_get hu).1
  refine h.fair o a b u no na ho2 ha2 hne hab.take h1 h2 hau.take (hd.imp (fun h=>?_) fun h=>?_)
  ·exact(Dp_take ho1).1 h
  ·exact(Dp_take hu1).1 h
theorem HMay.take{x:CatD}{hs:List Nd}(h:HMay x hs)(m:Nat):HMay x (hs.take m):=by
 refine⟨h.cat,by have:=h.len;rw[List.length_take];omega,fun i n hn=>?_⟩
 obtain⟨h1,h2⟩:=take_get hn
 have:=h.ok i n h2
 unfold lastOwn at this ⊢
 rw[List.take_take,Nat.min_eq_left (by omega)]
 exact this
inductive WRun(W:Nat->Nat->Prop)(n:Nat):List Nat->Prop
 | nil:WRun W n []
 | snoc {out:List Nat} {i:Nat}:WRun W n out->i<n->i∉out->(∀k,k<n->k∈out\/¬W k i)->(∀j,j<i->j∈out\/∃k,k<n/\k∉out/\W k j)->WRun W n (out++[i])
theorem TC.lt{x:CatD}{hs:List Nd}{a b:Nat}(h:TC (ArcE x hs) a b):a<hs.length/\b<hs.length:=by
 induction h with
 | one e=>exact e.lt
 | more _ e ih=>exact⟨ih.1,e.lt.2⟩
theorem WRun.run{x:CatD}{hs:List Nd}{ys:List ArcD}(hM:HMay x hs)(hA:ArcsP x hs ys){out:List Nat}(h:WRun (TC (ArcE x hs)) hs.length out):TRun ys hs.length out/\∀i∈out,∀k,TC (ArcE x hs) k i->k∈out:=by
 induction h with
 | nil=>exact⟨.nil,fun i hi=>by cases hi⟩
 | @snoc out i h1 h2 h3 h4 h5 ih=>
  obtain⟨ih1,ih2⟩:=ih
  have hp:∀ {j:Nat}{a:Nat},ArcE x hs a j->a∉out->0<holds ys out j:=fun{j a} ⟨c,he⟩ ha=>holds_pos.2 ⟨_,(hA.mem hM _).2 he,rfl,fun k hk e=>ha (by rw[show a=k from Int.ofNat.inj e];exact hk)⟩
  have h5':∀j,j<i->j∈out\/0<holds ys out j:=fun j hj=>by
   rcases h5 j hj with h|⟨k,hk,hko,hw⟩
   ·exact .inl h
   ·refine .inr ?_
    obtain⟨c,hc,hck⟩:=hw.last
    refine hp hc fun hco=>hko ?_
    rcases hck with rfl|hck
    ·exact hco
    ·exact ih2 c hco k hck
  refine⟨ih1.snoc h2 h3 (Nat.eq_zero_of_not_pos fun h0=>?_) h5',fun j hj k hk=>?_⟩
  ·obtain⟨e,he,g1,g2⟩:=holds_pos.1 h0
   obtain⟨a,b,q1,q2,q3,q4,q5⟩:=arc_of hM hA he
   have:b=i:=Int.ofNat.inj (q2.symm.trans g1)
   subst this
   rcases h4 a q3 with h|h
   ·exact g2 a h q1
   ·exact h (.one q5)
  ·rcases List.mem_append.1 hj with hj|hj
   ·exact List.mem_append.2 (.inl (ih2 j hj k hk))
   ·rw[List.mem_singleton.1 hj] at hk
    rcases h4 k (TC.lt hk).1 with h|h
    ·exact List.mem_append.2 (.inl h)
    ·exact absurd hk h
theorem WRun.full{x:CatD}{hs:List Nd}{ys:List ArcD}(hM:HMay x hs)(hA:ArcsP x hs ys){out out':List Nat}(h:WRun (TC (ArcE x hs)) hs.length out)(hl:out.length=hs.length)(hT:ToldP ys hs.length out'):out=out':=by
 have h1:=(h.run hM hA).1
 have hnd:=h1.nodup
 exact ToldP.uniq ⟨h1,fun j hj=>.inl (full_mem hnd.1 hnd.2 hl hj)⟩ hT
theorem ready_ex{x:CatD}{hs:List Nd}{r:Nat->Nat}(hM:HMay x hs)(h:FairR x hs r){out:List Nat}(hl:out.length<hs.length):∃i,i<hs.length/\i∉out/\∀k,k<hs.length->k∈out\/¬TC (ArcE x hs) k i:=by
 obtain⟨i0,h0,h0'⟩:=full_miss hl
 obtain⟨m,⟨i,hi,hio,rfl⟩,hmin⟩:=least (P:=fun m=>∃i,i<hs.length/\i∉out/\r i=m) (Nat.le_refl _) ⟨i0,h0,h0',rfl⟩
 refine⟨i,hi,hio,fun k hk=>?_⟩
 by_cases hko:k∈out
 ·exact .inl hko
 ·refine .inr fun hw=>?_
  have h1:=tc_rank (fun a b e=>h.arc hM e) hw
  have h2:=hmin (r k) ⟨k,hk,hko,rfl⟩
  omega
def ArE(ys:List ArcD)(a b:Nat):Prop:=∃c:Int,((a:Int),(b:Int),c)∈ys
theorem ArcsP.are{x:CatD}{hs:List Nd}{ys:List ArcD}(hM:HMay x hs)(h:ArcsP x hs ys)(a b:Nat):ArE ys a b↔ArcE x hs a b:=exists_congr fun c=>h.mem hM _
set_option maxRecDepth 100000
theorem F116_ok(t0:Sl×List Value)(w:World)(R:RV)(h:AllocP w (Obj.cells { toList:=Qy t0.fst::t0.2 } 26) fun b1 w2=>AllocP w2 (Obj.cells #[Value.slice none 0 0,Qz 0,Qz 0,Qz 0,Qz 0,Qz 0,Qz 0,Qz 0,Qz 0,Qz 0,Qz 0,Qz 0,Qz 0,Qz 0,Qz 0,Qz 0,Qz 0] 26) fun b3 w4=>∃(x5:Sl×List Value),CellsN w4 b1 0 17 (Qy x5.fst::x5.2)/\Cx 50 #[Value.agg { toList:=Qy x5.fst::x5.2 }] w4 fun v8 w9=>∃(x10:Sl×List Value),v8=Value.agg { toList:=Qy x10.fst::x10.2 }/\AllocP w9 (Obj.cells #[Value.slice none 0 0,Qz 0,Qz 0,Qz 0,Qz 0,Qz 0,Qz 0,Qz 0,Qz 0,Qz 0,Qz 0,Qz 0,Qz 0,Qz 0,Qz 0,Qz 0,Qz 0] 26) fun b11 w12=>(Array.mk (Qy x10.fst::x10.2 )).size=17/\StoreP w12 b11 0 (Qy x10.fst::x10.2) fun w13=>∃(l14:List Value),CellsN w13 b1 (0+1) 16 l14/\(Array.mk (l14 )).size=16/\StoreP w13 b11 (0+1) l14 fun w17=>∃(x18:Sl×List Value),CellsN w17 b11 0 17 (Qy x18.fst::x18.2)/\(Array.mk (Qy x18.fst::x18.2 )).size=17/\StoreP w17 b3 0 (Qy x18.fst::x18.2) fun w21=>∃(x22:Sl×List Value),CellsN w21 b3 0 17 (Qy x22.fst::x22.2)/\R (Value.agg { toList:=Qy x22.fst::x22.2 }) w21):Cw 116 #[Value.agg { toList:=Qy t0.fst::t0.2 }] w R:=
 ckF Tryz.func116 .nil h (by kernel_rfl) (by kernel_rfl)
def F119j1(R:RV)(s3:Sl)(y4:Nat->Int->World->Prop)(b6:Nat)(n7:Int)(w8:World):Prop:=IfB (decide (n7<(s3.n:Int))) (Qx s3.1 n7 (s3.2:Int) fun b11 b12=>∃(x13:Int×Int×Int×Bool×Sl×Sl),CellsAt w8 b11 (b12+n7.toNat*6) (lC53 x13)/\AllocP w8 (Obj.cells #[Qz 0,Qz 0,Qz 0,Value.bool false,Value.slice none 0 0,Value.slice none 0 0] 53) fun b14 w15=>(lC53 x13).toArray.size=6/\StoreP w15 b14 0 (lC53 x13) fun w16=>Qs w16.drew b14 (0+4) fun s17=>Qs w16.drew b14 (0+5) fun s18=>Qu' 176 #[Qy s17] w16.drew fun s21 w20=>w20.cell? ⟨b14,0+5,none⟩=some (Qy s18)/\Qu' 176 #[Qy s18] w20 fun s24 w23=>Qx s3.1 n7 (s3.2:Int) fun b25 b26=>#[Qy s21].size=1/\StoreP w23 b25 (b26+n7.toNat*6+4) [Qy s21] fun w27=>Qx s3.1 n7 (s3.2:Int) fun b28 b29=>#[Qy s24].size=1/\StoreP w27 b28 (b29+n7.toNat*6+5) [Qy s24] fun w30=>Qn y4 b6 (IntKind.i64.wrap (n7+1)) w30) (R (Qy s3) w8)
theorem F119_ok(t0:Sl)(w:World)(R:RV)(h:Cx 96 #[Qy t0] w fun v1 w2=>∃s3:Sl,v1=Qy s3/\Ql (α:=Int) 0 w2 fun y4 b6 n7 w8=>(F119j1 R s3 y4 b6 n7 w8)):Cw 119 #[Qy t0] w R:=
 ckF Tryz.func119 (nd (nd (.node (nd (.loop [(10,oi)] (rg [4,5,10,29]) (nd (nd (.node (nd (.draw (sts [0,1,2,3,4,5,7,8] (.ac 6 [8,7,3,2,1,0] (.ac 9 [3,2,1,0] (sts [10,11] (.ac 12 [3,2] (sts [13,14] (.ac 15 [] .fin .non)) .non)) .non) .non)))) .nil))))) .nil))) h (by kernel_rfl) (by kernel_rfl)
def F174j3(t0:Int)(b1:Nat)(y29:Nat->Int->World->Prop)(b31:Nat)(n32:Int)(y36:Nat->Int->World->Prop)(b38:Nat)(n39:Int)(w40:World):Prop:=IfB (decide (n39<(t0.toNat:Int))) (Qx (some ⟨b1,0,none⟩) n39 (t0.toNat:Int) fun b43 b44=>∃(x45:Int×Int),CellsAt w40 b43 (b44+n39.toNat*2) [Value.int IntKind.u64 x45.1,Value.int IntKind.u64 x45.2]/\AllocP w40 (Obj.cells #[Value.int IntKind.u64 0,Value.int IntKind.u64 0] 147) fun b46 w47=>#[Value.int IntKind.u64 x45.1,Value.int IntKind.u64 x45.2].size=2/\StoreP w47 b46 0 [Value.int IntKind.u64 x45.1,Value.int IntKind.u64 x45.2] fun w48=>∃(x49:Int×Int),CellsAt w48 b46 0 [Value.int IntKind.u64 x49.1,Value.int IntKind.u64 x49.2]/\Qv' 129 #[Value.agg #[Value.int IntKind.u64 x49.1,Value.int IntKind.u64 x49.2],Qz n32] w48 fun t52 w51=>IfB t52 (∃(x53:Int×Int),CellsAt w51.drew b46 0 [Value.int IntKind.u64 x53.1,Value.int IntKind.u64 x53.2]/\Qx (some ⟨b1,0,none⟩) n32 (t0.toNat:Int) fun b54 b55=>∃(x56:Int×Int),CellsAt w51.drew b54 (b55+n32.toNat*2) [Value.int IntKind.u64 x56.1,Value.int IntKind.u64 x56.2]/\Cx 221 #[Value.agg #[Value.int IntKind.u64 x53.1,Value.int IntKind.u64 x53.2],Value.agg #[Value.int IntKind.u64 x56.1,Value.int IntKind.u64 x56.2]] w51.drew fun v57 w58=>∃(x59:Int×Int),v57=Value.agg #[Value.int IntKind.u64 x59.1,Value.int IntKind.u64 x59.2]/\Qx (some ⟨b1,0,none⟩) n39 (t0.toNat:Int) fun b60 b61=>#[Value.int IntKind.u64 x59.1,Value.int IntKind.u64 x59.2].size=2/\StoreP w58 b60 (b61+n39.toNat*2) [Value.int IntKind.u64 x59.1,Value.int IntKind.u64 x59.2] fun w62=>Qn y36 b38 (IntKind.i64.wrap (n39+1)) w62) (Qn y36 b38 (IntKind.i64.wrap (n39+1)) w51)) (Qn y29 b31 (IntKind.i64.wrap (n32+1)) w40)
def F174j1(t0:Int)(t1:Sl)(R:RV)(b1:Nat)(y3:Nat->Int->World->Prop)(b5:Nat)(n6:Int)(w7:World):Prop:=IfB (decide (n6<(t1.n:Int))) (Qx t1.1 n6 (t1.2:Int) fun b10 b11=>∃(x12:Int×Int×Int),CellsAt w7 b10 (b11+n6.toNat*3) (lC44 x12)/\AllocP w7 (Obj.cells #[Qz 0,Qz 0,Qz 0] 44) fun b13 w14=>(lC44 x12).toArray.size=3/\StoreP w14 b13 0 (lC44 x12) fun w15=>Qi w15.drew b13 (0+0) fun n16=>Qi w15.drew b13 (0+0) fun n17=>Qx (some ⟨b1,0,none⟩) n17 (t0.toNat:Int) fun b18 b19=>∃(x20:Int×Int),CellsAt w15.drew b18 (b19+n17.toNat*2) [Value.int IntKind.u64 x20.1,Value.int IntKind.u64 x20.2]/\Qi w15.drew b13 (0+1) fun n21=>Cx 220 #[Value.agg #[Value.int IntKind.u64 x20.1,Value.int IntKind.u64 x20.2],Qz n21] w15.drew fun v22 w23=>∃(x24:Int×Int),v22=Value.agg #[Value.int IntKind.u64 x24.1,Value.int IntKind.u64 x24.2]/\w23.cell? ⟨b13,0+0,none⟩=some (Qz n16)/\Qx (some ⟨b1,0,none⟩) n16 (t0.toNat:Int) fun b25 b26=>#[Value.int IntKind.u64 x24.1,Value.int IntKind.u64 x24.2].size=2/\StoreP w23 b25 (b26+n16.toNat*2) [Value.int IntKind.u64 x24.1,Value.int IntKind.u64 x24.2] fun w27=>Qn y3 b5 (IntKind.i64.wrap (n6+1)) w27) (Ql (α:=Int) 0 w7 fun y29 b31 n32 w33=>IfB (decide (n32<t0)) (Ql (α:=Int) 0 w33 fun y36 b38 n39 w40=>(F174j3 t0 b1 y29 b31 n32 y36 b38 n39 w40)) (R (Value.slice (some ⟨b1,0,none⟩) t0.toNat t0.toNat) w33))
theorem F174_ok(t0:Int)(t1:Sl)(w:World)(R:RV)(h:(0<=t0/\t0<=t0/\t0<=281474976710656/\((16:Nat):Int)*t0<=281474976710656)/\AllocP w (Obj.cells { toList:=zc #[Value.int IntKind.u64 0,Value.int IntKind.u64 0] t0.toNat } 147) fun b1 w2=>Ql (α:=Int) 0 w2 fun y3 b5 n6 w7=>(F174j1 t0 t1 R b1 y3 b5 n6 w7)):Cw 174 #[Qz t0,Qy t1] w R:=
 ckF Tryz.func174 (nd (nd (.node (nd (.loop [(15,oi)] (rg [7,7,15,31]) (nd (nd (.node (nd (.draw (sts [0,1,2,3,4,5,6,7,8,9] (.ac 10 [2,1,0] (.st 11 (.ac 12 [] .fin .non)) .non)))) .nil))))) (.node (nd (.loop [(33,oi)] (rg [8,10,33,56]) (nd (nd (.node (nd (nd (.loop [(38,oi)] (rg [9,10,38,55]) (nd (nd (.node (nd (nd (.node (.draw (sts [0,1,2,3,4,5,6] (.ac 7 [1,0] (.st 8 (.ac 9 [] .fin .non)) .non))) .nil))) .nil)))))) .nil))))) .nil)))) h (by kernel_rfl) (by kernel_rfl)
def F175j1(t0:Sl)(R:RV)(y1:Nat->Int->World->Prop)(b3:Nat)(n4:Int)(w5:World):Prop:=IfB (decide (n4<(t0.n:Int))) (Qx t0.1 n4 (t0.2:Int) fun b8 b9=>∃(x10:Int×Int),CellsAt w5 b8 (b9+n4.toNat*2) [Value.int IntKind.u64 x10.1,Value.int IntKind.u64 x10.2]/\AllocP w5 (Obj.cells #[Value.int IntKind.u64 0,Value.int IntKind.u64 0] 147) fun b11 w12=>#[Value.int IntKind.u64 x10.1,Value.int IntKind.u64 x10.2].size=2/\StoreP w12 b11 0 [Value.int IntKind.u64 x10.1,Value.int IntKind.u64 x10.2] fun w13=>∃(x14:Int×Int),CellsAt w13 b11 0 [Value.int IntKind.u64 x14.1,Value.int IntKind.u64 x14.2]/\Qv' 129 #[Value.agg #[Value.int IntKind.u64 x14.1,Value.int IntKind.u64 x14.2],Qz n4] w13 fun t17 w16=>IfB t17 (R (Value.bool false) w16) (Qn y1 b3 (IntKind.i64.wrap (n4+1)) w16)) (R (Value.bool true) w5)
theorem F175_ok(t0:Sl)(w:World)(R:RV)(h:Ql (α:=Int) 0 w fun y1 b3 n4 w5=>(F175j1 t0 R y1 b3 n4 w5)):Cw 175 #[Qy t0] w R:=
 ckF Tryz.func175 (nd (.node (nd (.loop [(7,oi)] (rg [2,4,7,15]) .nil)) .nil)) h (by kernel_rfl) (by kernel_rfl)
theorem F129_ok(t0:Int×Int)(t1:Int)(w:World)(R:RV)(h:AllocP w (Obj.cells #[Value.int IntKind.u64 t0.1,Value.int IntKind.u64 t0.2] 147) fun b1 w2=>¬(64:Int)=0/\(0<=IntKind.i64.wrap (t1.tdiv 64)/\IntKind.i64.wrap (t1.tdiv 64)<((2:Nat):Int))/\∃n3:Int,w2.cell? ⟨b1,0+(IntKind.i64.wrap (t1.tdiv 64)).toNat,none⟩=some (Value.int IntKind.u64 n3)/\¬(64:Int)=0/\0<=t1.tmod 64/\R (Value.bool (bitsI BinOp.and IntKind.u64 (n3.fdiv (2^min (t1.tmod 64).toNat IntKind.u64.bits)) (1:Int) == 1)) w2):Cw 129 #[Value.agg #[Value.int IntKind.u64 t0.1,Value.int IntKind.u64 t0.2],Qz t1] w R:=
 ckF Tryz.func129 .nil h (by kernel_rfl) (by kernel_rfl)
theorem F220_ok(t0:Int×Int)(t1:Int)(w:World)(R:RV)(h:AllocP w (Obj.cells #[Value.int IntKind.u64 t0.1,Value.int IntKind.u64 t0.2] 147) fun b1 w2=>AllocP w2 (Obj.cells #[Value.int IntKind.u64 0,Value.int IntKind.u64 0] 147) fun b3 w4=>¬(64:Int)=0/\(0<=IntKind.i64.wrap (t1.tdiv 64)/\IntKind.i64.wrap (t1.tdiv 64)<((2:Nat):Int))/\∃n5:Int,w4.drew.cell? ⟨b1,0+(IntKind.i64.wrap (t1.tdiv 64)).toNat,none⟩=some (Value.int IntKind.u64 n5)/\¬(64:Int)=0/\0<=t1.tmod 64/\(0<=IntKind.i64.wrap (t1.tdiv 64)/\IntKind.i64.wrap (t1.tdiv 64)<((2:Nat):Int))/\#[Value.int IntKind.u64 (bitsI BinOp.or IntKind.u64 n5 (IntKind.u64.wrap (1*2^min (t1.tmod 64).toNat IntKind.u64.bits)))].size=1/\StoreP w4.drew b1 (0+(IntKind.i64.wrap (t1.tdiv 64)).toNat) [Value.int IntKind.u64 (bitsI BinOp.or IntKind.u64 n5 (IntKind.u64.wrap (1*2^min (t1.tmod 64).toNat IntKind.u64.bits)))] fun w6=>∃(x7:Int×Int),CellsAt w6 b1 0 [Value.int IntKind.u64 x7.1,Value.int IntKind.u64 x7.2]/\#[Value.int IntKind.u64 x7.1,Value.int IntKind.u64 x7.2].size=2/\StoreP w6 b3 0 [Value.int IntKind.u64 x7.1,Value.int IntKind.u64 x7.2] fun w8=>∃(x9:Int×Int),CellsAt w8 b3 0 [Value.int IntKind.u64 x9.1,Value.int IntKind.u64 x9.2]/\R (Value.agg #[Value.int IntKind.u64 x9.1,Value.int IntKind.u64 x9.2]) w8):Cw 220 #[Value.agg #[Value.int IntKind.u64 t0.1,Value.int IntKind.u64 t0.2],Qz t1] w R:=
 ckF Tryz.func220 (nd (.node (.draw (sts [0,1,2,3,4,5,6,7,8] (.ac 9 [] .fin .non))) .nil)) h (by kernel_rfl) (by kernel_rfl)
theorem F221_ok(t0:Int×Int)(t1:Int×Int)(w:World)(R:RV)(h:AllocP w (Obj.cells #[Value.int IntKind.u64 t0.1,Value.int IntKind.u64 t0.2] 147) fun b1 w2=>AllocP w2 (Obj.cells #[Value.int IntKind.u64 t1.1,Value.int IntKind.u64 t1.2] 147) fun b3 w4=>AllocP w4 (Obj.cells #[Value.int IntKind.u64 0,Value.int IntKind.u64 0] 147) fun b5 w6=>((0:Int)<=0/\0<((2:Nat):Int))/\∃n7:Int,w6.cell? ⟨b1,0+Int.toNat 0,none⟩=some (Value.int IntKind.u64 n7)/\((0:Int)<=0/\0<((2:Nat):Int))/\∃n8:Int,w6.cell? ⟨b3,0+Int.toNat 0,none⟩=some (Value.int IntKind.u64 n8)/\((0:Int)<=1/\1<((2:Nat):Int))/\∃n9:Int,w6.cell? ⟨b1,0+Int.toNat 1,none⟩=some (Value.int IntKind.u64 n9)/\((0:Int)<=1/\1<((2:Nat):Int))/\∃n10:Int,w6.cell? ⟨b3,0+Int.toNat 1,none⟩=some (Value.int IntKind.u64 n10)/\#[Value.int IntKind.u64 (bitsI BinOp.or IntKind.u64 n7 n8),Value.int IntKind.u64 (bitsI BinOp.or IntKind.u64 n9 n10)].size=2/\StoreP w6 b5 0 [Value.int IntKind.u64 (bitsI BinOp.or IntKind.u64 n7 n8),Value.int IntKind.u64 (bitsI BinOp.or IntKind.u64 n9 n10)] fun w11=>∃(x12:Int×Int),CellsAt w11 b5 0 [Value.int IntKind.u64 x12.1,Value.int IntKind.u64 x12.2]/\R (Value.agg #[Value.int IntKind.u64 x12.1,Value.int IntKind.u64 x12.2]) w11):Cw 221 #[Value.agg #[Value.int IntKind.u64 t0.1,Value.int IntKind.u64 t0.2],Value.agg #[Value.int IntKind.u64 t1.1,Value.int IntKind.u64 t1.2]] w R:=
 ckF Tryz.func221 .nil h (by kernel_rfl) (by kernel_rfl)
def F117k1(t0:Option Addr)(w21:World)(s13:Sl)(R:RV):Prop:=∃b23:Nat,∃b24:Nat,t0=some ⟨b23,b24,none⟩/\∃(x25:Sl×List Value),CellsN w21 b23 (b24+0) 17 (Qy x25.fst::x25.2)/\Qu' 30 #[Value.agg { toList:=Qy x25.fst::x25.2 },Qy s13] w21 fun s30 w29=>Qu' 174 #[Qz (s13.2:Int),Qy s30] w29 fun s33 w32=>Qv' 175 #[Qy s33] w32 fun t36 w35=>IfB (!t36) (R (Value.tuple #[Value.slice none 0 0,Qz 11]) w35) (R (Value.tuple #[Qy s33,Qz 0]) w35)
def F117k2(t0:Option Addr)(w2:World)(b1:Nat)(R:RV):Prop:=∃b3:Nat,∃b4:Nat,t0=some ⟨b3,b4,none⟩/\Qs w2.drew b3 (b4+17) fun s5=>∃(x6:Int×Int×Int×Bool×Sl×Sl),CellsAt w2.drew b1 0 (lC53 x6)/\(Qu' 96 #[Qy s5] w2.drew fun s9 w8=>CellsAt w8 b1 0 (lC53 x6)/\1*6<=16777216/\AllocP w8 (Obj.cells (lC53 x6).toArray 53) fun b10 w11=>∃(l12:List Value),ReadC w11 (some ⟨b10,0,none⟩) (1*6) l12/\AppendP tt53 53 w11 s9.1 s9.2 s9.3 1 l12 fun s13 w14=>∃b15:Nat,∃b16:Nat,t0=some ⟨b15,b16,none⟩/\∃(x17:Sl×List Value),CellsN w14 b15 (b16+0) 17 (Qy x17.fst::x17.2)/\Qv' 84 #[Value.agg { toList:=Qy x17.fst::x17.2 },Qy s13] w14 fun t22 w21=>IfB (!t22) (R (Value.tuple #[Value.slice none 0 0,Qz 1]) w21) (F117k1 t0 w21 s13 R))/\1*6<=16777216/\AllocP w2.drew (Obj.cells (lC53 x6).toArray 53) fun b37 w38=>w38.cell? ⟨b3,b4+17,none⟩=some (Qy s5)/\Qu' 96 #[Qy s5] w38 fun s41 w40=>∃(l42:List Value),ReadC w40 (some ⟨b37,0,none⟩) (1*6) l42/\AppendP tt53 53 w40 s41.1 s41.2 s41.3 1 l42 fun s43 w44=>∃b45:Nat,∃b46:Nat,t0=some ⟨b45,b46,none⟩/\∃(x47:Sl×List Value),CellsN w44 b45 (b46+0) 17 (Qy x47.fst::x47.2)/\Qv' 84 #[Value.agg { toList:=Qy x47.fst::x47.2 },Qy s43] w44 fun t52 w51=>IfB (!t52) (R (Value.tuple #[Value.slice none 0 0,Qz 1]) w51) (F117k1 t0 w51 s43 R)
theorem F117_ok(t0:Option Addr)(t1:Int×Int×Int×Bool×Sl×Sl)(w:World)(R:RV)(h:AllocP w (Obj.cells (lC53 t1).toArray 53) fun b1 w2=>IfB t0.isNone (R (Value.tuple #[Value.slice none 0 0,Qz 1]) w2) (F117k2 t0 w2 b1 R)):Cw 117 #[Value.pointer t0,(.agg (lC53 t1).toArray)] w R:=
 ckF Tryz.func117 (nd (nd (.node (.draw (sts [0,1,2,3,5] (.ac 4 [5] (.ac 6 [] (.ac 7 [] (.st 8 .fin) .non) .non) (.ac 6 [3,2,1,0] (.ac 4 [] (.ac 7 [] (.st 8 .fin) .non) .non) .non)))) .nil))) h (by kernel_rfl) (by kernel_rfl)
def F56k1(t0:Option Addr)(w5:World)(b1:Nat)(x6:Sl×Int)(R:RV):Prop:=∃b7:Nat,∃b8:Nat,t0=some ⟨b7,b8,none⟩/\Qs w5.drew b7 (b8+18) fun s9=>∃b10:Nat,∃b11:Nat,t0=some ⟨b10,b11,none⟩/\Qs w5.drew b10 (b11+17) fun s12=>∃(x13:Int×Int×Int×Bool×Sl×Sl),CellsAt w5.drew b1 0 (lC53 x13)/\Qu' 118 #[Qy s9,Qy s12,Value.agg (lC53 x13).toArray] w5.drew fun s16 w15=>∃b17:Nat,∃b18:Nat,t0=some ⟨b17,b18,none⟩/\#[Qy s16].size=1/\StoreP w15 b17 (b18+18) [Qy s16] fun w19=>∃b20:Nat,∃b21:Nat,t0=some ⟨b20,b21,none⟩/\Qs w19.drew b20 (b21+17) fun s22=>∃(x23:Int×Int×Int×Bool×Sl×Sl),CellsAt w19.drew b1 0 (lC53 x23)/\1*6<=16777216/\AllocP w19.drew (Obj.cells (lC53 x23).toArray 53) fun b24 w25=>w25.cell? ⟨b20,b21+17,none⟩=some (Qy s22)/\Qu' 119 #[Value.slice (some ⟨b24,0,none⟩) 1 1] w25 fun s28 w27=>w27.cell? ⟨b20,b21+17,none⟩=some (Qy s22)/\∃(l29:List Value),ReadC w27 s28.1 (s28.2*6) l29/\AppendP tt53 53 w27 s22.1 s22.2 s22.3 s28.2 l29 fun s30 w31=>∃b32:Nat,∃b33:Nat,t0=some ⟨b32,b33,none⟩/\#[Qy s30].size=1/\StoreP w31 b32 (b33+17) [Qy s30] fun w34=>∃b35:Nat,∃b36:Nat,t0=some ⟨b35,b36,none⟩/\#[Qy x6.fst].size=1/\StoreP w34 b35 (b36+19) [Qy x6.fst] fun w37=>R (Qz 0) w37
theorem F56_ok(t0:Option Addr)(t1:Int×Int×Int×Bool×Sl×Sl)(w:World)(R:RV)(h:AllocP w (Obj.cells (lC53 t1).toArray 53) fun b1 w2=>∃(x3:Int×Int×Int×Bool×Sl×Sl),CellsAt w2 b1 0 (lC53 x3)/\Cx 117 #[Value.pointer t0,Value.agg (lC53 x3).toArray] w2 fun v4 w5=>∃(x6:Sl×Int),v4=Value.tuple #[Qy x6.fst,Qz x6.2]/\IfB (x6.2 != 0) (R (Qz x6.2) w5) (F56k1 t0 w5 b1 x6 R)):Cw 56 #[Value.pointer t0,(.agg (lC53 t1).toArray)] w R:=
 ckF Tryz.func56 (nd (nd (nd (.node (.draw (sts [0,1,2,3,4,5,6,7,8,9] (.ac 10 [0] (sts [11,12] (.ac 13 [] .fin .non)) .non))) (.node (.draw (sts [0,1,2,3,4,5,6,10] (.ac 7 [10,5,4,3,2,1,0] (.ac 8 [10,5,4,3,2,1,0] (.ac 9 [10,1,0] (sts [11,12] (.ac 13 [10,1] (sts [14,15] (.ac 16 [] .fin .non)) .non)) .non) .non) .non))) .nil))))) h (by kernel_rfl) (by kernel_rfl)
theorem F65_ok(t0:Option Addr)(w:World)(R:RV)(h:IfB t0.isNone (R (Value.slice none 0 0) w) (∃b1:Nat,∃b2:Nat,t0=some ⟨b1,b2,none⟩/\∃s3:Sl,w.cell? ⟨b1,b2+17,none⟩=some (Qy s3)/\Cx 119 #[Qy s3] w fun v4 w5=>∃s6:Sl,v4=Qy s6/\R (Qy s6) w5)):Cw 65 #[Value.pointer t0] w R:=
 ckF Tryz.func65 .nil h (by kernel_rfl) (by kernel_rfl)
theorem F66_ok(t0:Option Addr)(w:World)(R:RV)(h:IfB t0.isNone (R (Value.slice none 0 0) w) (∃b1:Nat,∃b2:Nat,t0=some ⟨b1,b2,none⟩/\∃(x3:Sl×List Value),CellsN w.drew b1 (b2+0) 17 (Qy x3.fst::x3.2)/\∃b6:Nat,∃b7:Nat,t0=some ⟨b6,b7,none⟩/\∃s8:Sl,w.drew.cell? ⟨b6,b7+17,none⟩=some (Qy s8)/\Cx 37 #[Value.agg { toList:=Qy x3.fst::x3.2 },Qy s8] w.drew fun v9 w10=>∃s11:Sl,v9=Qy s11/\R (Qy s11) w10)):Cw 66 #[Value.pointer t0] w R:=
 ckF Tryz.func66 (nd (nd (.node (.draw (sts [0,1,2,3,4,5,6,7] (.ac 8 [] (.st 9 .fin) .non))) .nil))) h (by kernel_rfl) (by kernel_rfl)
theorem F67_ok(t0:Option Addr)(t1:Int)(w:World)(R:RV)(h:Cx 128 #[Value.pointer t0,Qz t1] w fun v1 w2=>∃t3:Bool,v1=Value.bool t3/\IfB (!t3) (R (Value.slice none 0 0) w2) (∃b4:Nat,∃b5:Nat,t0=some ⟨b4,b5,none⟩/\Qs w2 b4 (b5+18) fun s6=>Qx s6.1 t1 (s6.2:Int) fun b7 b8=>Qs w2 b7 (b8+t1.toNat) fun s9=>Qu' 111 #[Qy s9] w2 fun s12 w11=>R (Qy s12) w11)):Cw 67 #[Value.pointer t0,Qz t1] w R:=
 ckF Tryz.func67 .nil h (by kernel_rfl) (by kernel_rfl)
theorem F68_ok(t0:Option Addr)(t1:Int)(t2:Int)(w:World)(R:RV)(h:Cx 128 #[Value.pointer t0,Qz t1] w fun v1 w2=>∃t3:Bool,v1=Value.bool t3/\IfB t3 (Qv' 128 #[Value.pointer t0,Qz t2] w2 fun t6 w5=>IfB t6 (∃b7:Nat,∃b8:Nat,t0=some ⟨b7,b8,none⟩/\Qs w5 b7 (b8+19) fun s9=>Qx s9.1 t1 (s9.2:Int) fun b10 b11=>∃(x12:Int×Int),CellsAt w5 b10 (b11+t1.toNat*2) [Value.int IntKind.u64 x12.1,Value.int IntKind.u64 x12.2]/\Qv' 129 #[Value.agg #[Value.int IntKind.u64 x12.1,Value.int IntKind.u64 x12.2],Qz t2] w5 fun t15 w14=>R (Value.bool t15) w14) (R (Value.bool false) w5)) (R (Value.bool false) w2)):Cw 68 #[Value.pointer t0,Qz t1,Qz t2] w R:=
 ckF Tryz.func68 .nil h (by kernel_rfl) (by kernel_rfl)
theorem F128_ok(t0:Option Addr)(t1:Int)(w:World)(R:RV)(h:IfB (!t0.isNone) (IfB (decide (0<=t1)) (∃b1:Nat,∃b2:Nat,t0=some ⟨b1,b2,none⟩/\∃s3:Sl,w.cell? ⟨b1,b2+17,none⟩=some (Qy s3)/\R (Value.bool (decide (t1<(s3.n:Int)))) w) (R (Value.bool false) w)) (R (Value.bool false) w)):Cw 128 #[Value.pointer t0,Qz t1] w R:=
 ckF Tryz.func128 .nil h (by kernel_rfl) (by kernel_rfl)
def F60j1(R:RV)(b1:Nat)(s5:Sl)(y6:Nat->Int->World->Prop)(b8:Nat)(n9:Int)(w10:World):Prop:=IfB (decide (n9<(s5.n:Int))) (Qx s5.1 n9 (s5.2:Int) fun b13 b14=>∃(x15:Int×Int×Int×Bool×Sl×Sl),CellsAt w10 b13 (b14+n9.toNat*6) (lC53 x15)/\AllocP w10 (Obj.cells #[Qz 0,Qz 0,Qz 0,Value.bool false,Value.slice none 0 0,Value.slice none 0 0] 53) fun b16 w17=>(lC53 x15).toArray.size=6/\StoreP w17 b16 0 (lC53 x15) fun w18=>Qi w18 b16 (0+0) fun n19=>MapSetP (TypeDesc.int IntKind.i64) w18 (Value.map (some b1)) (Qz n19) (Value.bool true) fun w20=>Qn y6 b8 (IntKind.i64.wrap (n9+1)) w20) (Cx 124 #[Value.map (some b1)] w10 fun v22 w23=>∃(x24:Nat×Array Value),v22=Value.func (Fn.func x24.1) #[] x24.2/\Qu' 123 #[Value.func (Fn.func x24.1) #[] x24.2] w23 fun s27 w26=>R (Qy s27) w26)
theorem F60_ok(t0:Option Addr)(w:World)(R:RV)(h:AllocP w (Obj.map #[] 0) fun b1 w2=>Qu' 65 #[Value.pointer t0] w2 fun s5 w4=>Ql (α:=Int) 0 w4 fun y6 b8 n9 w10=>(F60j1 R b1 s5 y6 b8 n9 w10)):Cw 60 #[Value.pointer t0] w R:=
 ckF Tryz.func60 (nd (nd (.node (nd (.loop [(10,oi)] (rg [5,5,10,17]) .nil)) .nil))) h (by kernel_rfl) (by kernel_rfl)
theorem F61_ok(t0:Option Addr)(t1:Nat×Array Value)(w:World)(R:RV)(h:AllocP w (Obj.cells #[Value.func (Fn.func t1.1) #[] t1.2] 74) fun b1 w2=>IfB t0.isNone (R (Value.tuple #[Value.pointer none,Value.bool false]) w2) (∃b3:Nat,∃b4:Nat,t0=some ⟨b3,b4,none⟩/\∃(x5:Sl×List Value),CellsN w2 b3 (b4+0) 17 (Qy x5.fst::x5.2)/\Cx 54 #[Value.agg { toList:=Qy x5.fst::x5.2 }] w2 fun v8 w9=>∃(p10:Option Addr),v8=Value.pointer p10/\∃b11:Nat,∃b12:Nat,t0=some ⟨b11,b12,none⟩/\Qs w9 b11 (b12+17) fun s13=>Qu' 96 #[Qy s13] w9 fun s16 w15=>Qu' 125 #[Qy s16,Value.func (Fn.func 126) #[] #[Value.pointer (some ⟨b1,0,none⟩)]] w15 fun s19 w18=>Qv' 127 #[Qy s19,Value.func (Fn.func 56) #[Value.pointer p10] #[]] w18 fun t22 w21=>IfB (!t22) (R (Value.tuple #[Value.pointer none,Value.bool false]) w21) (R (Value.tuple #[Value.pointer p10,Value.bool true]) w21))):Cw 61 #[Value.pointer t0,Value.func (Fn.func t1.1) #[] t1.2] w R:=
 ckF Tryz.func61 .nil h (by kernel_rfl) (by kernel_rfl)
theorem F126_ok(t0:Int×Int×Int×Bool×Sl×Sl)(t1:Nat)(w:World)(R:RV)(h:AllocP w (Obj.cells (lC53 t0).toArray 53) fun b1 w2=>∃(x3:Nat×Array Value),w2.cell? ⟨t1,0,none⟩=some (Value.func (Fn.func x3.1) #[] x3.2)/\Qi w2 b1 (0+0) fun n4=>Cx x3.1 { toList:=Qz n4::x3.snd.1 } w2 fun v5 w6=>∃t7:Bool,v5=Value.bool t7/\R (Value.bool !t7) w6):Cw 126 #[(.agg (lC53 t0).toArray),Value.pointer (some ⟨t1,0,none⟩)] w R:=
 ckF Tryz.func126 .nil h (by kernel_rfl) (by kernel_rfl)
def F120(t0:Sl)(w:World)(R:RV):Prop:=IfB t0.1.isNone (R (Value.slice none 0 0) w) (0*1<=16777216/\AllocP w (Obj.cells #[] 30) fun b1 w2=>∃(l3:List Value),ReadC w2 t0.1 (t0.2*1) l3/\AppendP tt30 30 w2 (some ⟨b1,0,none⟩) 0 0 t0.2 l3 fun s4 w5=>R (Qy s4) w5)
theorem F120_ok(t0:Sl)(w:World)(R:RV)(h:F120 t0 w R):Cw 120 #[Qy t0] w R:=
 ckF Tryz.func120 .nil h (by kernel_rfl) (by kernel_rfl)
def F121(t0:Sl)(w:World)(R:RV):Prop:=IfB t0.1.isNone (R (Value.slice none 0 0) w) (0*2<=16777216/\AllocP w (Obj.cells #[] 147) fun b1 w2=>∃(l3:List Value),ReadC w2 t0.1 (t0.2*2) l3/\AppendP tt147 147 w2 (some ⟨b1,0,none⟩) 0 0 t0.2 l3 fun s4 w5=>R (Qy s4) w5)
theorem F121_ok(t0:Sl)(w:World)(R:RV)(h:F121 t0 w R):Cw 121 #[Qy t0] w R:=
 ckF Tryz.func121 .nil h (by kernel_rfl) (by kernel_rfl)
def F176(t0:Sl)(w:World)(R:RV):Prop:=IfB t0.1.isNone (R (Value.slice none 0 0) w) (0*2<=16777216/\AllocP w (Obj.cells #[] 101) fun b1 w2=>∃(l3:List Value),ReadC w2 t0.1 (t0.2*2) l3/\AppendP tt101 101 w2 (some ⟨b1,0,none⟩) 0 0 t0.2 l3 fun s4 w5=>R (Qy s4) w5)
theorem F176_ok(t0:Sl)(w:World)(R:RV)(h:F176 t0 w R):Cw 176 #[Qy t0] w R:=
 ckF Tryz.func176 .nil h (by kernel_rfl) (by kernel_rfl)
def F125k1(t0:Sl)(x7:Int×Int)(w8:World)(t1:Nat×Array Value)(b6:Nat)(y4:Nat->Int×Int->World->Prop):Prop:=Qx t0.1 x7.2 (t0.2:Int) fun b11 b12=>∃(x13:Int×Int×Int×Bool×Sl×Sl),CellsAt w8 b11 (b12+x7.2.toNat*6) (lC53 x13)/\AllocP w8 (Obj.cells #[Qz 0,Qz 0,Qz 0,Value.bool false,Value.slice none 0 0,Value.slice none 0 0] 53) fun b14 w15=>(lC53 x13).toArray.size=6/\StoreP w15 b14 0 (lC53 x13) fun w16=>∃(x17:Int×Int×Int×Bool×Sl×Sl),CellsAt w16 b14 0 (lC53 x17)/\Cx t1.1 { toList:=(.agg (lC53 x17).toArray)::t1.snd.1 } w16 fun v18 w19=>∃t20:Bool,v18=Value.bool t20/\IfB (!t20) (∃(x21:Int×Int×Int×Bool×Sl×Sl),CellsAt w19 b14 0 (lC53 x21)/\Qx t0.1 x7.1 (t0.2:Int) fun b22 b23=>(lC53 x21).toArray.size=6/\StoreP w19 b22 (b23+x7.1.toNat*6) (lC53 x21) fun w24=>Qn y4 b6 (IntKind.i64.wrap (x7.1+1),IntKind.i64.wrap (x7.2+1)) w24) (Qn y4 b6 (x7.1,IntKind.i64.wrap (x7.2+1)) w19)
def F125j1(t0:Sl)(t1:Nat×Array Value)(R:RV)(y4:Nat->Int×Int->World->Prop)(b6:Nat)(x7:Int×Int)(w8:World):Prop:=IfB (decide (x7.snd<(t0.n:Int))) (F125k1 t0 x7 w8 t1 b6 y4) ((0<=x7.1/\x7.1<=(t0.2:Int))/\match slAddr t0.1 t0.3 x7.1.toNat 6 with|none=>(0<=x7.1/\x7.1<=(t0.3:Int))/\R (Value.slice (slAddr t0.1 t0.3 0 6) x7.1.toNat t0.3) w8|some ({ block:=b28,off:=b29,spot:=none }:Addr)=>StoreP w8 b28 b29 (zc #[Qz 0,Qz 0,Qz 0,Value.bool false,Value.slice none 0 0,Value.slice none 0 0] (t0.2-x7.1.toNat)) fun w30=>(0<=x7.1/\x7.1<=(t0.3:Int))/\R (Value.slice (slAddr t0.1 t0.3 0 6) x7.1.toNat t0.3) w30|some y31=>False)
theorem F125_ok(t0:Sl)(t1:Nat×Array Value)(w:World)(R:RV)(h:Cx 181 #[Qy t0,Value.func (Fn.func t1.1) #[] t1.2] w fun v1 w2=>∃n3:Int,v1=Qz n3/\IfB (n3 == (-1:Int)) (R (Qy t0) w2) (Ql (α:=Int×Int) (n3,IntKind.i64.wrap (n3+1)) w2 fun y4 b6 x7 w8=>(F125j1 t0 t1 R y4 b6 x7 w8))):Cw 125 #[Qy t0,Value.func (Fn.func t1.1) #[] t1.2] w R:=
 ckF Tryz.func125 (nd (nd (nd (.node (nd (.loop [(5,oi),(6,oi)] (rg [5,7,16,35]) .nil)) .nil)))) h (by kernel_rfl) (by kernel_rfl)
def F181j1(t0:Sl)(t1:Nat×Array Value)(R:RV)(y1:Nat->Int->World->Prop)(b3:Nat)(n4:Int)(w5:World):Prop:=IfB (decide (n4<(t0.n:Int))) (Qx t0.1 n4 (t0.2:Int) fun b8 b9=>∃(x10:Int×Int×Int×Bool×Sl×Sl),CellsAt w5 b8 (b9+n4.toNat*6) (lC53 x10)/\Cx t1.1 { toList:=(.agg (lC53 x10).toArray)::t1.snd.1 } w5 fun v11 w12=>∃t13:Bool,v11=Value.bool t13/\IfB t13 (R (Qz n4) w12) (Qn y1 b3 (IntKind.i64.wrap (n4+1)) w12)) (R (Qz (-1:Int)) w5)
def F181(t0:Sl)(t1:Nat×Array Value)(w:World)(R:RV):Prop:=Ql (α:=Int) 0 w fun y1 b3 n4 w5=>(F181j1 t0 t1 R y1 b3 n4 w5)
theorem F181_ok(t0:Sl)(t1:Nat×Array Value)(w:World)(R:RV)(h:F181 t0 t1 w R):Cw 181 #[Qy t0,Value.func (Fn.func t1.1) #[] t1.2] w R:=
 ckF Tryz.func181 (nd (.node (nd (.loop [(8,oi)] (rg [4,5,8,18]) .nil)) .nil)) h (by kernel_rfl) (by kernel_rfl)
theorem F182_ok(t0:Sl)(t1:Nat×Array Value)(w:World)(R:RV)(h:Cx 181 #[Qy t0,Value.func (Fn.func t1.1) #[] t1.2] w fun v1 w2=>∃n3:Int,v1=Qz n3/\R (Value.bool (decide (0<=n3))) w2):Cw 182 #[Qy t0,Value.func (Fn.func t1.1) #[] t1.2] w R:=
 ckF Tryz.func182 .nil h (by kernel_rfl) (by kernel_rfl)
theorem bvU{a:Nat}(ha:a<2^64):(BitVec.ofInt 64 (a:Int)).toNat=a:=by
 rw[BitVec.toNat_ofInt]
 have h64:((2^64:Nat):Int)=18446744073709551616:=rfl
 rw[Int.emod_eq_of_lt (by omega) (by omega),Int.toNat_natCast]
theorem andU{a b:Nat}(ha:a<2^64)(hb:b<2^64):bitsI .and .u64 (a:Int) (b:Int)=((a &&& b:Nat):Int):=by
 show IntKind.u64.wrap (((BitVec.ofInt 64 (a:Int) &&& BitVec.ofInt 64 (b:Int)).toNat:Nat):Int)=_
 rw[BitVec.toNat_and,bvU ha,bvU hb]
 exact wu64 (Nat.and_lt_two_pow _ hb)
theorem orU{a b:Nat}(ha:a<2^64)(hb:b<2^64):bitsI .or .u64 (a:Int) (b:Int)=((a ||| b:Nat):Int):=by
 show IntKind.u64.wrap (((BitVec.ofInt 64 (a:Int) ||| BitVec.ofInt 64 (b:Int)).toNat:Nat):Int)=_
 rw[BitVec.toNat_or,bvU ha,bvU hb]
 exact wu64 (Nat.or_lt_two_pow ha hb)
theorem fdivU(a i:Nat):Int.fdiv (a:Int) (2^i)=((a/2^i:Nat):Int):=by
 rw[Int.fdiv_eq_ediv_of_nonneg _ (by have:=(pow_range (Nat.le_refl i)).1;omega),Int.natCast_ediv,Int.natCast_pow];rfl
theorem powU(i:Nat):(1:Int)*2^i=((2^i:Nat):Int):=by rw[Int.one_mul,Int.natCast_pow];rfl
theorem word{i:Nat}(hi:i<64):IntKind.i64.wrap ((i:Int).tdiv 64)=0/\(i:Int).tmod 64=(i:Int):=by
 have h1:(i:Int).tdiv 64=0:=by
  show ((i/64:Nat):Int)=0
  rw[Nat.div_eq_of_lt hi];rfl
 have h2:(i:Int).tmod 64=(i:Int):=by
  show ((i%64:Nat):Int)=(i:Int)
  rw[Nat.mod_eq_of_lt hi]
 exact⟨by rw[h1];decide,h2⟩
abbrev setC(m:Nat):List Value:=[.int .u64 (m:Int),.int .u64 0]
abbrev setP(m:Nat):Int×Int:=((m:Int),0)
theorem setC_len(m:Nat):(setC m).length=2:=rfl
theorem setC_one(m:Nat):One (setC m):=by intro v hv;simp at hv;rcases hv with rfl|rfl<;>rfl
theorem boxTwo{w w':World}{b:Nat}{x y:Value}{T:TypeId}(h:w.heap[b]? =some (.cells #[x,y] T (0,0)))(e:Ext w w'):CellsAt w' b 0 [x,y]:=boxAll (cs:=[x,y]) h e
theorem c129{m i:Nat}(hm:m<2^64)(hi:i<64)(w:World):Cw 129 #[.agg #[.int .u64 (m:Int),.int .u64 0],iv (i:Int)] w fun v w'=>v=.bool (m.testBit i)/\Ext w w':=by
 obtain⟨hw,hr⟩:=word hi
 refine F129_ok (setP m) (i:Int) w _ fun b1 w2 a2=>?_
 rw[hw,hr]
 refine⟨by decide,⟨by decide,by decide⟩,(m:Int),boxAt (cs:=setC m) a2.new 0 (Ch.refl _ _),by decide,by omega,?_,a2.ch _⟩
 congr 1
 rw[Int.toNat_natCast,Nat.min_eq_left (by show i<=64;omega),fdivU]
 have hd:m/2^i<2^64:=Nat.lt_of_le_of_lt (Nat.div_le_self _ _) hm
 have:=andU hd (show 1<2^64 by decide)
 rw[show ((1:Nat):Int)=1 from rfl] at this
 rw[this,Nat.and_one_is_mod,Nat.testBit_eq_decide_div_mod_eq,Bool.eq_iff_iff,beq_iff_eq,decide_eq_true_eq]
 omega
theorem c220{m i:Nat}(hm:m<2^64)(hi:i<64)(w:World):Cw 220 #[.agg #[.int .u64 (m:Int),.int .u64 0],iv (i:Int)] w fun v w'=>v=.agg #[.int .u64 ((m ||| 2^i:Nat):Int),.int .u64 0]/\Ext w w':=by
 obtain⟨hw,hr⟩:=word hi
 refine F220_ok (setP m) (i:Int) w _ fun b1 w2 a2 b3 w4 a4=>?_
 have e2:Ext w w2:=a2.ch _
 have e4:Ext w2 w4:=a4.ch _
 have ed:=extDrew w4
 have p2:=a2.here;have p4:=a4.here;have z2:=a2.size;have z4:=a4.size
 rw[hw,hr]
 refine⟨by decide,⟨by decide,by decide⟩,(m:Int),boxAt (cs:=setC m) a2.new 0 (e4.trans ed),by decide,by omega,⟨by decide,by decide⟩,rfl,?_⟩
 have h2:2^i<2^64:=Nat.pow_lt_pow_right (by decide) hi
 rw[Int.toNat_natCast,Nat.min_eq_left (by show i<=64;omega),powU,wu64 h2,orU hm h2]
 refine storeC (Ext.at (e4.trans ed) a2.new) (by simp) (by simp) (by intro y hy;rw[List.mem_singleton.1 hy];rfl) fun w6 h6 c6=>?_
 have H6:w6.heap[b1]? =some (.cells #[.int .u64 ((m ||| 2^i:Nat):Int),.int .u64 0] 147 (0,0)):=h6
 refine⟨setP (m ||| 2^i),boxTwo H6 (Ch.refl _ _),rfl,store_all (vs:=setC (m ||| 2^i)) (c6.at (ed.at a4.new) (by omega)) rfl (setC_one _) fun w8 u8=>⟨setP (m ||| 2^i),boxAll (cs:=setC (m ||| 2^i)) u8.new (Ch.refl _ _),rfl,?_⟩⟩
 have z6:=c6.size
 exact(((e2.trans e4).trans ed).chN c6 fun j e=>by omega).chN u8.ch fun j e=>by omega
theorem c221{m k:Nat}(hm:m<2^64)(hk:k<2^64)(w:World):Cw 221 #[.agg #[.int .u64 (m:Int),.int .u64 0],.agg #[.int .u64 (k:Int),.int .u64 0]] w fun v w'=>v=.agg #[.int .u64 ((m ||| k:Nat):Int),.int .u64 0]/\Ext w w':=by
 refine F221_ok (setP m) (setP k) w _ fun b1 w2 a2 b3 w4 a4 b5 w6 a6=>?_
 have e2:Ext w w2:=a2.ch _
 have e4:Ext w2 w4:=a4.ch _
 have e6:Ext w4 w6:=a6.ch _
 have E6:=(e2.trans e4).trans e6
 have q1:=fun(j:Nat)=>boxAt (cs:=setC m) a2.new j (e4.trans e6)
 have q3:=fun(j:Nat)=>boxAt (cs:=setC k) a4.new j e6
 have p6:=a6.here;have z6:=a6.size;have z:=(e2.trans e4).size
 refine⟨⟨by decide,by decide⟩,_,q1 0,⟨by decide,by decide⟩,_,q3 0,⟨by decide,by decide⟩,_,q1 1,⟨by decide,by decide⟩,_,q3 1,rfl,?_⟩
 have h0:bitsI .or .u64 0 0=0:=by
  have:=orU (a:=0) (b:=0) (by decide) (by decide)
  exact this
 rw[orU hm hk,h0]
 exact store_all (vs:=setC (m ||| k)) a6.new rfl (setC_one _) fun w11 u11=>⟨setP (m ||| k),boxAll (cs:=setC (m ||| k)) u11.new (Ch.refl _ _),rfl,E6.chN u11.ch fun j e=>by omega⟩
theorem c175{w:World}{t:Sl}{ms:List Nat}(h:Rd w t 2 (ms.flatMap setC))(hl:ms.length<=60)(hm:∀m∈ms,m<2^64):
  Cw 175 #[slV t] w fun v w'=>∃b,v=.bool b/\(b=true↔∀(i:Nat) m,ms[i]? =some m->m.testBit i=false)/\Ext w w':=by
 have hn:=rdN setC_len (by omega) h
 refine F175_ok t w _ ⟨fun k z W=>∃i:Nat,i<=ms.length/\k+i=ms.length/\z=(i:Int)/\(∀(j:Nat) m,j<i->ms[j]? =some m->m.testBit j=false)/\Ext w W,⟨ms.length,0,Nat.zero_le _,rfl,rfl,fun j m hj=>absurd hj (Nat.not_lt_zero _),Ch.refl _ _⟩,?_⟩
 rintro k _ W g ⟨i,hi,hki,rfl,hlow,eW⟩
 unfold F175j1
 refine IfB.dec (fun hlt=>?_) fun hge=>⟨true,rfl,⟨fun _ j m hj=>hlow j m (by have:=(List.getElem?_eq_some_iff.1 hj).1;omega) hj,fun _=>rfl⟩,eW⟩
 have hi':i<ms.length:=by omega
 have hx:ms[i]? =some ms[i]:=List.getElem?_eq_getElem hi'
 have hxm:=hm _ (List.getElem_mem hi')
 generalize ms[i]=m at hx hxm
 obtain⟨b,o,hp,hc⟩:=(h.ext eW).elem (i:=i) (by omega) (by omega) (flatGet setC_len hx)
 refine⟨b,o,hp,⟨by omega,hlt⟩,setP m,by rw[Int.toNat_natCast];exact hc,fun b11 w12 a12=>⟨rfl,store_all (vs:=setC m) a12.new rfl (setC_one m) fun w13 u13=>?_⟩⟩
 have e13:Ext W w13:=Ext.fresh a12 u13
 refine⟨setP m,boxAll (cs:=setC m) u13.new (Ch.refl _ _),(c129 hxm (by omega) w13).use ?_⟩
 rintro _ w16 ⟨rfl,e16⟩
 have E16:=(eW.trans e13).trans e16
 refine⟨_,rfl,IfB.intro (fun h1=>⟨false,rfl,⟨fun h=>(by cases h),fun h=>?_⟩,E16⟩) fun h1=>⟨(by trivial),k-1,by omega,i+1,hi',by omega,by rw[wrap_of (by omega) (by omega)];rfl,fun j m' hj hm'=>?_,E16⟩⟩
 ·rw[h i m hx] at h1;cases h1
 ·rcases Nat.lt_or_ge j i with h'|h'
  ·exact hlow j m' h' hm'
  ·have:j=i:=by omega
   subst this
   rw[hx] at hm';cases hm';exact h1
theorem setQ0(n:Nat):zc #[.int .u64 0,.int .u64 0] n=(List.replicate n 0).flatMap setC:=by
 rw[zc_all (v:=.int .u64 0) (by intro x hx;simpa using hx)]
 induction n with
 | zero=>rfl
 | succ n ih=>
  rw[List.replicate_succ,List.flatMap_cons,<-ih]
  show List.replicate ((n+1)*2) _=[_,_]++List.replicate (n*2) _
  rw[show (n+1)*2=n*2+1+1 by omega,List.replicate_succ,List.replicate_succ];rfl
theorem c174{w:World}{t:Sl}{arcs:List ArcD}{n:Nat}(hR:Rd w t 3 (arcs.flatMap aC))(hl:arcs.length<=1000000)(hn:n<=60)(hft:∀e∈arcs,∃a b:Nat,e.1=(a:Int)/\e.2.1=(b:Int)/\a<n/\b<n):
  Cw 174 #[iv (n:Int),slV t] w fun v w'=>∃(s:Sl)(ms:List Nat),v=slV s/\OwS w' s 2 (ms.flatMap setC)/\ms.length=n/\(∀m∈ms,m<2^64)/\(∀(i j:Nat) m,ms[i]? =some m->(m.testBit j=true↔TC (ArE arcs) i j))/\Ext w w'/\∀j∈blk s,w.heap.size<=j:=by
 have htn:=rdN aC_len (by omega) hR
 refine F174_ok (n:Int) t w _ ⟨⟨by omega,by omega,by omega,by omega⟩,fun b1 w2 a2=>?_⟩
 rw[Int.toNat_natCast,setQ0] at a2
 have e2:Ext w w2:=a2.ch _
 have p2:=a2.here;have z2:=a2.size
 have hb1:∀ {W:World},Ext w2 W->b1<W.heap.size:=fun e=>by have:=e.size;omega
 have ho0:OwS w2 ⟨some ⟨b1,0,none⟩,n,n⟩ 2 ((List.replicate n 0).flatMap setC):=OwS.new a2 (by rw[flatLen setC_len,List.length_replicate])
 have set:∀ {W:World}{ms:List Nat}{i k:Nat}{K:World->Prop},OwS W ⟨some ⟨b1,0,none⟩,n,n⟩ 2 (ms.flatMap setC)->ms.length=n->i<n->(∀w',OwS w' ⟨some ⟨b1,0,none⟩,n,n⟩ 2 ((ms.set i k).flatMap setC)->Ch (fun j=>j=b1) W w'->K w')->StoreP W b1 (i*2) (setC k) K:=fun ho hml hi hK=>by
  refine ho.store rfl (by rw[setC_len];show _<=n*2;omega) (setC_one _) fun w' ho' hC'=>hK w' ?_ hC'
  rw[setC_len,flatSet setC_len (by omega)] at ho'
  exact ho'
 have bits:∀ {ms:List Nat}{i k:Nat},(∀m∈ms,m<2^64)->k<2^64->∀m∈ms.set i k,m<2^64:=fun h hk m hm=>(List.mem_or_eq_of_mem_set hm).elim (h m) fun e=>e ▸ hk
 refine⟨fun k z W=>∃(q:Nat)(ms:List Nat),q<=arcs.length/\k+q=arcs.length/\z=(q:Int)/\ms.length=n/\OwS W ⟨some ⟨b1,0,none⟩,n,n⟩ 2 (ms.flatMap setC)/\(∀m∈ms,m<2^64)/\(∀(i j:Nat) m,ms[i]? =some m->(m.testBit j=true↔∃e∈arcs.take q,e.1=(i:Int)/\e.2.1=(j:Int)))/\Ch (fun j=>j=b1) w2 W,⟨arcs.length,0,List.replicate n 0,Nat.zero_le _,rfl,rfl,by simp,ho0,fun m hm=>by rw[(List.mem_replicate.1 hm).2];decide,fun i j m hm=>?_,Ch.refl _ _⟩,?_⟩
 ·have:=List.mem_of_getElem? hm
  rw[(List.mem_replicate.1 this).2];simp
 rintro k _ W g ⟨q,ms,hq,hkq,rfl,hml,ho,hmb,hbt,hC⟩
 have eW:Ext w W:=e2.chN hC fun j e=>by omega
 unfold F174j1
 refine IfB.dec (fun hlt=>?_) fun hge=>?_
 ·have hq':q<arcs.length:=by omega
  have hx:arcs[q]? =some arcs[q]:=List.getElem?_eq_getElem hq'
  have hxm:arcs[q]∈arcs:=List.getElem_mem hq'
  have htk:=take_succ_get hx
  generalize arcs[q]=e at hx hxm htk
  obtain⟨a,b,hea,heb,han,hbn⟩:=hft e hxm
  obtain⟨pb,po,hpp,hcc⟩:=(hR.ext eW).elem (i:=q) (by omega) (by omega) (flatGet aC_len hx)
  have hma:ms[a]? =some (ms[a]'(by omega)):=List.getElem?_eq_getElem (by omega)
  have hmab:=hmb _ (List.getElem_mem (show a<ms.length by omega))
  generalize ms[a]'_=m at hma hmab
  refine⟨pb,po,hpp,⟨by omega,hlt⟩,e,by rw[Int.toNat_natCast];exact hcc,fun b13 w14 a14=>⟨rfl,store_all (vs:=aC e) a14.new rfl (aC_one e) fun w15 u15=>?_⟩⟩
  have ed:=extDrew w15
  have e15:Ext W w15.drew:=(Ext.fresh a14 u15).trans ed
  have qe:=fun{V:World} (j:Nat) (x:Ext w15.drew V)=>boxAt (cs:=aC e) u15.new j (ed.trans x)
  have r0:Ext w15.drew w15.drew:=Ch.refl _ _
  obtain⟨pb2,po2,hpp2,hcc2⟩:=(ho.ext e15).rd.elem (i:=a) (by show a<n;exact han) (by omega) (flatGet setC_len hma)
  cases hpp2
  have hbd:(0:Int)<=e.1/\e.1<(((n:Int)).toNat:Int):=⟨by omega,by omega⟩
  have hat:e.1.toNat=a:=by omega
  refine⟨e.1,qe 0 r0,e.1,qe 0 r0,b1,0,rfl,hbd,setP m,by rw[hat];exact hcc2,e.2.1,qe 1 r0,?_⟩
  rw[heb]
  refine(c220 hmab (show b<64 by omega) w15.drew).use ?_
  rintro _ w23 ⟨rfl,e23⟩
  refine⟨setP (m ||| 2^b),rfl,by have:=qe 0 e23;exact this,b1,0,rfl,hbd,rfl,?_⟩
  rw[hat,Nat.zero_add]
  have hk64:m ||| 2^b<2^64:=Nat.or_lt_two_pow hmab (Nat.pow_lt_pow_right (by decide) (by omega))
  have e23':=e15.trans e23
  refine set (ho.ext e23') hml han fun w27 ho27 hC27=>⟨(by trivial),k-1,by omega,q+1,ms.set a (m ||| 2^b),hq',by omega,by rw[wrap_of (by omega) (by omega)];rfl,by rw[List.length_set,hml],ho27,bits hmb hk64,fun i j m' hm'=>?_,(hC.trans (e23'.mono fun _ _ h=>h.elim)).trans hC27⟩
  rw[htk]
  rw[List.getElem?_set] at hm'
  by_cases hi:a=i
  ·subst hi
   rw[if_pos rfl,if_pos (by omega)] at hm'
   cases hm'
   rw[Nat.testBit_or,Bool.or_eq_true,hbt a j m hma,Nat.testBit_two_pow,decide_eq_true_eq]
   constructor
   ·rintro(⟨e',he',g1,g2⟩|rfl)
    ·exact⟨e',List.mem_append.2 (.inl he'),g1,g2⟩
    ·exact⟨e,List.mem_append.2 (.inr (List.mem_singleton.2 rfl)),hea,heb⟩
   ·rintro⟨e',he',g1,g2⟩
    rcases List.mem_append.1 he' with h|h
    ·exact .inl ⟨e',h,g1,g2⟩
    ·rw[List.mem_singleton.1 h,heb] at g2
     exact .inr (Int.ofNat.inj g2)
  ·rw[if_neg hi] at hm'
   rw[hbt i j m' hm']
   constructor
   ·rintro⟨e',he',g1,g2⟩;exact⟨e',List.mem_append.2 (.inl he'),g1,g2⟩
   ·rintro⟨e',he',g1,g2⟩
    rcases List.mem_append.1 he' with h|h
    ·exact⟨e',h,g1,g2⟩
    ·rw[List.mem_singleton.1 h,hea] at g1
     exact absurd (Int.ofNat.inj g1) hi
 ·have hq':q=arcs.length:=by omega
  subst hq'
  rw[List.take_length] at hbt
  have hbt:∀(i j:Nat) m,ms[i]? =some m->(m.testBit j=true↔ArE arcs i j):=fun i j m hm=>(hbt i j m hm).trans ⟨fun⟨⟨e1,e2,e3⟩,he,g1,g2⟩=>⟨e3,by dsimp only at g1 g2;rw[<-g1,<-g2];exact he⟩,fun⟨c,hc⟩=>⟨_,hc,rfl,rfl⟩⟩
  have hE:∀a b,ArE arcs a b->b<n:=fun a b ⟨c,hc⟩=>by
   obtain⟨a',b',h1,h2,h3,h4⟩:=hft _ hc
   have:b=b':=Int.ofNat.inj h2
   omega
  refine⟨fun k z W=>∃(p:Nat)(ms:List Nat),p<=n/\k+p=n/\z=(p:Int)/\ms.length=n/\OwS W ⟨some ⟨b1,0,none⟩,n,n⟩ 2 (ms.flatMap setC)/\(∀m∈ms,m<2^64)/\(∀(i j:Nat) m,ms[i]? =some m->(m.testBit j=true↔Fw (ArE arcs) p i j))/\Ch (fun j=>j=b1) w2 W,⟨n,0,ms,Nat.zero_le _,rfl,rfl,hml,ho,hmb,hbt,hC⟩,?_⟩
  rintro k _ W2 g2 ⟨p,ms2,hp,hkp,rfl,hml2,ho2,hmb2,hbt2,hC2⟩
  have eW2:Ext w W2:=e2.chN hC2 fun j e=>by omega
  refine IfB.dec (fun hlt2=>?_) fun hge2=>⟨⟨some ⟨b1,0,none⟩,n,n⟩,ms2,by simp only[Int.toNat_natCast],ho2,hml2,hmb2,fun i j m hm=>?_,eW2,fun j hj=>?_⟩
  ·have hp':p<n:=by omega
   refine⟨fun k3 z W3=>∃(i:Nat)(ms:List Nat),i<=n/\k3+i=n/\z=(i:Int)/\ms.length=n/\OwS W3 ⟨some ⟨b1,0,none⟩,n,n⟩ 2 (ms.flatMap setC)/\(∀m∈ms,m<2^64)/\(∀(r j:Nat) m,ms[r]? =some m->(m.testBit j=true↔if r<i then Fw (ArE arcs) (p+1) r j else Fw (ArE arcs) p r j))/\Ch (fun j=>j=b1) w2 W3,⟨n,0,ms2,Nat.zero_le _,rfl,rfl,hml2,ho2,hmb2,fun r j m hm=>by rw[if_neg (Nat.not_lt_zero _)];exact hbt2 r j m hm,hC2⟩,?_⟩
   rintro k3 _ W3 g3 ⟨i,ms3,hi,hki,rfl,hml3,ho3,hmb3,hbt3,hC3⟩
   have eW3:Ext w W3:=e2.chN hC3 fun j e=>by omega
   unfold F174j3
   refine IfB.dec (fun hlt3=>?_) fun hge3=>⟨(by trivial),k-1,by omega,p+1,ms3,hp',by omega,by rw[wrap_of (by omega) (by omega)];rfl,hml3,ho3,hmb3,fun r j m hm=>?_,hC3⟩
   ·have hi':i<n:=by omega
    have hwi:IntKind.i64.wrap ((i:Int)+1)=((i+1:Nat):Int):=by rw[wrap_of (by omega) (by omega)];rfl
    have hmi:ms3[i]? =some (ms3[i]'(by omega)):=List.getElem?_eq_getElem (by omega)
    have hmib:=hmb3 _ (List.getElem_mem (show i<ms3.length by omega))
    generalize ms3[i]'_=m at hmi hmib
    obtain⟨pb2,po2,hpp2,hcc2⟩:=ho3.rd.elem (i:=i) (by show i<n;exact hi') (by omega) (flatGet setC_len hmi)
    cases hpp2
    have hbd:(0:Int)<=(i:Int)/\(i:Int)<(((n:Int)).toNat:Int):=⟨by omega,by omega⟩
    have hbi:=fun j=>hbt3 i j m hmi
    simp only[Nat.lt_irrefl,if_false] at hbi
    refine⟨b1,0,rfl,hbd,setP m,by rw[Int.toNat_natCast];exact hcc2,fun b46 w47 a47=>⟨rfl,store_all (vs:=setC m) a47.new rfl (setC_one m) fun w48 u48=>?_⟩⟩
    have e48:Ext W3 w48:=Ext.fresh a47 u48
    refine⟨setP m,boxAll (cs:=setC m) u48.new (Ch.refl _ _),(c129 hmib (show p<64 by omega) w48).use ?_⟩
    rintro _ w51 ⟨rfl,e51⟩
    have ed:=extDrew w51
    refine⟨_,rfl,IfB.intro (fun h1=>?_) fun h1=>⟨(by trivial),k3-1,by omega,i+1,ms3,hi',by omega,by rw[hwi],hml3,(ho3.ext e48).ext e51,hmb3,fun r j m' hm'=>?_,hC3.trans ((e48.trans e51).mono fun _ _ h=>h.elim)⟩⟩
    ·have hmp:ms3[p]? =some (ms3[p]'(by omega)):=List.getElem?_eq_getElem (by omega)
     have hmpb:=hmb3 _ (List.getElem_mem (show p<ms3.length by omega))
     generalize ms3[p]'_=mp at hmp hmpb
     have hbp:∀j,mp.testBit j=true↔Fw (ArE arcs) p p j:=fun j=>by
      rw[hbt3 p j mp hmp]
      split
      ·exact⟨fun h=>h.elim id fun h=>h.2,.inl⟩
      ·exact Iff.rfl
     have e51':=(e48.trans e51).trans ed
     obtain⟨pb3,po3,hpp3,hcc3⟩:=(ho3.ext e51').rd.elem (i:=p) (by show p<n;exact hp') (by omega) (flatGet setC_len hmp)
     cases hpp3
     refine⟨setP m,boxAll (cs:=setC m) u48.new (e51.trans ed),b1,0,rfl,⟨by omega,by omega⟩,setP mp,by rw[Int.toNat_natCast];exact hcc3,(c221 hmib hmpb w51.drew).use ?_⟩
     rintro _ w58 ⟨rfl,e58⟩
     have e58':=e51'.trans e58
     refine⟨setP (m ||| mp),rfl,b1,0,rfl,hbd,rfl,?_⟩
     rw[Int.toNat_natCast,Nat.zero_add]
     refine set (ho3.ext e58') hml3 hi' fun w62 ho62 hC62=>⟨(by trivial),k3-1,by omega,i+1,ms3.set i (m ||| mp),hi',by omega,by rw[hwi],by rw[List.length_set,hml3],ho62,bits hmb3 (Nat.or_lt_two_pow hmib hmpb),fun r j m' hm'=>?_,(hC3.trans (e58'.mono fun _ _ h=>h.elim)).trans hC62⟩
     rw[List.getElem?_set] at hm'
     by_cases hr:i=r
     ·subst hr
      rw[if_pos rfl,if_pos (by omega)] at hm'
      cases hm'
      rw[if_pos (by omega),Nat.testBit_or,Bool.or_eq_true,hbi,hbp]
      exact⟨fun h=>h.elim .inl fun h=>.inr ⟨(hbi p).1 h1,h⟩,fun h=>h.elim .inl fun h=>.inr h.2⟩
     ·rw[if_neg hr] at hm'
      rw[hbt3 r j m' hm']
      by_cases h':r<i
      ·rw[if_pos h',if_pos (by omega)]
      ·rw[if_neg h',if_neg (by omega)]
    ·by_cases hr:i=r
     ·subst hr
      rw[hmi] at hm';cases hm'
      rw[if_pos (by omega),hbi]
      refine⟨.inl,fun h=>h.elim id fun h=>?_⟩
      rw[(hbi p).2 h.1] at h1;cases h1
     ·rw[hbt3 r j m' hm']
      by_cases h':r<i
      ·rw[if_pos h',if_pos (by omega)]
      ·rw[if_neg h',if_neg (by omega)]
   ·have hr:=(List.getElem?_eq_some_iff.1 hm).1
    rw[hbt3 r j m hm,if_pos (by omega)]
  ·have:p=n:=by omega
   subst this
   rw[hbt2 i j m hm]
   exact Fw_iff hE
  ·have:j=b1:=by simpa [blk] using hj
   omega
def F32j6(t1:Sl)(b1:Nat)(n11:Int)(n43:Int)(x65:Int×Int×Int)(y69:Int×Int->World->Prop)(n80:Int)(w81:World):Prop:=IfB (decide (x65.fst<0)) (∃(x84:Sl×List Value),CellsN w81.drew b1 0 17 (Qy x84.fst::x84.2)/\Qx t1.1 n43 (t1.2:Int) fun b87 b88=>Qi w81.drew b87 (b88+n43.toNat*6+1) fun n89=>Qv' 94 #[Value.agg { toList:=Qy x84.fst::x84.2 },Qy t1,Qz n11,Qz x65.snd.2,Qz n89] w81.drew fun t92 w91=>IfB t92 (([]:List Nat)=[]/\y69 (x65.snd.2,n80) w91) (([]:List Nat)=[]/\y69 (x65.1,n80) w91)) (([]:List Nat)=[]/\y69 (x65.1,n80) w81.drew)
def F32j5(t1:Sl)(b1:Nat)(b6:Nat)(n11:Int)(y40:Nat->Int->World->Prop)(b42:Nat)(n43:Int)(y62:Nat->Int×Int×Int->World->Prop)(b64:Nat)(x65:Int×Int×Int)(w66:World):Prop:=IfB (decide (x65.snd.snd<(t1.n:Int))) (∃(y69:Int×Int->World->Prop),(∃(y70:Int->World->Prop),(∃(x71:Sl×List Value),CellsN w66.drew b1 0 17 (Qy x71.fst::x71.2)/\Qx t1.1 n11 (t1.2:Int) fun b74 b75=>Qi w66.drew b74 (b75+n11.toNat*6+1) fun n76=>Qv' 94 #[Value.agg { toList:=Qy x71.fst::x71.2 },Qy t1,Qz n43,Qz x65.snd.2,Qz n76] w66.drew fun t79 w78=>IfB t79 (([]:List Nat)=[]/\y70 x65.snd.2 w78) (([]:List Nat)=[]/\y70 x65.snd.1 w78))/\∀(n80:Int)(w81:World)(y82:Nat->Value),y70 n80 w81->(F32j6 t1 b1 n11 n43 x65 y69 n80 w81))/\∀(x93:Int×Int)(w94:World)(y95:Nat->Value),y69 x93 w94->Qn y62 b64 (x93.1,x93.2,IntKind.i64.wrap (x65.snd.2+1)) w94) ((0<=x65.snd.1/\x65.snd.1<((100:Nat):Int))/\(0<=n11/\n11<((100:Nat):Int))/\((0:Int)<=3/\3<((5:Nat):Int))/\#[Value.bool true].size=1/\StoreP w66 b6 (0+Int.toNat x65.snd.1*500+n11.toNat*5+Int.toNat 3) [Value.bool true] fun w98=>(0<=n43/\n43<((100:Nat):Int))/\(0<=x65.1/\x65.1<((100:Nat):Int))/\((0:Int)<=4/\4<((5:Nat):Int))/\#[Value.bool true].size=1/\StoreP w98 b6 (0+n43.toNat*500+x65.1.toNat*5+Int.toNat 4) [Value.bool true] fun w99=>Qn y40 b42 (IntKind.i64.wrap (n43+1)) w99)
def F32j4(t1:Sl)(b1:Nat)(s5:Sl)(b6:Nat)(y8:Nat->Int->World->Prop)(b10:Nat)(n11:Int)(y40:Nat->Int->World->Prop)(b42:Nat)(n43:Int)(w44:World):Prop:=IfB (decide (n43<(t1.n:Int))) (Qx t1.1 n43 (t1.2:Int) fun b47 b48=>Qi w44.drew b47 (b48+n43.toNat*6+0) fun n49=>Qx t1.1 n11 (t1.2:Int) fun b50 b51=>Qi w44.drew b50 (b51+n11.toNat*6+0) fun n52=>IfB (n49 == n52) (Qn y40 b42 (IntKind.i64.wrap (n43+1)) w44.drew) (Qx s5.1 n11 (s5.2:Int) fun b54 b55=>Qs w44.drew b54 (b55+n11.toNat) fun s56=>Qx s56.1 n43 (s56.2:Int) fun b57 b58=>Qb w44.drew b57 (b58+n43.toNat) fun t59=>IfB (!t59) (Qn y40 b42 (IntKind.i64.wrap (n43+1)) w44.drew) ((0<=n43/\n43<((100:Nat):Int))/\(0<=n11/\n11<((100:Nat):Int))/\((0:Int)<=2/\2<((5:Nat):Int))/\#[Value.bool true].size=1/\StoreP w44.drew b6 (0+n43.toNat*500+n11.toNat*5+Int.toNat 2) [Value.bool true] fun w61=>Ql (α:=Int×Int×Int) ((-1:Int),(-1:Int),0) w61 fun y62 b64 x65 w66=>(F32j5 t1 b1 b6 n11 y40 b42 n43 y62 b64 x65 w66)))) (Qn y8 b10 (IntKind.i64.wrap (n11+1)) w44)
def F32j2(t1:Sl)(b1:Nat)(s5:Sl)(b6:Nat)(y8:Nat->Int->World->Prop)(b10:Nat)(n11:Int)(y15:Nat->Int×Int->World->Prop)(b17:Nat)(x18:Int×Int)(w19:World):Prop:=IfB (decide (x18.snd<n11)) (∃(y22:Int->World->Prop),(Qx t1.1 x18.2 (t1.2:Int) fun b23 b24=>Qi w19.drew b23 (b24+x18.2.toNat*6+0) fun n25=>Qx t1.1 n11 (t1.2:Int) fun b26 b27=>Qi w19.drew b26 (b27+n11.toNat*6+0) fun n28=>IfB (n25 == n28) (([]:List Nat)=[]/\y22 x18.2 w19.drew) (([]:List Nat)=[]/\y22 x18.1 w19.drew))/\∀(n29:Int)(w30:World)(y31:Nat->Value),y22 n29 w30->Qn y15 b17 (n29,IntKind.i64.wrap (x18.2+1)) w30) (∃(y34:Unit->World->Prop),IfB (decide (0<=x18.fst)) ((0<=x18.1/\x18.1<((100:Nat):Int))/\(0<=n11/\n11<((100:Nat):Int))/\((0:Int)<=1/\1<((5:Nat):Int))/\#[Value.bool true].size=1/\StoreP w19 b6 (0+x18.1.toNat*500+n11.toNat*5+Int.toNat 1) [Value.bool true] fun w35=>([]:List Nat)=[]/\y34 PUnit.unit w35) (([]:List Nat)=[]/\y34 PUnit.unit w19)/\∀(y36:Unit)(w37:World)(y38:Nat->Value),y34 y36 w37->Ql (α:=Int) 0 w37 fun y40 b42 n43 w44=>(F32j4 t1 b1 s5 b6 y8 b10 n11 y40 b42 n43 w44))
def F32j9(b6:Nat)(x105:Sl×Int)(y109:Nat->Sl×Int->World->Prop)(b111:Nat)(x112:Sl×Int)(y116:Nat->Sl×Int->World->Prop)(b118:Nat)(x119:Sl×Int)(w120:World):Prop:=IfB (decide (x119.snd<5)) (∃(y123:Sl->World->Prop),((0<=x105.2/\x105.2<((100:Nat):Int))/\(0<=x112.2/\x112.2<((100:Nat):Int))/\(0<=x119.2/\x119.2<((5:Nat):Int))/\Qb w120 b6 (0+x105.2.toNat*500+x112.2.toNat*5+x119.2.toNat) fun t124=>IfB t124 (1*3<=16777216/\AllocP w120 (Obj.cells #[Qz x105.2,Qz x112.2,Qz x119.2] 44) fun b125 w126=>∃(l127:List Value),ReadC w126 (some ⟨b125,0,none⟩) (1*3) l127/\AppendP tt44 44 w126 x119.fst.1 x119.fst.2 x119.fst.3 1 l127 fun s128 w129=>([]:List Nat)=[]/\y123 { p:=s128.1,n:=s128.2,c:=s128.3 } w129) (([]:List Nat)=[]/\y123 { p:=x119.fst.1,n:=x119.fst.2,c:=x119.fst.3 } w120))/\∀(s130:Sl)(w131:World)(y132:Nat->Value),y123 s130 w131->Qn y116 b118 ({ p:=s130.1,n:=s130.2,c:=s130.3 },IntKind.i64.wrap (x119.2+1)) w131) (Qn y109 b111 ({ p:=x119.fst.1,n:=x119.fst.2,c:=x119.fst.3 },IntKind.i64.wrap (x112.2+1)) w120)
def F32j8(t1:Sl)(b6:Nat)(y102:Nat->Sl×Int->World->Prop)(b104:Nat)(x105:Sl×Int)(y109:Nat->Sl×Int->World->Prop)(b111:Nat)(x112:Sl×Int)(w113:World):Prop:=IfB (decide (x112.snd<(t1.n:Int))) (Ql (α:=Sl×Int) ({ p:=x112.fst.1,n:=x112.fst.2,c:=x112.fst.3 },1) w113 fun y116 b118 x119 w120=>(F32j9 b6 x105 y109 b111 x112 y116 b118 x119 w120)) (Qn y102 b104 ({ p:=x112.fst.1,n:=x112.fst.2,c:=x112.fst.3 },IntKind.i64.wrap (x105.2+1)) w113)
def F32j1(t1:Sl)(R:RV)(b1:Nat)(s5:Sl)(b6:Nat)(y8:Nat->Int->World->Prop)(b10:Nat)(n11:Int)(w12:World):Prop:=IfB (decide (n11<(t1.n:Int))) (Ql (α:=Int×Int) ((-1:Int),0) w12 fun y15 b17 x18 w19=>(F32j2 t1 b1 s5 b6 y8 b10 n11 y15 b17 x18 w19)) (Ql (α:=Sl×Int) ({ p:=none,n:=0,c:=0 },0) w12 fun y102 b104 x105 w106=>IfB (decide (x105.snd<(t1.n:Int))) (Ql (α:=Sl×Int) ({ p:=x105.fst.1,n:=x105.fst.2,c:=x105.fst.3 },0) w106 fun y109 b111 x112 w113=>(F32j8 t1 b6 y102 b104 x105 y109 b111 x112 w113)) (R (Qy x105.fst) w106))
theorem F32_ok(t0:Sl×List Value)(t1:Sl)(w:World)(R:RV)(h:AllocP w (Obj.cells { toList:=Qy t0.fst::t0.2 } 26) fun b1 w2=>Qu' 93 #[Qy t1] w2 fun s5 w4=>AllocP w4 (Obj.cells (Array.replicate 50000 (Value.bool false)) 115) fun b6 w7=>Ql (α:=Int) 0 w7 fun y8 b10 n11 w12=>(F32j1 t1 R b1 s5 b6 y8 b10 n11 w12)):Cw 32 #[Value.agg { toList:=Qy t0.fst::t0.2 },Qy t1] w R:=
 ckF Tryz.func32 (nd (nd (nd (nd (.node (nd (.loop [(8,oi)] (rg [8,14,23,123]) (nd (.node (nd (.node (nd (.loop [(9,oi),(10,oi)] (rg [9,10,28,44]) (nd (.join [(9,oi)] (rg [9,9,33,44]) (.node (.draw (sts [0,1,2,3,4,5,6,7,8,9,10] .fin)) .nil) .nil)))) (.join [] (rg [45,51]) .nil (nd (.loop [(11,oi)] (rg [11,14,52,123]) (nd (.node (.node (.node (.draw (sts [0,1,2,3,4,5,6,7,8,9,10,11,12,13,14,15,16,17,18,19,20] .fin)) .nil) (nd (nd (.node (nd (.loop [(12,oi),(13,oi),(14,oi)] (rg [12,14,83,113]) (nd (.join [(12,oi),(13,oi)] (rg [12,13,88,113]) (.join [(13,oi)] (rg [13,13,88,98]) (.node (.draw (sts [0,1,2,3,4,5,6,7,8] (.ac 9 [] .fin .non))) .nil) (.node (.draw (sts [0,1,2,3,4,5,6,7,8,9,10,11] (.ac 12 [] (.st 13 .fin) .non))) .nil)) .nil)))) .nil)))) .nil))))))) .nil)))) (nd (.node (nd (.loop [(15,.one (.sl)),(16,oi)] (rg [15,18,124,151]) (nd (.node (nd (.loop [(15,.one (.sl)),(17,oi)] (rg [15,15,17,18,129,151]) (nd (.node (nd (.loop [(15,.one (.sl)),(18,oi)] (rg [15,15,18,18,134,151]) (nd (.join [(15,.one (.sl))] (rg [15,15,138,151]) .nil .nil)))) .nil)))) .nil)))) .nil))))))) h (by kernel_rfl) (by kernel_rfl)
def Tb3(W:World)(b:Nat)(S:Nat->Nat->Nat->Prop):Prop:=∃(bs:List Bool)(T:TypeId),bs.length=50000/\W.heap[b]? =some (.cells (bs.map Value.bool).toArray T (0,0))/\∀i k m,i<100->k<100->m<5->(bs[i*500+k*5+m]? =some true↔S i k m)
theorem Tb3.ext{W W':World}{b:Nat}{S:Nat->Nat->Nat->Prop}(h:Tb3 W b S)(e:Ext W W'):Tb3 W' b S:=by
 obtain⟨bs,T,h1,h2,h3⟩:=h
 exact⟨bs,T,h1,e.at h2,h3⟩
theorem Tb3.iff{W:World}{b:Nat}{S S':Nat->Nat->Nat->Prop}(h:Tb3 W b S)(e:∀i k m,S i k m↔S' i k m):Tb3 W b S':=by
 obtain⟨bs,T,h1,h2,h3⟩:=h
 exact⟨bs,T,h1,h2,fun i k m a b c=>(h3 i k m a b c).trans (e i k m)⟩
theorem repl_bool(n:Nat):Array.replicate n (Value.bool false)=((List.replicate n false).map Value.bool).toArray:=by
 rw[List.map_replicate,List.toArray_replicate]
theorem Tb3.new{w w':World}{b:Nat}{T:TypeId}{n:Nat}(hn:n=50000)(a:IsAlloc w (.cells (Array.replicate n (Value.bool false)) T (0,0)) b w'):Tb3 w' b fun _ _ _=>False:=by
 refine⟨List.replicate n false,T,by rw[List.length_replicate,hn],by rw[<-repl_bool];exact a.new,fun i k m _ _ _=>⟨fun h=>?_,fun h=>h.elim⟩⟩
 rw[List.getElem?_replicate] at h
 split at h<;>cases h
theorem Tb3.put{W:World}{b:Nat}{S:Nat->Nat->Nat->Prop}(h:Tb3 W b S){i k m:Nat}(hi:i<100)(hk:k<100)(hm:m<5){o:Nat}(ho:o=i*500+k*5+m){K:World->Prop}(hK:∀W',Tb3 W' b (fun i' k' m'=>S i' k' m'\/i'=i/\k'=k/\m'=m)->Ch (fun j=>j=b) W W'->K W'):StoreP W b o [Value.bool true] K:=by
 obtain⟨bs,T,h1,h2,h3⟩:=h
 subst ho
 refine store_one h2 (by rw[List.size_toArray,List.length_map,h1];omega) rfl fun W' u=>hK W' ⟨bs.set (i*500+k*5+m) true,T,by rw[List.length_set,h1],?_,fun i' k' m' a b c=>?_⟩ u.ch
 ·rw[List.map_set,<-List.setIfInBounds_toArray];exact u.new
 ·rw[List.getElem?_set]
  by_cases e:i*500+k*5+m=i'*500+k'*5+m'
  ·rw[if_pos e,if_pos (by rw[h1];omega)]
   exact⟨fun _=>.inr ⟨by omega,by omega,by omega⟩,fun _=>rfl⟩
  ·rw[if_neg e,h3 i' k' m' a b c]
   exact⟨.inl,fun h=>h.elim id fun h=>absurd (by rw[h.1,h.2.1,h.2.2]) e⟩
theorem Tb3.get{W:World}{b:Nat}{S:Nat->Nat->Nat->Prop}(h:Tb3 W b S){i k m:Nat}(hi:i<100)(hk:k<100)(hm:m<5){o:Nat}(ho:o=i*500+k*5+m):∃t:Bool,W.cell? ⟨b,o,none⟩=some (.bool t)/\(t=true↔S i k m):=by
 obtain⟨bs,T,h1,h2,h3⟩:=h
 subst ho
 have hl:i*500+k*5+m<bs.length:=by rw[h1];omega
 refine⟨bs[i*500+k*5+m],by rw[cell_of h2,List.getElem?_toArray,List.getElem?_map,List.getElem?_eq_getElem hl];rfl,?_⟩
 rw[<-h3 i k m hi hk hm,List.getElem?_eq_getElem hl,Option.some.injEq]
end Go.Proofs.YtlpgdngcgbeegaaGreat.Gx
