/- Merged by pack.py: RefB, GxOF, UntA, KeyC, GxNQ, GxLK, IntK, GxN, DepA, UntB, UntC, GxOH, RefC, RefD, DepB, GxLC, IntC, GxLX, IntX, DepC, GxNR, DepD, MxA, GxNT, DepE, DepF, GxNL, DepG. -/
import Derived.Test.YtlpgdngcgbeegaaGreatIt1
import Derived.Test.YtlpgdngcgbeegaaGreatIt2
import Derived.Test.YtlpgdngcgbeegaaGreatIt3
import Derived.Test.YtlpgdngcgbeegaaGreatIt4
namespace Go.Proofs.YtlpgdngcgbeegaaGreat.Gx
open Go
set_option linter.unusedSimpArgs false
set_option linter.unusedVariables false
theorem c172{w:World}{t:Sl}{l:List InsD}(h:Rd w t 9 (l.flatMap insC))(n:Int):Cw 172 #[slV t,iv n] w fun v w'=>∃r,v=.bool r/\(r=true↔CodeOk l n)/\Ext w w':=by
 have hn:=rdN insC_len (by omega) h
 have no:∀ {V:World},¬CodeOk l n->Ext w V->∃b,Value.bool false=.bool b/\(b=true↔CodeOk l n)/\Ext w V:=fun h e=>⟨false,rfl,⟨fun h=>(by cases h),fun h'=>absurd h' h⟩,e⟩
 have r0:=Ch.refl (fun _=>False) w
 refine F172_ok t n w _ (IfB.dec (fun h1=>no (fun k=>by have:=k.n0;omega) r0) fun h1=>IfB.dec (fun h2=>no (fun k=>by have:=k.n3;omega) r0) fun h2=>IfB.dec (fun h3=>no (fun k=>by have:=k.l1;omega) r0) fun h3=>IfB.dec (fun h4=>no (fun k=>by have:=k.l8;omega) r0) fun h4=>⟨fun m x W=>∃i:Nat,i<=l.length/\m+i=l.length/\x=(i:Int)/\(∀y∈l.take i,InsOk y n)/\Ext w W,⟨l.length,0,Nat.zero_le _,rfl,rfl,by simp,r0⟩,?_⟩)
 rintro m _ W g ⟨i,hi,hm,rfl,ha,e⟩
 unfold F172j1
 refine IfB.dec (fun hlt=>?_) fun hge=>?_
 ·have hi':i<l.length:=by omega
  have hx:l[i]? =some l[i]:=List.getElem?_eq_getElem hi'
  have hxm:l[i]∈l:=List.getElem_mem hi'
  have htk:=take_succ_get hx
  generalize l[i]=y at hx hxm htk
  obtain⟨b,o,hp,hc⟩:=(h.ext e).elem (i:=i) (by omega) (by omega) (flatGet insC_len hx)
  refine⟨b,o,hp,⟨by omega,by omega⟩,insX y,by rw[Int.toNat_natCast];exact hc,(c218 y n W).use ?_⟩
  rintro _ w12 ⟨r,rfl,hr,e12⟩
  refine⟨r,rfl,IfB.intro (fun h5=>no (fun k=>?_) (e.trans e12)) fun h5=>⟨rfl,m-1,by omega,i+1,hi',by omega,by rw[wrap_of (by omega) (by omega)];rfl,?_,e.trans e12⟩⟩
  ·have h5:r=false:=by simpa using h5
   rw[hr.2 (k.all _ hxm)] at h5;cases h5
  ·have h5:r=true:=by simpa using h5
   rw[htk];intro z hz
   rcases List.mem_append.1 hz with hz|hz
   ·exact ha z hz
   ·rw[List.mem_singleton.1 hz];exact hr.1 h5
 ·have hi':i=l.length:=by omega
  subst hi'
  rw[List.take_length] at ha
  exact⟨true,rfl,⟨fun _=>⟨by omega,by omega,by omega,by omega,ha⟩,fun _=>rfl⟩,e⟩
theorem c173{w:World}{t:Sl}{l:List SpTD}(h:Rd w t 5 (l.flatMap spTC))(n:Int):Cw 173 #[slV t,iv n] w fun v w'=>∃r,v=.bool r/\(r=true↔FootOk l n)/\Ext w w':=by
 have hn:=rdN spTC_len (by omega) h
 have no:∀ {V:World},¬FootOk l n->Ext w V->∃b,Value.bool false=.bool b/\(b=true↔FootOk l n)/\Ext w V:=fun h e=>⟨false,rfl,⟨fun h=>(by cases h),fun h'=>absurd h' h⟩,e⟩
 have r0:=Ch.refl (fun _=>False) w
 refine F173_ok t n w _ (IfB.dec (fun h1=>no (fun k=>by have:=k.n0;omega) r0) fun h1=>IfB.dec (fun h2=>no (fun k=>by have:=k.n3;omega) r0) fun h2=>IfB.dec (fun h4=>no (fun k=>by have:=k.l4;omega) r0) fun h4=>⟨fun m x W=>∃i:Nat,i<=l.length/\m+i=l.length/\x=(i:Int)/\(∀s∈l.take i,KeyOk s.1 n/\KeyOk s.2.1 n)/\Ext w W,⟨l.length,0,Nat.zero_le _,rfl,rfl,by simp,r0⟩,?_⟩)
 rintro m _ W g ⟨i,hi,hm,rfl,ha,e⟩
 unfold F173j1
 refine IfB.dec (fun hlt=>?_) fun hge=>?_
 ·have hi':i<l.length:=by omega
  have hx:l[i]? =some l[i]:=List.getElem?_eq_getElem hi'
  have hxm:l[i]∈l:=List.getElem_mem hi'
  have htk:=take_succ_get hx
  generalize l[i]=y at hx hxm htk
  obtain⟨b,o,hp,hc⟩:=(h.ext e).elem (i:=i) (by omega) (by omega) (flatGet spTC_len hx)
  have hc1:CellsAt W b (o+i*5) (keyC y.1++(keyC y.2.1++[.bool y.2.2])):=hc
  refine⟨b,o,hp,⟨by omega,by omega⟩,y.1,by rw[Int.toNat_natCast];exact hc1.left,(c219 y.1 n W).use ?_⟩
  rintro _ w12 ⟨r,rfl,hr,e12⟩
  refine⟨r,rfl,IfB.intro (fun h5=>no (fun k=>?_) (e.trans e12)) fun h5=>?_⟩
  ·have h5:r=false:=by simpa using h5
   rw[hr.2 (k.all _ hxm).1] at h5;cases h5
  have h5:r=true:=by simpa using h5
  have e':Ext w w12:=e.trans e12
  obtain⟨b2,o2,hp2,hc2⟩:=(h.ext e').elem (i:=i) (by omega) (by omega) (flatGet spTC_len hx)
  have hc2:CellsAt w12 b2 (o2+i*5) (keyC y.1++(keyC y.2.1++[.bool y.2.2])):=hc2
  refine⟨b2,o2,hp2,⟨by omega,by omega⟩,y.2.1,by rw[Int.toNat_natCast];exact hc2.right.left,(c219 y.2.1 n w12).use ?_⟩
  rintro _ w18 ⟨r2,rfl,hr2,e18⟩
  refine⟨r2,rfl,IfB.intro (fun h6=>no (fun k=>?_) (e'.trans e18)) fun h6=>⟨rfl,m-1,by omega,i+1,hi',by omega,by rw[wrap_of (by omega) (by omega)];rfl,?_,e'.trans e18⟩⟩
  ·have h6:r2=false:=by simpa using h6
   rw[hr2.2 (k.all _ hxm).2] at h6;cases h6
  ·have h6:r2=true:=by simpa using h6
   rw[htk];intro z hz
   rcases List.mem_append.1 hz with hz|hz
   ·exact ha z hz
   ·rw[List.mem_singleton.1 hz];exact⟨hr.1 h5,hr2.1 h6⟩
 ·have hi':i=l.length:=by omega
  subst hi'
  rw[List.take_length] at ha
  exact⟨true,rfl,⟨fun _=>⟨by omega,by omega,by omega,ha⟩,fun _=>rfl⟩,e⟩
theorem c115{w:World}{v:ClsV}{x:ClsD}(h:ClsM w v x):Cw 115 #[clV v] w fun v w'=>∃r,v=.bool r/\(r=true↔ClsOk x)/\Ext w w':=by
 refine F115_ok v w _ fun b1 w2 a2=>?_
 have e2:Ext w w2:=a2.ch _
 have q:=fun{W:World} (o:Nat) (e:Ext w2 W)=>boxAt (cs:=clsC v) a2.new o e
 have r2:=Ch.refl (fun _=>False) w2
 have hsn:=h.st.n
 have hcn:=h.co.n
 have hnm:=h.nm
 have har:=h.ar
 have no:∀ {V:World},¬ClsOk x->Ext w2 V->∃r,Value.bool false=.bool r/\(r=true↔ClsOk x)/\Ext w V:=fun h e=>⟨false,rfl,⟨fun h=>(by cases h),fun h'=>absurd h' h⟩,e2.trans e⟩
 refine⟨_,q 2 r2,_,q 0 r2,IfB.dec (fun c1=>no (fun k=>?_) r2) fun c1=>⟨_,q 0 r2,IfB.dec (fun c2=>no (fun k=>?_) r2) fun c2=>⟨_,q 1 r2,IfB.dec (fun c3=>no (fun k=>?_) r2) fun c3=>⟨_,q 1 r2,IfB.dec (fun c4=>no (fun k=>?_) r2) fun c4=>IfB.dec (fun c5=>no (fun k=>?_) r2) fun c5=>IfB.dec (fun c6=>no (fun k=>?_) r2) fun c6=>⟨_,q 3 r2,IfB.intro (fun c7=>no (fun k=>?_) r2) fun c7=>?_⟩⟩⟩⟩⟩
 ·have:=k.s1;rw[hnm] at c1;omega
 ·have:=k.s16;rw[hnm] at c2;omega
 ·have:=k.a0;rw[har] at c3;omega
 ·have:=k.a3;rw[har] at c4;omega
 ·have:=k.l1;have c5:(v.2.2.1.n:Int)<1:=c5;omega
 ·have:=k.l4;have c6:4<(v.2.2.1.n:Int):=c6;omega
 ·have:=k.cl
  have c7:(v.2.2.2.1.n:Int)≠(v.2.2.1.n:Int):=by simpa using c7
  omega
 have c5:¬(v.2.2.1.n:Int)<1:=c5
 have c6:¬4<(v.2.2.1.n:Int):=c6
 have c7:(v.2.2.2.1.n:Int)=(v.2.2.1.n:Int):=by simpa using c7
 have qn:∀ {V:World},Ext w2 V->V.cell? ⟨b1,0+1,none⟩=some (iv x.2.1):=fun e=>by rw[<-har];exact q 1 e
 let Ok:Nat->Prop:=fun n=>∀i,i<n->∀s c,x.2.2.1[i]? =some s->x.2.2.2.1[i]? =some c->CodeOk s.1 x.2.1/\FootOk s.2 x.2.1/\CompOk c x.2.1
 refine⟨fun m y W=>∃i:Nat,i<=x.2.2.1.length/\m+i=x.2.2.1.length/\y=(i:Int)/\Ok i/\Ext w2 W,⟨_,0,Nat.zero_le _,rfl,rfl,fun i hi=>absurd hi (Nat.not_lt_zero _),r2⟩,?_⟩
 rintro m _ W g ⟨i,hi,hm,rfl,hOk,e⟩
 unfold F115j1
 have hcl:x.2.2.2.1.length=x.2.2.1.length:=by omega
 refine IfB.dec (fun hlt=>?_) fun hge=>?_
 ·have hlt:(i:Int)<(v.2.2.1.n:Int):=hlt
  have hi1:i<x.2.2.1.length:=by omega
  have hi2:i<x.2.2.2.1.length:=by omega
  have hx1:x.2.2.1[i]? =some x.2.2.1[i]:=List.getElem?_eq_getElem hi1
  have hx2:x.2.2.2.1[i]? =some x.2.2.2.1[i]:=List.getElem?_eq_getElem hi2
  have hm1:x.2.2.1[i]∈x.2.2.1:=List.getElem_mem hi1
  have hm2:x.2.2.2.1[i]∈x.2.2.2.1:=List.getElem_mem hi2
  generalize x.2.2.1[i]=s1 at hx1 hm1
  generalize x.2.2.2.1[i]=s2 at hx2 hm2
  have ed:=extDrew W
  have eD:Ext w2 W.drew:=e.trans ed
  have G1:=fun{V:World} (e':Ext w2 V)=>StsR.at (SlR.ext h.st (e2.trans e')) hx1
  have G2:=fun{V:World} (e':Ext w2 V)=>StsR.at (SlR.ext h.co (e2.trans e')) hx2
  unfold F115k1
  obtain⟨b3,o3,t3,hp3,hc3,hS3⟩:=G1 eD
  refine⟨_,q 2 eD,b3,o3,hp3,⟨by omega,hlt⟩,t3.1,by rw[Int.toNat_natCast];exact hc3 0 _ rfl,_,qn eD,(c172 hS3.code _).use ?_⟩
  rintro _ w22 ⟨q1,rfl,hq1,e22⟩
  have E22:=eD.trans e22
  refine⟨q1,rfl,IfB.intro (fun h1=>no (fun k=>?_) E22) fun h1=>?_⟩
  ·have h1:q1=false:=by simpa using h1
   rw[hq1.2 (k.st _ hm1).1] at h1;cases h1
  have k1:=hq1.1 (by simpa using h1)
  obtain⟨b4,o4,t4,hp4,hc4,hS4⟩:=G1 E22
  refine⟨_,q 2 E22,b4,o4,hp4,⟨by omega,hlt⟩,t4.2,by rw[Int.toNat_natCast];exact hc4 1 _ rfl,_,qn E22,(c173 hS4.foot _).use ?_⟩
  rintro _ w30 ⟨q2,rfl,hq2,e30⟩
  have E30:=E22.trans e30
  refine⟨q2,rfl,IfB.intro (fun h2=>no (fun k=>?_) E30) fun h2=>?_⟩
  ·have h2:q2=false:=by simpa using h2
   rw[hq2.2 (k.st _ hm1).2] at h2;cases h2
  have k2:=hq2.1 (by simpa using h2)
  have hlt':(i:Int)<(v.2.2.2.1.n:Int):=by omega
  obtain⟨b5,o5,t5,hp5,hc5,hS5⟩:=G2 E30
  refine⟨_,q 3 E30,b5,o5,hp5,⟨by omega,hlt'⟩,t5.2,by rw[Int.toNat_natCast];exact hc5 1 _ rfl,_,qn E30,(c173 hS5.foot _).use ?_⟩
  rintro _ w38 ⟨q3,rfl,hq3,e38⟩
  have E38:=E30.trans e38
  refine⟨q3,rfl,IfB.intro (fun h3=>no (fun k=>?_) E38) fun h3=>?_⟩
  ·have h3:q3=false:=by simpa using h3
   rw[hq3.2 (k.co _ hm2).2] at h3;cases h3
  have k3:=hq3.1 (by simpa using h3)
  obtain⟨b6,o6,t6,hp6,hc6,hS6⟩:=G2 E38
  have fin:∀ {V:World},Ext w2 V->(s2.1=[]\/CodeOk s2.1 x.2.1/\∀y∈s2.1,y.1<6)->([]:List Nat)=[]/\∃b,b<m/\∃i':Nat,i'<=x.2.2.1.length/\b+i'=x.2.2.1.length/\IntKind.i64.wrap ((i:Int)+1)=(i':Int)/\Ok i'/\Ext w2 V:=fun eV hC=>⟨rfl,m-1,by omega,i+1,hi1,by omega,by rw[wrap_of (by omega) (by omega)];rfl,fun j hj s c hs hc=>by
   rcases Nat.lt_or_ge j i with h'|h'
   ·exact hOk j h' s c hs hc
   ·have:j=i:=by omega
    subst this
    rw[hx1] at hs;rw[hx2] at hc
    cases hs;cases hc
    exact⟨k1,k2,hC,k3⟩,eV⟩
  have h6n:=hS6.cn
  refine⟨_,q 3 E38,b6,o6,hp6,⟨by omega,hlt'⟩,t6.1,by rw[Int.toNat_natCast];exact hc6 0 _ rfl,IfB.dec (fun h4=>?_) fun h4=>?_⟩
  ·refine⟨_,qn E38,(c172 hS6.code _).use ?_⟩
   rintro _ w46 ⟨q4,rfl,hq4,e46⟩
   have E46:=E38.trans e46
   have hne:s2.1≠[]:=fun h=>by rw[h] at h6n;simp at h6n;omega
   refine⟨q4,rfl,IfB.intro (fun h5=>no (fun k=>?_) E46) fun h5=>?_⟩
   ·have h5:q4=false:=by simpa using h5
    rw[hq4.2 ((k.co _ hm2).1.resolve_left hne).1] at h5;cases h5
   have k4:=hq4.1 (by simpa using h5)
   refine⟨fun m' y V=>∃k:Nat,k<=s2.1.length/\m'+k=s2.1.length/\y=(k:Int)/\(∀z∈s2.1.take k,z.1<6)/\Ext w46 V,⟨_,0,Nat.zero_le _,rfl,rfl,by simp,Ch.refl _ _⟩,?_⟩
   rintro m' _ V g' ⟨k,hk,hmk,rfl,hz,eV⟩
   have EV:Ext w2 V:=E46.trans eV
   have k48:=k4.l8
   unfold F115j2
   refine IfB.dec (fun hl=>?_) fun hg=>?_
   ·have hk':k<s2.1.length:=by omega
    have hx:s2.1[k]? =some s2.1[k]:=List.getElem?_eq_getElem hk'
    have hxm:s2.1[k]∈s2.1:=List.getElem_mem hk'
    have htk:=take_succ_get hx
    generalize s2.1[k]=y at hx hxm htk
    obtain⟨b,o,hp,hc⟩:=((hS6.code.ext e46).ext eV).elem (i:=k) (by omega) (by omega) (flatGet insC_len hx)
    refine⟨b,o,hp,⟨by omega,by omega⟩,y.1,by rw[Int.toNat_natCast];exact hc 0 _ rfl,IfB.dec (fun h7=>no (fun kk=>?_) EV) fun h7=>⟨rfl,m'-1,by omega,k+1,hk',by omega,by rw[wrap_of (by omega) (by omega)];rfl,?_,eV⟩⟩
    ·have:=((kk.co _ hm2).1.resolve_left hne).2 y hxm;omega
    ·rw[htk];intro z hz'
     rcases List.mem_append.1 hz' with hz'|hz'
     ·exact hz z hz'
     ·rw[List.mem_singleton.1 hz'];omega
   ·have hk':k=s2.1.length:=by omega
    subst hk'
    rw[List.take_length] at hz
    exact fin EV (.inr ⟨k4,hz⟩)
  ·have hnil:s2.1=[]:=List.eq_nil_of_length_eq_zero (by omega)
   refine⟨fun m' y V=>y=0/\V=w38,⟨0,rfl,rfl⟩,?_⟩
   rintro m' _ _ g' ⟨rfl,rfl⟩
   unfold F115j3
   refine IfB.dec (fun hl=>by omega) fun hg=>fin E38 (.inl hnil)
 ·have hge:¬(i:Int)<(v.2.2.1.n:Int):=hge
  have hii:i=x.2.2.1.length:=by omega
  subst hii
  refine⟨true,rfl,⟨fun _=>⟨by rw[<-hnm];omega,by rw[<-hnm];omega,by rw[<-har];omega,by rw[<-har];omega,by omega,by omega,hcl,fun s hs=>?_,fun c hc=>?_⟩,fun _=>rfl⟩,e2.trans e⟩
  ·obtain⟨j,hj,rfl⟩:=List.getElem_of_mem hs
   have:=hOk j hj _ _ (List.getElem?_eq_getElem hj) (List.getElem?_eq_getElem (show j<x.2.2.2.1.length by omega))
   exact⟨this.1,this.2.1⟩
  ·obtain⟨j,hj,rfl⟩:=List.getElem_of_mem hc
   exact(hOk j (by omega) _ _ (List.getElem?_eq_getElem (by omega)) (List.getElem?_eq_getElem hj)).2.2
theorem c240(a i:Nat)(ha:a<=1000000)(hi:i<=1000000)(w:World):Cw 240 #[iv (a:Int),iv (i:Int)] w fun v w'=>v=.bool (a.testBit i)/\w=w':=by
 refine F240_ok (a:Int) (i:Int) w _ ⟨fun m x W=>∃k:Nat,k<=i/\m+k=i/\x=(((a/2^k:Nat):Int),(k:Int))/\w=W,⟨i,0,Nat.zero_le _,rfl,by simp,rfl⟩,?_⟩
 rintro m _ _ g ⟨k,hk,hm,rfl,rfl⟩
 have hd:a/2^k<=a:=Nat.div_le_self _ _
 refine IfB.dec (fun hl=>⟨by decide,rfl,m-1,by dsimp only at hl;omega,k+1,by dsimp only at hl;omega,by dsimp only at hl;omega,?_,rfl⟩) fun hg=>⟨by decide,?_,rfl⟩
 ·dsimp only
  have e:Int.tdiv ((a/2^k:Nat):Int) 2=((a/2^(k+1):Nat):Int):=by rw[Nat.pow_succ,<-Nat.div_div_eq_div_mul];rfl
  have hd':a/2^(k+1)<=a:=Nat.div_le_self _ _
  rw[e]
  generalize a/2^(k+1)=z at hd' ⊢
  rw[wrap_of (by omega) (by omega),wrap_of (by omega) (by omega)];rfl
 ·have:k=i:=by dsimp only at hg;omega
  subst this
  dsimp only
  rw[Nat.testBit_eq_decide_div_mod_eq]
  congr 1
  have e:Int.tmod ((a/2^k:Nat):Int) 2=((a/2^k%2:Nat):Int):=rfl
  rw[e,Bool.eq_iff_iff,beq_iff_eq,decide_eq_true_eq]
  omega
theorem c194{w:World}{v:CatV}{x:CatD}(h:CatM w v x)(hk:CatOk x)(c d i:Int)(hi:i<=1000000):
  Cw 194 #[cxV v,iv c,iv d,iv i] w fun r w'=>r=.bool (decide (0<=c/\0<=d/\0<=i)&&brkB x c.toNat d.toNat i.toNat)/\Ext w w':=by
 have hn:=cat_cl h
 have h4:=hk.n4
 refine F194_ok v c d i w _ fun b1 w2 a2=>?_
 have e2:Ext w w2:=a2.ch _
 have q0:=boxAt (cs:=cxC v) a2.new 0 (Ch.refl _ _)
 have no:¬((0<=c/\0<=d/\0<=i)/\c.toNat<x.1.length/\d.toNat<x.1.length)->Value.bool false=.bool (decide (0<=c/\0<=d/\0<=i)&&brkB x c.toNat d.toNat i.toNat)/\Ext w w2:=fun hh=>⟨by
  congr 1
  symm
  rw[Bool.eq_false_iff]
  intro ht
  rw[Bool.and_eq_true,decide_eq_true_eq] at ht
  unfold brkB at ht
  simp only[Bool.and_eq_true,decide_eq_true_eq] at ht
  exact hh ⟨ht.1,ht.2.1.1.1,ht.2.1.1.2⟩,e2⟩
 refine⟨v.1,q0,IfB.dec (fun h1=>IfB.dec (fun h2=>IfB.dec (fun h3=>IfB.dec (fun g1=>IfB.dec (fun g2=>IfB.dec (fun g3=>IfB.dec (fun g4=>?_) fun g4=>no fun k=>g4 k.1.2.2) fun g3=>no fun k=>by omega) fun g2=>no fun k=>by omega) fun g1=>no fun k=>g1 k.1.2.1) fun h3=>no fun k=>by omega) fun h2=>no fun k=>by omega) fun h1=>no fun k=>h1 k.1.1⟩
 obtain⟨c,rfl⟩:=Int.eq_ofNat_of_zero_le h1
 obtain⟨d,rfl⟩:=Int.eq_ofNat_of_zero_le g1
 obtain⟨i,rfl⟩:=Int.eq_ofNat_of_zero_le g4
 simp only[Int.toNat_natCast]
 have hc:c<x.1.length:=by omega
 have hd:d<x.1.length:=by omega
 have hx:x.1[c]? =some x.1[c]:=List.getElem?_eq_getElem hc
 have hxm:x.1[c]∈x.1:=List.getElem_mem hc
 generalize x.1[c]=y at hx hxm
 obtain⟨b2,o2,cv,hp,hcc,hM⟩:=ClsR.at (SlR.ext h.cl e2) hx
 have hsn:=hM.st.n
 have hns:=nSt_of hx
 have hy:=hk.cls y hxm
 have hy1:=hy.l1;have hy4:=hy.l4
 have hbr:=hk.br c d (by omega) (by omega)
 have htp:topB x c d<=8:=by
  unfold topB
  split
  ·have:=(pow_range (show nSt x c-1<=3 by omega)).2;omega
  ·omega
 refine⟨v.1,q0,b2,o2,hp,⟨by omega,by omega⟩,cv.2.2.1,hcc 2 _ rfl,IfB.dec (fun g5=>⟨⟨by omega,by omega⟩,⟨by omega,by omega⟩,brk x c d,brk_box h a2.new (Ch.refl _ _) (by omega) (by omega),?_⟩) fun g5=>⟨?_,e2⟩⟩
 ·rw[wrap_of (by omega) (by omega)] at g5
  have hb:brk x c d=(((brk x c d).toNat:Nat):Int):=(Int.toNat_of_nonneg hbr.1).symm
  rw[hb]
  refine(c240 (brk x c d).toNat i (by omega) (by omega) w2).use ?_
  rintro _ _ ⟨rfl,rfl⟩
  refine⟨_,rfl,?_,e2⟩
  unfold brkB
  rw[decide_eq_true (p:=(0:Int)<=(c:Int)/\(0:Int)<=(d:Int)/\(0:Int)<=(i:Int)) (by omega),decide_eq_true hc,decide_eq_true hd,decide_eq_true (p:=i+1<nSt x c) (by omega)];simp
 ·rw[wrap_of (by omega) (by omega)] at g5
  unfold brkB
  rw[decide_eq_false (p:=i+1<nSt x c) (by omega)];simp
theorem c53{w:World}{v:CatV}{x:CatD}(h:CatM w v x):Cw 53 #[cxV v] w fun r w'=>∃b,r=.bool b/\(b=true↔CatOk x)/\Ext w w':=by
 have hn:=cat_cl h
 refine F53_ok v w _ fun b1 w2 a2=>?_
 have e2:Ext w w2:=a2.ch _
 have r2:=Ch.refl (fun _=>False) w2
 have q:=fun{W:World} (e:Ext w2 W)=>boxAt (cs:=cxC v) a2.new 0 e
 have no:∀ {V:World},¬CatOk x->Ext w2 V->∃r,Value.bool false=.bool r/\(r=true↔CatOk x)/\Ext w V:=fun h e=>⟨false,rfl,⟨fun h=>(by cases h),fun h'=>absurd h' h⟩,e2.trans e⟩
 have G:=fun{V:World} {i:Nat} {y:ClsD} (e':Ext w2 V) (hx:x.1[i]? =some y)=>ClsR.at (SlR.ext h.cl (e2.trans e')) hx
 refine⟨_,q r2,IfB.dec (fun h1=>no (fun k=>by have:=k.n1;omega) r2) fun h1=>IfB.dec (fun h2=>no (fun k=>by have:=k.n4;omega) r2) fun h2=>⟨fun m z W=>∃i:Nat,i<=x.1.length/\m+i=x.1.length/\z=(i:Int)/\(∀y∈x.1.take i,ClsOk y)/\(∀(j k:Nat)(a b:ClsD),k<j->j<i->x.1[j]? =some a->x.1[k]? =some b->a.1.toList≠b.1.toList)/\Ext w2 W,⟨_,0,Nat.zero_le _,rfl,rfl,by simp,fun j k a b _ hj=>absurd hj (Nat.not_lt_zero _),r2⟩,?_⟩⟩
 rintro m _ W g ⟨i,hi,hm,rfl,hO,hN,e⟩
 unfold F53j1
 refine IfB.dec (fun hlt=>?_) fun hge=>?_
 ·have hi':i<x.1.length:=by omega
  have hx:x.1[i]? =some x.1[i]:=List.getElem?_eq_getElem hi'
  have hxm:x.1[i]∈x.1:=List.getElem_mem hi'
  have htk:=take_succ_get hx
  generalize x.1[i]=y at hx hxm htk
  obtain⟨b,o,cv,hp,hc,hM⟩:=G e hx
  refine⟨_,q e,b,o,hp,⟨by omega,hlt⟩,cv,by rw[Int.toNat_natCast];exact hc,(c115 hM).use ?_⟩
  rintro _ w16 ⟨r,rfl,hr,e16⟩
  have E16:=e.trans e16
  refine⟨r,rfl,IfB.intro (fun h3=>no (fun k=>?_) E16) fun h3=>?_⟩
  ·have h3:r=false:=by simpa using h3
   rw[hr.2 (k.cls _ hxm)] at h3;cases h3
  have k3:=hr.1 (by simpa using h3)
  refine⟨fun m' z V=>∃k:Nat,k<=i/\m'+k=i/\z=(k:Int)/\(∀(k':Nat) b,k'<k->x.1[k']? =some b->y.1.toList≠b.1.toList)/\Ext w2 V,⟨_,0,Nat.zero_le _,rfl,rfl,fun k' b hk=>absurd hk (Nat.not_lt_zero _),E16⟩,?_⟩
  rintro m' _ V g' ⟨k,hk,hmk,rfl,hD,eV⟩
  unfold F53j2
  refine IfB.dec (fun hl=>?_) fun hg=>?_
  ·have hk':k<x.1.length:=by omega
   have hy:x.1[k]? =some x.1[k]:=List.getElem?_eq_getElem hk'
   generalize x.1[k]=y' at hy
   have eD:Ext w2 V.drew:=eV.trans (extDrew V)
   obtain⟨b3,o3,cv3,hp3,hc3,hM3⟩:=G eD hy
   obtain⟨b4,o4,cv4,hp4,hc4,hM4⟩:=G eD hx
   have n3:=hM3.nm
   have n4:=hM4.nm
   refine⟨_,q eD,b3,o3,hp3,⟨by omega,by show (k:Int)<(v.1.n:Int);omega⟩,cv3.1,by rw[Int.toNat_natCast];exact hc3 0 _ rfl,_,q eD,b4,o4,hp4,⟨by omega,hlt⟩,cv4.1,by rw[Int.toNat_natCast];exact hc4 0 _ rfl,IfB.intro (fun h5=>no (fun kk=>?_) eD) fun h5=>⟨rfl,m'-1,by omega,k+1,by omega,by omega,by rw[wrap_of (by omega) (by omega)];rfl,fun k' b hk2 hb=>?_,eD⟩⟩
   ·rw[n3,n4,beq_iff_eq] at h5
    exact kk.names i k y y' (by omega) hx hy h5.symm
   ·rcases Nat.lt_or_ge k' k with h'|h'
    ·exact hD k' b h' hb
    ·have:k'=k:=by omega
     subst this
     rw[hy] at hb;cases hb
     rw[n3,n4,beq_eq_false_iff_ne] at h5
     exact fun h=>h5 h.symm
  ·have hk':k=i:=by omega
   subst hk'
   refine⟨rfl,m-1,by omega,k+1,hi',by omega,by rw[wrap_of (by omega) (by omega)];rfl,fun z hz=>?_,fun j k2 a b hk2 hj ha hb=>?_,eV⟩
   ·rw[htk] at hz
    rcases List.mem_append.1 hz with hz|hz
    ·exact hO z hz
    ·rw[List.mem_singleton.1 hz];exact k3
   ·rcases Nat.lt_or_ge j k with h'|h'
    ·exact hN j k2 a b hk2 h' ha hb
    ·have:j=k:=by omega
     subst this
     rw[hx] at ha;cases ha
     exact hD k2 b hk2 hb
 ·have hi':i=x.1.length:=by omega
  subst hi'
  rw[List.take_length] at hO
  have hN':∀(j k:Nat)(a b:ClsD),k<j->x.1[j]? =some a->x.1[k]? =some b->a.1.toList≠b.1.toList:=fun j k a b hkj ha hb=>hN j k a b hkj (List.getElem?_eq_some_iff.1 ha).1 ha hb
  refine⟨fun m z W=>∃i:Nat,i<=4/\m+i=4/\z=(i:Int)/\(∀c d,c<i->d<4->0<=brk x c d/\brk x c d<topB x c d)/\Ext w2 W,⟨4,0,Nat.zero_le _,rfl,rfl,fun c d hc=>absurd hc (Nat.not_lt_zero _),e⟩,?_⟩
  rintro m _ W g ⟨c,hc4,hm,rfl,hB,e⟩
  refine IfB.dec (fun hlt=>?_) fun hge=>⟨true,rfl,⟨fun _=>⟨by omega,by omega,hO,hN',fun c' d hc' hd=>hB c' d (by omega) hd⟩,fun _=>rfl⟩,e2.trans e⟩
  refine⟨fun m z W=>∃i:Nat,i<=4/\m+i=4/\z=(i:Int)/\(∀d,d<i->0<=brk x c d/\brk x c d<topB x c d)/\Ext w2 W,⟨4,0,Nat.zero_le _,rfl,rfl,fun d hd=>absurd hd (Nat.not_lt_zero _),e⟩,?_⟩
  rintro m' _ W g ⟨d,hd4,hm',rfl,hB',e⟩
  unfold F53j4
  have fin:∀ {V:World},Ext w2 V->d<4->0<=brk x c d/\brk x c d<topB x c d->([]:List Nat)=[]/\∃b,b<m'/\∃i':Nat,i'<=4/\b+i'=4/\IntKind.i64.wrap ((d:Int)+1)=(i':Int)/\(∀d,d<i'->0<=brk x c d/\brk x c d<topB x c d)/\Ext w2 V:=fun eV hd hb=>⟨rfl,m'-1,by omega,d+1,hd,by omega,by rw[wrap_of (by omega) (by omega)];rfl,fun d' hd'=>by
   rcases Nat.lt_or_ge d' d with h'|h'
   ·exact hB' d' h'
   ·have:d'=d:=by omega
    subst this;exact hb,eV⟩
  have qb:∀ {V:World},Ext w2 V->d<4->V.cell? ⟨b1,0+1+(c:Int).toNat*4+(d:Int).toNat,none⟩=some (iv (brk x c d)):=fun eV hd=>by
   rw[Int.toNat_natCast,Int.toNat_natCast];exact brk_box h a2.new eV (by omega) hd
  refine IfB.dec (fun hl=>?_) fun hg=>⟨rfl,m-1,by omega,c+1,by omega,by omega,by rw[wrap_of (by omega) (by omega)];rfl,fun c' d' hc' hd'=>?_,e⟩
  ·have hd':d<4:=by omega
   have k1:¬(c<x.1.length/\d<x.1.length)->F53k1 (c:Int) (d:Int) W b1 (fun r w'=>∃b,r=.bool b/\(b=true↔CatOk x)/\Ext w w') m' (fun m z W=>∃i:Nat,i<=4/\m+i=4/\z=(i:Int)/\(∀d,d<i->0<=brk x c d/\brk x c d<topB x c d)/\Ext w2 W):=fun hno=>by
    have ht:topB x c d=1:=by unfold topB;rw[if_neg hno]
    refine⟨⟨by omega,by omega⟩,⟨by omega,by omega⟩,_,qb e hd',IfB.dec (fun g1=>no (fun k=>?_) e) fun g1=>⟨⟨by omega,by omega⟩,⟨by omega,by omega⟩,_,qb e hd',IfB.dec (fun g2=>no (fun k=>?_) e) fun g2=>fin e hd' ⟨by omega,by omega⟩⟩⟩
    ·have:=(k.br c d (by omega) hd').1;omega
    ·have:=(k.br c d (by omega) hd').2;omega
   refine IfB.dec (fun g1=>IfB.dec (fun g2=>?_) fun g2=>k1 fun k=>by omega) fun g1=>k1 fun k=>by omega
   have hcl:c<x.1.length:=by omega
   have hdl:d<x.1.length:=by omega
   have hx:x.1[c]? =some x.1[c]:=List.getElem?_eq_getElem hcl
   have hxm:x.1[c]∈x.1:=List.getElem_mem hcl
   generalize x.1[c]=y at hx hxm
   have hns:=nSt_of hx
   have hy1:=(hO y hxm).l1
   have hy4:=(hO y hxm).l4
   have ht:topB x c d=2^(nSt x c-1):=by unfold topB;rw[if_pos ⟨hcl,hdl⟩]
   refine⟨fun m z W=>∃k:Nat,1<=k/\k<=nSt x c/\m+k=nSt x c/\z=((2:Int)^(k-1),(k:Int))/\Ext w2 W,⟨nSt x c-1,1,Nat.le_refl _,by omega,by omega,rfl,e⟩,?_⟩
   rintro m3 _ V g3 ⟨k,hk1,hkn,hm3,rfl,eV⟩
   unfold F53j5
   obtain⟨b5,o5,cv5,hp5,hc5,hM5⟩:=G eV hx
   have hsn:=hM5.st.n
   have hpw:=pow_range (show k-1<=3 by omega)
   refine⟨_,q eV,b5,o5,hp5,⟨by omega,by show (c:Int)<(v.1.n:Int);omega⟩,cv5.2.2.1,by rw[Int.toNat_natCast];exact hc5 2 _ rfl,IfB.dec (fun g5=>?_) fun g5=>?_⟩
   ·dsimp only at g5
    refine⟨rfl,m3-1,by omega,k+1,by omega,by omega,by omega,?_,eV⟩
    dsimp only
    rw[wrap_of (by omega) (by omega),wrap_of (by omega) (by omega),show k+1-1=(k-1)+1 by omega,Int.pow_succ,Int.mul_comm];rfl
   ·dsimp only at g5
    have hkk:k=nSt x c:=by omega
    rw[hkk,<-ht] at hpw
    refine⟨⟨by omega,by omega⟩,⟨by omega,by omega⟩,_,qb eV hd',IfB.dec (fun g1=>no (fun k=>?_) eV) fun g1=>⟨⟨by omega,by omega⟩,⟨by omega,by omega⟩,_,qb eV hd',IfB.dec (fun g2=>no (fun k=>?_) eV) fun g2=>fin eV hd' ⟨by omega,?_⟩⟩⟩
    ·have:=(k.br c d (by omega) hd').1;omega
    ·dsimp only at g2
     rw[hkk,<-ht] at g2
     have:=(k.br c d (by omega) hd').2;omega
    ·dsimp only at g2
     rw[hkk,<-ht] at g2
     omega
  ·have hd':d=4:=by omega
   subst hd'
   rcases Nat.lt_or_ge c' c with h'|h'
   ·exact hB c' d' h' hd'
   ·have:c'=c:=by omega
    subst this;exact hB' d' hd'
set_option maxRecDepth 100000
theorem F149_ok(t0:Sl×List Value)(t1:Int)(w:World)(R:RV)(h:AllocP w (Obj.cells { toList:=Qy t0.fst::t0.2 } 26) fun b1 w2=>IfB (decide (0<=t1)) (Qs w2 b1 (0+0) fun s3=>IfB (decide (t1<(s3.n:Int))) (R (Value.bool (decide (t1<4))) w2) (R (Value.bool false) w2)) (R (Value.bool false) w2)):Cw 149 #[Value.agg { toList:=Qy t0.fst::t0.2 },Qz t1] w R:=
 ckF Tryz.func149 .nil h (by kernel_rfl) (by kernel_rfl)
def F136k1(w55:World)(b1:Nat)(t1:Int)(t2:Int)(n54:Int)(R:RV)(n22:Int)(b53:Nat)(y51:Nat->Int->World->Prop):Prop:=∃(x62:Sl×List Value),CellsN w55 b1 0 17 (Qy x62.fst::x62.2)/\Qv' 185 #[Value.agg { toList:=Qy x62.fst::x62.2 },Qz t1,Qz t2,Qz n54] w55 fun t67 w66=>IfB t67 (R (Value.tuple #[Qz n22,Qz n54,Value.bool true]) w66) (Qn y51 b53 (IntKind.i64.wrap (n54+1)) w66)
def F136j2(t1:Int)(t2:Int)(R:RV)(b1:Nat)(n22:Int)(y32:Nat->Int->World->Prop)(b34:Nat)(n35:Int)(w36:World):Prop:=Qs w36 b1 (0+0) fun s39=>Qx s39.1 t1 (s39.2:Int) fun b40 b41=>Qs w36 b40 (b41+t1.toNat*5+2) fun s42=>IfB (decide (IntKind.i64.wrap (n35+1)<(s42.n:Int))) (F136k1 w36 b1 t1 t2 n35 R n22 b34 y32) (R (Value.tuple #[Qz n22,Qz n35,Value.bool true]) w36)
def F136j3(t1:Int)(t2:Int)(R:RV)(b1:Nat)(n22:Int)(y51:Nat->Int->World->Prop)(b53:Nat)(n54:Int)(w55:World):Prop:=Qs w55 b1 (0+0) fun s58=>Qx s58.1 t1 (s58.2:Int) fun b59 b60=>Qs w55 b59 (b60+t1.toNat*5+2) fun s61=>IfB (decide (IntKind.i64.wrap (n54+1)<(s61.n:Int))) (F136k1 w55 b1 t1 t2 n54 R n22 b53 y51) (R (Value.tuple #[Qz n22,Qz n54,Value.bool true]) w55)
def F136j1(t1:Int)(t2:Int)(t3:Int)(R:RV)(b1:Nat)(y19:Nat->Int->World->Prop)(b21:Nat)(n22:Int)(w23:World):Prop:=IfB (decide (0<n22)) (∃(x26:Sl×List Value),CellsN w23 b1 0 17 (Qy x26.fst::x26.2)/\Qv' 185 #[Value.agg { toList:=Qy x26.fst::x26.2 },Qz t1,Qz t2,Qz (IntKind.i64.wrap (n22-1))] w23 fun t31 w30=>IfB t31 (Ql (α:=Int) t3 w30 fun y32 b34 n35 w36=>(F136j2 t1 t2 R b1 n22 y32 b34 n35 w36)) (Qn y19 b21 (IntKind.i64.wrap (n22-1)) w30)) (Ql (α:=Int) t3 w23 fun y51 b53 n54 w55=>(F136j3 t1 t2 R b1 n22 y51 b53 n54 w55))
theorem F136_ok(t0:Sl×List Value)(t1:Int)(t2:Int)(t3:Int)(w:World)(R:RV)(h:AllocP w (Obj.cells { toList:=Qy t0.fst::t0.2 } 26) fun b1 w2=>∃(x3:Sl×List Value),CellsN w2 b1 0 17 (Qy x3.fst::x3.2)/\Qv' 149 #[Value.agg { toList:=Qy x3.fst::x3.2 },Qz t1] w2 fun t8 w7=>IfB (!t8) (R (Value.tuple #[Qz 0,Qz 0,Value.bool false]) w7) (∃(x9:Sl×List Value),CellsN w7 b1 0 17 (Qy x9.fst::x9.2)/\Qv' 149 #[Value.agg { toList:=Qy x9.fst::x9.2 },Qz t2] w7 fun t14 w13=>IfB (!t14) (R (Value.tuple #[Qz 0,Qz 0,Value.bool false]) w13) (IfB (decide (t3<0)) (R (Value.tuple #[Qz 0,Qz 0,Value.bool false]) w13) (Qs w13 b1 (0+0) fun s15=>Qx s15.1 t1 (s15.2:Int) fun b16 b17=>Qs w13 b16 (b17+t1.toNat*5+2) fun s18=>IfB (decide ((s18.n:Int)<=t3)) (R (Value.tuple #[Qz 0,Qz 0,Value.bool false]) w13) (Ql (α:=Int) t3 w13 fun y19 b21 n22 w23=>(F136j1 t1 t2 t3 R b1 y19 b21 n22 w23)))))):Cw 136 #[Value.agg { toList:=Qy t0.fst::t0.2 },Qz t1,Qz t2,Qz t3] w R:=
 ckF Tryz.func136 (nd (nd (nd (nd (.node (.loop [(11,oi)] (rg [11,11,40,49]) .nil) (nd (.node (.loop [(12,oi)] (rg [12,12,50,66]) .nil) .nil))))))) h (by kernel_rfl) (by kernel_rfl)
theorem F150_ok(t0:Sl)(w:World)(R:RV)(h:IfB (decide ((t0.n:Int)<=40)) (Cx 199 #[Qy t0,Value.func (Fn.func 200) #[] #[]] w fun v1 w2=>∃t3:Bool,v1=Value.bool t3/\R (Value.bool !t3) w2) (R (Value.bool false) w)):Cw 150 #[Qy t0] w R:=
 ckF Tryz.func150 .nil h (by kernel_rfl) (by kernel_rfl)
theorem F200_ok(t0:Int×Int)(w:World)(R:RV)(h:AllocP w (Obj.cells #[Qz t0.1,Qz t0.2] 101) fun b1 w2=>∃(x3:Int×Int),CellsAt w2 b1 0 [Qz x3.1,Qz x3.2]/\Qv' 201 #[Value.agg #[Qz x3.1,Qz x3.2]] w2 fun t6 w5=>R (Value.bool !t6) w5):Cw 200 #[Value.agg #[Qz t0.1,Qz t0.2]] w R:=
 ckF Tryz.func200 .nil h (by kernel_rfl) (by kernel_rfl)
def F151k1(t0:Sl)(w2:World)(b1:Nat)(R:RV)(t2:Int):Prop:=Qx t0.1 (IntKind.i64.wrap ((t0.2:Int)-1)) (t0.2:Int) fun b5 b6=>∃(x7:Int×Int×Int×Bool×Sl×Sl),CellsAt w2 b5 (b6+(IntKind.i64.wrap ((t0.2:Int)-1)).toNat*6) (lC53 x7)/\AllocP w2 (Obj.cells #[Qz 0,Qz 0,Qz 0,Value.bool false,Value.slice none 0 0,Value.slice none 0 0] 53) fun b8 w9=>(lC53 x7).toArray.size=6/\StoreP w9 b8 0 (lC53 x7) fun w10=>Qi w10 b1 (0+1) fun n11=>Qi w10 b8 (0+1) fun n12=>IfB (n11 != n12) (R (Value.bool false) w10) (Qb w10 b1 (0+3) fun t13=>IfB (!t13) (Qb w10 b8 (0+3) fun t14=>IfB (!t14) (Qi w10 b1 (0+2) fun n15=>Qi w10 b8 (0+2) fun n16=>IfB (n15 == IntKind.i64.wrap (n16+1)) (Qi w10 b1 (0+2) fun n17=>R (Value.bool (decide (n17<t2))) w10) (R (Value.bool false) w10)) (R (Value.bool false) w10)) (Qb w10 b8 (0+3) fun t18=>IfB (!t18) (Qi w10 b1 (0+2) fun n19=>Qi w10 b8 (0+2) fun n20=>R (Value.bool (n19 == n20)) w10) (Qi w10 b1 (0+2) fun n21=>Qi w10 b8 (0+2) fun n22=>R (Value.bool (n21 == IntKind.i64.wrap (n22-1))) w10)))
theorem F151_ok(t0:Sl)(t1:Int×Int×Int×Bool×Sl×Sl)(t2:Int)(w:World)(R:RV)(h:AllocP w (Obj.cells (lC53 t1).toArray 53) fun b1 w2=>IfB ((t0.2:Int) == 0) (Qb w2 b1 (0+3) fun t3=>IfB (!t3) (Qi w2 b1 (0+2) fun n4=>R (Value.bool (n4 == 0)) w2) (R (Value.bool false) w2)) (F151k1 t0 w2 b1 R t2)):Cw 151 #[Qy t0,(.agg (lC53 t1).toArray),Qz t2] w R:=
 ckF Tryz.func151 .nil h (by kernel_rfl) (by kernel_rfl)
def F84k1(w52:World)(b21:Nat)(b9:Nat)(b13:Nat)(y11:Nat->Int->World->Prop)(n14:Int):Prop:=Qi w52.drew b21 (0+0) fun n54=>Qi w52.drew b21 (0+0) fun n55=>∃(x56:Int×Int×Int×Bool×Sl×Sl),CellsAt w52.drew b21 0 (lC53 x56)/\(MapGetP (TypeDesc.int IntKind.i64) w52.drew (Value.map (some b9)) (Qz n55) (Value.slice none 0 0) fun(v57:Value) (t58:Bool)=>∃s59:Sl,v57=Qy s59/\CellsAt w52.drew b21 0 (lC53 x56)/\w52.drew.cell? ⟨b21,0+0,none⟩=some (Qz n54)/\1*6<=16777216/\AllocP w52.drew (Obj.cells (lC53 x56).toArray 53) fun b60 w61=>w61.cell? ⟨b21,0+0,none⟩=some (Qz n54)/\∃(l62:List Value),ReadC w61 (some ⟨b60,0,none⟩) (1*6) l62/\AppendP tt53 53 w61 s59.1 s59.2 s59.3 1 l62 fun s63 w64=>w64.cell? ⟨b21,0+0,none⟩=some (Qz n54)/\MapSetP (TypeDesc.int IntKind.i64) w64 (Value.map (some b9)) (Qz n54) (Qy s63) fun w65=>Qn y11 b13 (IntKind.i64.wrap (n14+1)) w65)/\1*6<=16777216/\AllocP w52.drew (Obj.cells (lC53 x56).toArray 53) fun b67 w68=>w68.cell? ⟨b21,0+0,none⟩=some (Qz n55)/\w68.cell? ⟨b21,0+0,none⟩=some (Qz n54)/\MapGetP (TypeDesc.int IntKind.i64) w68 (Value.map (some b9)) (Qz n55) (Value.slice none 0 0) fun(v69:Value) (t70:Bool)=>∃s71:Sl,v69=Qy s71/\w68.cell? ⟨b21,0+0,none⟩=some (Qz n54)/\∃(l72:List Value),ReadC w68 (some ⟨b67,0,none⟩) (1*6) l72/\AppendP tt53 53 w68 s71.1 s71.2 s71.3 1 l72 fun s73 w74=>w74.cell? ⟨b21,0+0,none⟩=some (Qz n54)/\MapSetP (TypeDesc.int IntKind.i64) w74 (Value.map (some b9)) (Qz n54) (Qy s73) fun w75=>Qn y11 b13 (IntKind.i64.wrap (n14+1)) w75
def F84k2(w30:World)(b21:Nat)(R:RV)(b1:Nat)(b9:Nat)(b13:Nat)(y11:Nat->Int->World->Prop)(n14:Int):Prop:=Qs w30 b21 (0+4) fun s33=>Qv' 150 #[Qy s33] w30 fun t36 w35=>IfB (!t36) (R (Value.bool false) w35) (Qs w35 b21 (0+5) fun s37=>Qv' 150 #[Qy s37] w35 fun t40 w39=>IfB (!t40) (R (Value.bool false) w39) (Qi w39 b21 (0+0) fun n41=>∃(x42:Int×Int×Int×Bool×Sl×Sl),CellsAt w39 b21 0 (lC53 x42)/\Qs w39 b1 (0+0) fun s43=>Qi w39 b21 (0+1) fun n44=>Qx s43.1 n44 (s43.2:Int) fun b45 b46=>Qs w39 b45 (b46+n44.toNat*5+2) fun s47=>MapGetP (TypeDesc.int IntKind.i64) w39 (Value.map (some b9)) (Qz n41) (Value.slice none 0 0) fun(v48:Value) (t49:Bool)=>∃s50:Sl,v48=Qy s50/\w39.cell? ⟨b45,b46+n44.toNat*5+2,none⟩=some (Qy s47)/\w39.cell? ⟨b21,0+1,none⟩=some (Qz n44)/\w39.cell? ⟨b1,0+0,none⟩=some (Qy s43)/\CellsAt w39 b21 0 (lC53 x42)/\Qv' 151 #[Qy s50,Value.agg (lC53 x42).toArray,Qz (s47.2:Int)] w39 fun t53 w52=>IfB (!t53) (R (Value.bool false) w52) (F84k1 w52 b21 b9 b13 y11 n14)))
def F84j1(t1:Sl)(R:RV)(b1:Nat)(b9:Nat)(y11:Nat->Int->World->Prop)(b13:Nat)(n14:Int)(w15:World):Prop:=IfB (decide (n14<(t1.n:Int))) (Qx t1.1 n14 (t1.2:Int) fun b18 b19=>∃(x20:Int×Int×Int×Bool×Sl×Sl),CellsAt w15 b18 (b19+n14.toNat*6) (lC53 x20)/\AllocP w15 (Obj.cells #[Qz 0,Qz 0,Qz 0,Value.bool false,Value.slice none 0 0,Value.slice none 0 0] 53) fun b21 w22=>(lC53 x20).toArray.size=6/\StoreP w22 b21 0 (lC53 x20) fun w23=>Qi w23.drew b21 (0+0) fun n24=>IfB (decide (n24<0)) (R (Value.bool false) w23.drew) (∃(x25:Sl×List Value),CellsN w23.drew b1 0 17 (Qy x25.fst::x25.2)/\Qi w23.drew b21 (0+1) fun n28=>Qv' 149 #[Value.agg { toList:=Qy x25.fst::x25.2 },Qz n28] w23.drew fun t31 w30=>IfB (!t31) (R (Value.bool false) w30) (Qi w30 b21 (0+2) fun n32=>IfB (decide (n32<0)) (R (Value.bool false) w30) (F84k2 w30 b21 R b1 b9 b13 y11 n14)))) (R (Value.bool true) w15)
theorem F84_ok(t0:Sl×List Value)(t1:Sl)(w:World)(R:RV)(h:AllocP w (Obj.cells { toList:=Qy t0.fst::t0.2 } 26) fun b1 w2=>∃(x3:Sl×List Value),CellsN w2 b1 0 17 (Qy x3.fst::x3.2)/\Qv' 75 #[Value.agg { toList:=Qy x3.fst::x3.2 }] w2 fun t8 w7=>IfB (!t8) (R (Value.bool false) w7) (IfB (decide (100<(t1.n:Int))) (R (Value.bool false) w7) (AllocP w7 (Obj.map #[] 0) fun b9 w10=>Ql (α:=Int) 0 w10 fun y11 b13 n14 w15=>(F84j1 t1 R b1 b9 y11 b13 n14 w15)))):Cw 84 #[Value.agg { toList:=Qy t0.fst::t0.2 },Qy t1] w R:=
 ckF Tryz.func84 (nd (nd (nd (.node (nd (.loop [(19,oi)] (rg [4,4,7,7,19,77]) (nd (nd (.node (nd (.node (.node (.draw (sts [0,1,2,3,4,5,6] (.ac 7 [] (sts [8,9,10,11,12,13,14,15,16,17] (.ac 18 [] (sts [19,20,21,22,23] (.ac 24 [] (sts [25,26,27,28,29,30,32,33,34,35,36,37,38,39,40] (.ac 31 (rg [32,40]) (.ac 41 [] (sts [42,43] .fin) .non) .non)) .non)) .non)) .non))) .nil) (.draw (sts [0,1,2,3,4,5,7] (.ac 6 [7,2,1,0] (.ac 8 [2,1,0] (.ac 9 [2,1,0] (.ac 10 [] .fin .non) .non) .non) (.ac 8 (rg [0,5]) (.ac 6 [2,1,0] (.ac 9 [2,1,0] (.ac 10 [] .fin .non) .non) .non) .non)))))) .nil))))) .nil)))) h (by kernel_rfl) (by kernel_rfl)
theorem F199_ok(t0:Sl)(t1:Nat×Array Value)(w:World)(R:RV)(h:Cx 241 #[Qy t0,Value.func (Fn.func t1.1) #[] t1.2] w fun v1 w2=>∃n3:Int,v1=Qz n3/\R (Value.bool (decide (0<=n3))) w2):Cw 199 #[Qy t0,Value.func (Fn.func t1.1) #[] t1.2] w R:=
 ckF Tryz.func199 .nil h (by kernel_rfl) (by kernel_rfl)
theorem cxN{w W:World}{v:CatV}{x:CatD}{b:Nat}{T:TypeId}(h:CatM w v x)(hb:W.heap[b]? =some (.cells (cxC v).toArray T (0,0))){W':World}(e:Ext W W'):CellsN W' b 0 17 (cxC v):=
 CellsN.mk (by simp[h.br,h.b16]) (boxAll (cs:=cxC v) hb e)
theorem c149{w:World}{v:CatV}{x:CatD}(h:CatM w v x)(c:Int):Cw 149 #[cxV v,iv c] w fun r w'=>r=.bool (decide (0<=c/\c<(x.1.length:Int)/\c<4))/\Ext w w':=by
 have hn:=cat_cl h
 refine F149_ok v c w _ fun b1 w2 a2=>?_
 have e2:Ext w w2:=a2.ch _
 refine IfB.dec (fun h1=>⟨v.1,boxAt (cs:=cxC v) a2.new 0 (Ch.refl _ _),IfB.dec (fun h2=>⟨?_,e2⟩) fun h2=>⟨?_,e2⟩⟩) fun h1=>⟨by rw[decide_eq_false (by omega)],e2⟩
 ·congr 1;rw[Bool.eq_iff_iff,decide_eq_true_eq,decide_eq_true_eq];omega
 ·rw[decide_eq_false (by omega)]
theorem steps_at{w W:World}{v:CatV}{x:CatD}(h:CatM w v x){c:Nat}{y:ClsD}(hx:x.1[c]? =some y)(e:Ext w W):∃b o s,v.1.p=some ⟨b,o,none⟩/\W.cell? ⟨b,o+c*5+2,none⟩=some (slV s)/\s.n=y.2.2.1.length/\StsR W s y.2.2.1:=by
 obtain⟨b,o,cv,hp,hc,hM⟩:=ClsR.at (SlR.ext h.cl e) hx
 exact⟨b,o,cv.2.2.1,hp,hc 2 _ rfl,hM.st.n,hM.st⟩
def BndOk(x:CatD)(c d i:Int):Prop:=(0<=c/\c<(x.1.length:Int))/\(0<=d/\d<(x.1.length:Int))/\0<=i/\i<(nSt x c.toNat:Int)
theorem c136{w:World}{v:CatV}{x:CatD}(h:CatM w v x)(hk:CatOk x)(c d i:Int):
  Cw 136 #[cxV v,iv c,iv d,iv i] w fun r w'=>∃lo hi b,r=.tuple #[iv lo,iv hi,.bool b]/\(b=true↔BndOk x c d i)/\(b=true->∃l u:Nat,lo=l/\hi=u/\BndP x c.toNat d.toNat i.toNat l u)/\Ext w w':=by
 have hn:=cat_cl h
 have h4:=hk.n4
 refine F136_ok v c d i w _ fun b1 w2 a2=>?_
 have e2:Ext w w2:=a2.ch _
 have no:∀ {V:World},¬BndOk x c d i->Ext w V->∃lo hi b,Value.tuple #[.int .i64 0,.int .i64 0,.bool false]=.tuple #[iv lo,iv hi,.bool b]/\(b=true↔BndOk x c d i)/\(b=true->∃l u:Nat,lo=l/\hi=u/\BndP x c.toNat d.toNat i.toNat l u)/\Ext w V:=fun h e=>⟨0,0,false,rfl,⟨fun h=>(by cases h),fun h'=>absurd h' h⟩,fun h=>(by cases h),e⟩
 refine⟨v,cxN h a2.new (Ch.refl _ _),(c149 (h.ext e2) c).use ?_⟩
 rintro _ w7 ⟨rfl,e7⟩
 have e27:=e2.trans e7
 refine⟨_,rfl,IfB.intro (fun h1=>no (fun k=>?_) e27) fun h1=>⟨v,cxN h a2.new e7,(c149 (h.ext e27) d).use ?_⟩⟩
 ·rw[decide_eq_true (show 0<=c/\c<(x.1.length:Int)/\c<4 by have:=k.1;omega)] at h1;cases h1
 have hc:0<=c/\c<(x.1.length:Int):=by
  have:=(by simpa using h1:0<=c/\c<(x.1.length:Int)/\c<4);omega
 rintro _ w13 ⟨rfl,e13⟩
 have e213:=e27.trans e13
 have x213:Ext w2 w13:=e7.trans e13
 refine⟨_,rfl,IfB.intro (fun h2=>no (fun k=>?_) e213) fun h2=>IfB.dec (fun h3=>no (fun k=>by have:=k.2.2;omega) e213) fun h3=>?_⟩
 ·rw[decide_eq_true (show 0<=d/\d<(x.1.length:Int)/\d<4 by have:=k.2.1;omega)] at h2;cases h2
 have hd:0<=d/\d<(x.1.length:Int):=by
  have:=(by simpa using h2:0<=d/\d<(x.1.length:Int)/\d<4);omega
 obtain⟨C,rfl⟩:=Int.eq_ofNat_of_zero_le hc.1
 obtain⟨D,rfl⟩:=Int.eq_ofNat_of_zero_le hd.1
 obtain⟨I,rfl⟩:=Int.eq_ofNat_of_zero_le (show 0<=i by omega)
 have hC:C<x.1.length:=by omega
 have hD:D<x.1.length:=by omega
 have hx:x.1[C]? =some x.1[C]:=List.getElem?_eq_getElem hC
 have hxm:x.1[C]∈x.1:=List.getElem_mem hC
 generalize x.1[C]=y at hx hxm
 have hns:=nSt_of hx
 have hy4:=(hk.cls y hxm).l4
 have q0:∀ {W:World},Ext w2 W->W.cell? ⟨b1,0+0,none⟩=some (slV v.1):=fun e=>boxAt (cs:=cxC v) a2.new 0 e
 have st:=fun{W:World} (e:Ext w W)=>steps_at h hx e
 obtain⟨p1,o1,s1,hp1,hc1,hs1,_⟩:=st e213
 refine⟨v.1,q0 x213,p1,o1,hp1,⟨by omega,by omega⟩,s1,by rw[Int.toNat_natCast];exact hc1,IfB.dec (fun h5=>no (fun k=>?_) e213) fun h5=>?_⟩
 ·have:=k.2.2.2;rw[Int.toNat_natCast] at this;omega
 have hI:I<nSt x C:=by omega
 have hbo:BndOk x (C:Int) (D:Int) (I:Int):=⟨hc,hd,by omega,by rw[Int.toNat_natCast];omega⟩
 have tail:∀(lo:Nat)(W:World),lo<=I->(∀m,lo<=m->m<I->brkB x C D m=false)->(lo=0\/brkB x C D (lo-1)=true)->Ext w2 W->Ext w W->
   ∃(y51:Nat->Int->World->Prop),(∃b52:Nat,y51 b52 (I:Int) W)/\∀(b53:Nat)(n54:Int)(w55:World)(y56:Nat->Value),y51 b53 n54 w55->
    (F136j3 (C:Int) (D:Int) (fun r w'=>∃lo hi b,r=.tuple #[iv lo,iv hi,.bool b]/\(b=true↔BndOk x (C:Int) (D:Int) (I:Int))/\(b=true->∃l u:Nat,lo=l/\hi=u/\BndP x (C:Int).toNat (D:Int).toNat (I:Int).toNat l u)/\Ext w w') b1 (lo:Int) y51 b53 n54 w55):=by
  intro lo W hlo hno hbl x0 X0
  refine⟨fun m n V=>∃hi:Nat,I<=hi/\hi<nSt x C/\m+hi=nSt x C/\n=(hi:Int)/\(∀m,lo<=m->m<hi->brkB x C D m=false)/\Ext w2 V/\Ext w V,⟨nSt x C-I,I,Nat.le_refl _,hI,by omega,rfl,hno,x0,X0⟩,?_⟩
  rintro m _ V g ⟨hi,h1,h2,hm,rfl,hno',xV,XV⟩
  have fin:∀ {V':World},(hi+1=nSt x C\/brkB x C D hi=true)->Ext w V'->∃lo' hi' b,Value.tuple #[.int .i64 (lo:Int),.int .i64 (hi:Int),.bool true]=.tuple #[iv lo',iv hi',.bool b]/\(b=true↔BndOk x (C:Int) (D:Int) (I:Int))/\(b=true->∃l u:Nat,lo'=l/\hi'=u/\BndP x (C:Int).toNat (D:Int).toNat (I:Int).toNat l u)/\Ext w V':=fun hb e=>⟨lo,hi,true,rfl,⟨fun _=>hbo,fun _=>rfl⟩,fun _=>⟨lo,hi,rfl,rfl,hlo,h1,h2,hno',hbl,hb⟩,e⟩
  unfold F136j3
  obtain⟨p2,o2,s2,hp2,hc2,hs2,_⟩:=st XV
  refine⟨v.1,q0 xV,p2,o2,hp2,⟨by omega,by omega⟩,s2,by rw[Int.toNat_natCast];exact hc2,?_⟩
  rw[wrap_of (by omega) (by omega)]
  refine IfB.dec (fun h6=>?_) fun h6=>fin (.inl (by omega)) XV
  refine⟨v,cxN h a2.new xV,(c185 (h.ext XV) hk hC hD (hi:Int)).use ?_⟩
  rintro _ w66 ⟨rfl,e66⟩
  rw[Int.toNat_natCast,decide_eq_true (show (0:Int)<=(hi:Int) by omega),Bool.true_and]
  refine⟨_,rfl,IfB.intro (fun h7=>fin (.inr h7) (XV.trans e66)) fun h7=>⟨rfl,m-1,by omega,hi+1,by omega,by omega,by omega,by rw[wrap_of (by omega) (by omega)];rfl,fun m h8 h9=>?_,xV.trans e66,XV.trans e66⟩⟩
  rcases Nat.lt_or_ge m hi with h'|h'
  ·exact hno' m h8 h'
  ·rw[show m=hi by omega];exact h7
 refine⟨fun m n V=>∃lo:Nat,m=lo/\lo<=I/\n=(lo:Int)/\(∀m,lo<=m->m<I->brkB x C D m=false)/\Ext w2 V/\Ext w V,⟨I,I,rfl,Nat.le_refl _,rfl,fun m h1 h2=>by omega,x213,e213⟩,?_⟩
 rintro m _ V g ⟨lo,rfl,hlo,rfl,hno,xV,XV⟩
 unfold F136j1
 refine IfB.dec (fun h6=>⟨v,cxN h a2.new xV,?_⟩) fun h6=>tail m V hlo hno (.inl (by omega)) xV XV
 rw[wrap_of (n:=(m:Int)-1) (by omega) (by omega),show (m:Int)-1=((m-1:Nat):Int) by omega]
 refine(c185 (h.ext XV) hk hC hD ((m-1:Nat):Int)).use ?_
 rintro _ w30 ⟨rfl,e30⟩
 rw[Int.toNat_natCast,decide_eq_true (show (0:Int)<=((m-1:Nat):Int) by omega),Bool.true_and]
 refine⟨_,rfl,IfB.intro (fun h7=>tail m w30 hlo hno (.inr h7) (xV.trans e30) (XV.trans e30)) fun h7=>⟨rfl,m-1,by omega,m-1,rfl,by omega,rfl,fun k h8 h9=>?_,xV.trans e30,XV.trans e30⟩⟩
 rcases Nat.lt_or_ge k m with h'|h'
 ·rw[show k=m-1 by omega];exact h7
 ·exact hno k h' h9
def bothS(x y:Spn):Spn:=(if x.1<y.1 then y.1 else x.1,if y.2<x.2 then y.2 else x.2)
def meetRow(x:Spn)(bs:List Spn):List Spn:=(bs.map (bothS x)).filter fun s=>decide (s.1<=s.2)
def meetL(ls bs:List Spn):List Spn:=ls.flatMap fun x=>meetRow x bs
theorem meetRow_take{x y:Spn}{bs:List Spn}{j:Nat}(h:bs[j]? =some y):meetRow x (bs.take (j+1))=meetRow x (bs.take j)++if (bothS x y).1<=(bothS x y).2 then [bothS x y] else []:=by
 unfold meetRow
 rw[take_succ_get h,List.map_append,List.filter_append]
 congr 1
 by_cases hc:(bothS x y).1<=(bothS x y).2<;>simp[hc]
theorem meetL_take{ls bs:List Spn}{i:Nat}{x:Spn}(h:ls[i]? =some x):meetL (ls.take (i+1)) bs=meetL (ls.take i) bs++meetRow x bs:=by
 unfold meetL;rw[take_succ_get h,List.flatMap_append];simp
structure InvM(b1 b3:Nat)(sa sb:Sl)(ls bs:List Spn)(W:World):Prop where
 a:∃T,W.heap[b1]? =some (.cells #[slV sa] T (0,0))
 b:∃T,W.heap[b3]? =some (.cells #[slV sb] T (0,0))
 ra:Rd W sa 2 (ls.flatMap sv)
 rb:Rd W sb 2 (bs.flatMap sv)
theorem InvM.stb{n b1 b3:Nat}{sa sb:Sl}{ls bs:List Spn}{W W':World}(h:InvM b1 b3 sa sb ls bs W)(hS:Stb n W W'):InvM b1 b3 sa sb ls bs W':=by
 obtain⟨⟨T,h1⟩,⟨T',h2⟩,h3,h4⟩:=h
 exact⟨⟨T,hS.keep _ _ h1 rfl⟩,⟨T',hS.keep _ _ h2 rfl⟩,rd_stb h3 hS,rd_stb h4 hS⟩
abbrev spA(x:Spn):Array Value:=#[spV x]
theorem itM(b1 b3:Nat)(sa sb:Sl)(ls bs:List Spn)(hla:ls.length<=1000000)(hlb:bs.length<=1000000):
  IterU Tryz.prog 229 #[.pointer (some ⟨b1,0,none⟩),.pointer (some ⟨b3,0,none⟩)] spA false (fun pre x=>∃post,pre++x::post=meetL ls bs) (fun xs=>xs=meetL ls bs) (InvM b1 b3 sa sb ls bs):=by
 refine⟨en229,fun l J Jx U W hJ hJx hInv hSz _ hU hU1 hstep h0=>?_⟩
 have hI0:=hInv _ _ h0
 have han:=rdN sv_len (by omega) hI0.ra
 have hbn:=rdN sv_len (by omega) hI0.rb
 obtain⟨T1,hT1⟩:=hI0.a
 refine F229_ok l b1 b3 W _ ⟨sa,by rw[cell_of hT1];rfl,fun n x w6=>∃i:Nat,i<=ls.length/\n+i=ls.length/\x=(i:Int)/\J (meetL (ls.take i) bs) w6,⟨ls.length,0,Nat.zero_le _,rfl,rfl,h0⟩,?_⟩
 rintro n _ w6 g ⟨i,hi,hni,rfl,hj⟩
 have hw6:=hSz _ _ hj
 unfold F229j1
 refine IfB.dec (fun hlt=>?_) fun hge=>?_
 ·have hi':i<ls.length:=by omega
  have hx:ls[i]? =some ls[i]:=List.getElem?_eq_getElem hi'
  have hmt:=meetL_take (bs:=bs) hx
  have hsplit:∀(q:List Spn),(∃r,q++r=meetRow ls[i] bs)->∃r,meetL (ls.take i) bs++q++r=meetL ls bs:=fun q ⟨r,hr⟩=>by
   refine⟨r++meetL (ls.drop (i+1)) bs,?_⟩
   have:meetL ls bs=meetL (ls.take (i+1)) bs++meetL (ls.drop (i+1)) bs:=by
    unfold meetL;rw[<-List.flatMap_append,List.take_append_drop]
   rw[this,hmt,<-hr];simp
  generalize ls[i]=x at hx hmt hsplit
  obtain⟨a,o,hp,hc⟩:=(hInv _ _ hj).ra.elem (i:=i) (by omega) (by omega) (flatGet sv_len hx)
  refine⟨a,o,hp,⟨by omega,hlt⟩,x,by rw[Int.toNat_natCast];exact hc,boxSp rfl fun b12 w14 hb12 hs14 h14 e14 hS14=>?_⟩
  have hj14:=hJ _ _ _ hj (hS14 _ hw6)
  have hI14:=hInv _ _ hj14
  obtain⟨T2,hT2⟩:=hI14.b
  have hn12:¬U w14 b12:=fun h=>by
   have:=hU1 _ _ hj _ (hU _ _ (hS14 _ hw6) _ h)
   omega
  refine⟨sb,by rw[cell_of hT2];rfl,fun m y w20=>∃j:Nat,j<=bs.length/\m+j=bs.length/\y=(j:Int)/\J (meetL (ls.take i) bs++meetRow x (bs.take j)) w20/\(∃T,w20.heap[b12]? =some (.cells #[.int .i64 x.1,.int .i64 x.2] T (0,0)))/\¬U w20 b12,
   ⟨bs.length,0,Nat.zero_le _,rfl,rfl,by simpa [meetRow] using hj14,⟨_,h14⟩,hn12⟩,?_⟩
  rintro m _ w20 g ⟨j,hj1,hmj,rfl,hJ20,⟨T3,h20⟩,hn20⟩
  have hw20:=hSz _ _ hJ20
  unfold F229j2
  refine IfB.dec (fun hlt2=>?_) fun hge2=>?_
  ·have hj':j<bs.length:=by omega
   have hy:bs[j]? =some bs[j]:=List.getElem?_eq_getElem hj'
   have hmr:=meetRow_take (x:=x) hy
   have hrest:∃r,meetRow x (bs.take (j+1))++r=meetRow x bs:=⟨meetRow x (bs.drop (j+1)),by
    unfold meetRow;rw[<-List.filter_append,<-List.map_append,List.take_append_drop]⟩
   generalize bs[j]=y at hy hmr
   obtain⟨a2,o2,hp2,hc2⟩:=(hInv _ _ hJ20).rb.elem (i:=j) (by omega) (by omega) (flatGet sv_len hy)
   have hi1:IntKind.i64.wrap ((j:Int)+1)=((j+1:Nat):Int):=by rw[wrap_of (by omega) (by omega)];rfl
   have hlt12:=heap_lt h20
   refine⟨a2,o2,hp2,⟨by omega,hlt2⟩,y,by rw[Int.toNat_natCast];exact hc2,boxSp rfl fun b26 w28 hb26 hs28 h28 e28 hS28=>?_⟩
   have k28:=e28.at h20
   refine⟨x.1,by rw[cell_of k28];rfl,y.1,by rw[cell_of h28];rfl,x.2,by rw[cell_of k28];rfl,y.2,by rw[cell_of h28];rfl,boxSp (x:=bothS x y) rfl fun b33 w35 hb33 hs35 h35 e35 hS35=>?_⟩
   have hS:∀n,n<=w20.heap.size->Stb n w20 w35:=fun n hn=>(hS28 n hn).trans (hS35 n (by omega))
   have hJ35:=hJ _ _ _ hJ20 (hS _ hw20)
   have k35:=e35.at k28
   have hn35:¬U w35 b12:=fun h=>hn20 (hU _ _ (hS _ hw20) _ h)
   refine⟨(bothS x y).1,by rw[cell_of h35];rfl,(bothS x y).2,by rw[cell_of h35];rfl,IfB.dec (fun hne=>?_) fun hne=>?_⟩
   ·rw[if_pos hne] at hmr
    refine⟨bothS x y,cellsAt_of h35 fun i v hv=>by simpa using hv,(hstep _ (bothS x y) w35 hJ35 ?_).mono fun t w40 ht=>?_⟩
    ·obtain⟨r,hr⟩:=hsplit _ hrest
     exact⟨r,by rw[<-hr,hmr];simp⟩
    ·cases t with
     | false=>exact IfB.yes rfl (.inr ⟨_,ht⟩)
     | true=>
      obtain⟨hJ40,_,hK⟩:=ht
      refine IfB.no rfl ⟨rfl,m-1,by omega,j+1,hj',by omega,hi1,?_,⟨T3,?_⟩,fun h=>?_⟩
      ·rw[hmr,<-List.append_assoc];exact hJ40
      ·rw[hK.at' b12 (by omega) (by omega) hn35];exact k35
      ·rcases hK.own _ h with h|h
       ·exact hn35 h
       ·omega
   ·rw[if_neg hne,List.append_nil] at hmr
    exact⟨rfl,m-1,by omega,j+1,hj',by omega,hi1,by rw[hmr];exact hJ35,⟨T3,k35⟩,hn35⟩
  ·have hj':j=bs.length:=by omega
   subst hj'
   rw[List.take_length] at hJ20
   exact⟨rfl,n-1,by omega,i+1,hi',by omega,by rw[wrap_of (by omega) (by omega)];rfl,by rw[hmt];exact hJ20⟩
 ·have hi':i=ls.length:=by omega
  subst hi'
  rw[List.take_length] at hj
  exact .inl ⟨_,rfl,hj⟩
theorem c188(sa sb:Sl)(w:World):Cw 188 #[slV sa,slV sb] w fun v w'=>∃b1 b3,v=.func (.func 229) #[] #[.pointer (some ⟨b1,0,none⟩),.pointer (some ⟨b3,0,none⟩)]/\
  (∃T,w'.heap[b1]? =some (.cells #[slV sa] T (0,0)))/\(∃T,w'.heap[b3]? =some (.cells #[slV sb] T (0,0)))/\w.heap.size<=b1/\w.heap.size<=b3/\Ext w w':=
 F188_ok sa sb w _ fun b1 w2 h2 b3 w4 h4=>⟨b1,b3,rfl,⟨_,h4.at h2.new⟩,⟨_,h4.new⟩,Nat.le_of_eq h2.here.symm,by rw[h4.here,h2.size];omega,(h2.ch _).trans (h4.ch _)⟩
theorem meetL_iff{ls bs:List Spn}(ha:∀x∈ls,mayS x)(hb:∀x∈bs,mayS x):meetL ls bs≠[]↔∃k,hasS ls k/\hasS bs k:=by
 constructor
 ·intro h
  obtain⟨s,hs⟩:=List.exists_mem_of_ne_nil _ h
  obtain⟨x,hx,hs⟩:=List.mem_flatMap.1 hs
  obtain⟨hs,hd⟩:=List.mem_filter.1 hs
  obtain⟨y,hy,rfl⟩:=List.mem_map.1 hs
  have hd:(bothS x y).1<=(bothS x y).2:=by simpa using hd
  refine⟨(bothS x y).1,⟨x,hx,ha x hx,?_⟩,⟨y,hy,hb y hy,?_⟩⟩
  ·unfold bothS at hd ⊢;dsimp only at hd ⊢;split<;>split at hd<;>omega
  ·unfold bothS at hd ⊢;dsimp only at hd ⊢;split<;>split at hd<;>omega
 ·rintro⟨k,⟨x,hx,_,h1,h2⟩,⟨y,hy,_,h3,h4⟩⟩ he
  have:bothS x y∈meetL ls bs:=by
   refine List.mem_flatMap.2 ⟨x,hx,List.mem_filter.2 ⟨List.mem_map.2 ⟨y,hy,rfl⟩,?_⟩⟩
   simp only[decide_eq_true_eq]
   unfold bothS;dsimp only;split<;>split<;>omega
  rw[he] at this
  cases this
theorem sumS_one(s:Sl)(l:List Spn):sumS [(s,l)]=l.length:=by simp[sumS]
theorem plain1{w:World}{s:Sl}{xs:List Spn}(h:Rd w s 2 (xs.flatMap sv))(hl:xs.length<=1000000){K:RV}
  (hK:∀t' os w',NormS os->(∀k,hasS os k↔hasS xs k)->OwS w' t' 2 (os.flatMap sv)->os.length<=xs.length->Ext w w'->(∀j∈blk t',w.heap.size<=j)->K (slV t') w'){T:TypeId}:
  AllocP w (.cells #[slV s] T) fun b w2=>Cx 189 #[.slice (some ⟨b,0,none⟩) 1 1] w2 K:=by
 intro b w2 h2
 have e2:Ext w w2:=h2.ch _
 have hR:Rd w2 ⟨some ⟨b,0,none⟩,1,1⟩ 1 ([(s,xs)].map hS):=(OwS.new (cs:=[slV s]) (n:=1) (sz:=1) h2 rfl).rd
 refine(c189 hR (fun x hx=>by rw[List.mem_singleton.1 hx];exact h.ext e2) (by rw[sumS_one];exact hl) (by simp)).use ?_
 rintro _ w' ⟨t',os,rfl,h1,h3,h4,h5,h6,h7⟩
 rw[sumS_one] at h5
 simp only[List.flatMap_cons,List.flatMap_nil,List.append_nil] at h3
 exact hK t' os w' h1 h3 h4 h5 (e2.trans h6) fun j hj=>by have:=h7 j hj;have:=e2.size;omega
theorem c138{w:World}{s t:Sl}{xs ys:List Spn}(hs:Rd w s 2 (xs.flatMap sv))(ht:Rd w t 2 (ys.flatMap sv))(hxl:xs.length<=1000000)(hyl:ys.length<=1000000):
  Cw 138 #[slV s,slV t] w fun v w'=>∃r,v=.bool r/\(r=true↔∃k,hasS xs k/\hasS ys k)/\Ext w w':=by
 refine F138_ok s t w _ fun b1 w2 h2=>⟨by decide,?_⟩
 have e2:Ext w w2:=h2.ch _
 refine plain1 (hs.ext e2) hxl fun s7 os1 w6 hN1 hk1 ho1 hl1 e6 hb7=>⟨s7,rfl,by decide,?_⟩
 refine plain1 (ht.ext (e2.trans e6)) hyl fun s12 os2 w11 hN2 hk2 ho2 hl2 e11 hb12=>⟨s12,rfl,?_⟩
 refine(c188 s7 s12 w11).use ?_
 rintro _ w14 ⟨p1,p3,rfl,hp1,hp3,hp1',hp3',e14⟩
 have hiff:=meetL_iff hN1.2 hN2.2
 have hall:meetL os1 os2≠[]↔∃k,hasS xs k/\hasS ys k:=by
  rw[hiff];exact exists_congr fun k=>and_congr (hk1 k) (hk2 k)
 refine⟨(229,#[.pointer (some ⟨p1,0,none⟩),.pointer (some ⟨p3,0,none⟩)]),rfl,fun g=>?_⟩
 have E14:Ext w w14:=((e2.trans e6).trans e11).trans e14
 have H1:w14.heap[b1]? =some (.cells #[.bool false] 4 (0,0)):=e14.at (e11.at (e6.at h2.new))
 have hI:InvM p1 p3 s7 s12 os1 os2 w14:=⟨hp1,hp3,((ho1.ext e11).ext e14).rd,(ho2.ext e14).rd⟩
 have hb1:b1<w14.heap.size:=heap_lt H1
 have hb1':w.heap.size=b1:=h2.here.symm
 refine range_noneU tbOk mixed (gf:=229) (lb:=#[.pointer (some ⟨p1,0,none⟩),.pointer (some ⟨p3,0,none⟩)]) rfl (itM p1 p3 s7 s12 os1 os2 (by omega) (by omega)) R138_0ok1 R138_0ok2 R138_0okp (fun _=>rfl)
  (fun _ _=>False) (fun _ _ _ _ h=>h)
  (fun pre W=>pre=[]/\InvM p1 p3 s7 s12 os1 os2 W/\W.heap[b1]? =some (.cells #[.bool false] 4 (0,0))/\Ch (fun i=>w.heap.size<=i) w W)
  (fun c pre W=>c=.ret/\meetL os1 os2≠[]/\W.heap[b1]? =some (.cells #[.bool true] 4 (0,0))/\Ch (fun i=>w.heap.size<=i) w W) ?_ ?_ ?_ (fun h=>by cases h) (fun _ _ _ _ h=>h.elim) ?_ ?_ ?_ ?_
 ·rintro pre A B ⟨h1,h2,h3,h4⟩ hS
  exact⟨h1,h2.stb hS,hS.keep _ _ h3 rfl,h4.then (.ofStb hS) fun i _ hi=>by omega⟩
 ·rintro c pre A B ⟨h1,h2,h3,h4⟩ hS
  exact⟨h1,h2,hS.keep _ _ h3 rfl,h4.then (.ofStb hS) fun i _ hi=>by omega⟩
 ·rintro pre W ⟨_,h,_⟩;exact h
 ·exact⟨rfl,hI,H1,E14.mono fun _ _ h=>h.elim⟩
 ·rintro pre x W ⟨rfl,hM,hB,hC⟩ hx hW
  refine F138b0_ok b1 (229,#[.pointer (some ⟨p1,0,none⟩),.pointer (some ⟨p3,0,none⟩)]) (spV x) _ _ _ _ _ W ?_
  refine⟨rfl,⟨rfl,rfl⟩,fun w9 hS _ _=>⟨rfl,store_one (hS.keep _ _ hB rfl) (by simp) rfl fun w16 h16=>?_⟩⟩
  refine⟨⟨h16.old _ (by omega),h16.old _ (by omega)⟩,rfl,?_,h16.new,(hC.then (.ofStb hS) fun i _ hi=>by omega).then h16.ch fun i _ e=>by omega⟩
  obtain⟨post,hp⟩:=hx
  rw[<-hp];simp
 ·rintro xs' W rfl ⟨hnil,_,hB,hC⟩ hD
  refine⟨rfl,store_one hB (by simp) rfl fun w19 h19=>?_⟩
  refine marks_one (h19.at hD (by omega)) fun w' hu=>⟨false,?_,false,rfl,?_,?_⟩
  ·rw[cell_of (hu.at h19.new (by omega))];rfl
  ·rw[<-hall,hnil];simp
  ·have h:=(hC.then h19.ch fun i _ e=>(by omega:w.heap.size<=i)).then hu.ch fun i _ e=>(by omega:w.heap.size<=i)
   exact h.mono fun i hi h=>by omega
 ·rintro c pre W ⟨rfl,hne,hB,hC⟩ hD
  refine marks_one hD fun w' hu=>⟨true,?_,true,rfl,?_,?_⟩
  ·rw[cell_of (hu.at hB (by omega))];rfl
  ·rw[<-hall];simp[hne]
  ·have h:=hC.then hu.ch fun i _ e=>(by omega:w.heap.size<=i)
   exact h.mono fun i hi h=>by omega
theorem F165_ok(t0:Int×Int×Int×Bool×Sl×Sl)(t1:Int×Int×Int×Bool×Sl×Sl)(w:World)(R:RV)(h:AllocP w (Obj.cells (lC53 t0).toArray 53) fun b1 w2=>AllocP w2 (Obj.cells (lC53 t1).toArray 53) fun b3 w4=>Qi w4 b1 (0+0) fun n5=>Qi w4 b3 (0+0) fun n6=>IfB (n5 != n6) (Qs w4 b1 (0+5) fun s7=>Qs w4 b3 (0+4) fun s8=>Qv' 138 #[Qy s7,Qy s8] w4 fun t11 w10=>IfB t11 (R (Value.bool true) w10) (Qs w10 b1 (0+5) fun s12=>Qs w10 b3 (0+5) fun s13=>Qv' 138 #[Qy s12,Qy s13] w10 fun t16 w15=>IfB t16 (R (Value.bool true) w15) (Qs w15 b1 (0+4) fun s17=>Qs w15 b3 (0+5) fun s18=>Qv' 138 #[Qy s17,Qy s18] w15 fun t21 w20=>R (Value.bool t21) w20))) (R (Value.bool false) w4)):Cw 165 #[(.agg (lC53 t0).toArray),(.agg (lC53 t1).toArray)] w R:=
 ckF Tryz.func165 .nil h (by kernel_rfl) (by kernel_rfl)
theorem F160_ok(t0:Int×Int×Int×Bool×Sl×Sl)(t1:Int×Int×Int×Bool×Sl×Sl)(w:World)(R:RV)(h:AllocP w (Obj.cells (lC53 t0).toArray 53) fun b1 w2=>AllocP w2 (Obj.cells (lC53 t1).toArray 53) fun b3 w4=>Qi w4 b1 (0+0) fun n5=>Qi w4 b3 (0+0) fun n6=>IfB (n5 == n6) (R (Value.bool true) w4) (∃(x7:Int×Int×Int×Bool×Sl×Sl),CellsAt w4 b1 0 (lC53 x7)/\∃(x8:Int×Int×Int×Bool×Sl×Sl),CellsAt w4 b3 0 (lC53 x8)/\Qv' 165 #[Value.agg (lC53 x7).toArray,Value.agg (lC53 x8).toArray] w4 fun t11 w10=>R (Value.bool t11) w10)):Cw 160 #[(.agg (lC53 t0).toArray),(.agg (lC53 t1).toArray)] w R:=
 ckF Tryz.func160 .nil h (by kernel_rfl) (by kernel_rfl)
noncomputable def R152_0:Code:=codeAt [1,1,1,0,1,0] (bodyOf Tryz.f152)
def R152_0a:An:=.node (.join [(27,ob)] (rg [19,27]) .nil .nil) (nd (nd (.loop [(36,oi)] (rg [12,12,36,43]) .nil)))
theorem R152_0ok1:okC tb Tryz.f152.ntmps (rA R152_0) .nil=true:=by kernel_rfl
theorem R152_0ok2:okC tb Tryz.f152.ntmps (rB R152_0) R152_0a=true:=by kernel_rfl
theorem R152_0okp:(rP R152_0).toList.all (fun p=>Nat.blt p Tryz.f152.ntmps)=true:=by kernel_rfl
theorem F152_ok(t0:Sl)(t1:Sl)(t2:Int×Int×Int×Bool×Sl×Sl)(w:World)(R:RV)(h:AllocP w (Obj.cells #[Qy t0] 102) fun b1 w2=>AllocP w2 (Obj.cells (lC53 t2).toArray 53) fun b3 w4=>AllocP w4 (Obj.map #[] 0) fun b5 w6=>AllocP w6 (Obj.cells #[Value.map none] 149) fun b7 w8=>#[Value.map (some b5)].size=1/\StoreP w8 b7 0 [Value.map (some b5)] fun w9=>AllocP w9 (Obj.cells #[Value.nilFunc] 223) fun b10 w11=>#[Value.func (Fn.func 202) #[] #[Value.pointer (some ⟨b7,0,none⟩)]].size=1/\StoreP w11 b10 0 [Value.func (Fn.func 202) #[] #[Value.pointer (some ⟨b7,0,none⟩)]] fun w12=>Cx 153 #[Qy t1] w12 fun v13 w14=>∃(x15:Nat×Array Value),v13=Value.func (Fn.func x15.1) #[] x15.2/\∀(y16:Nat->Value),RangeP Tryz.prog tb (nat_lit 47) none R152_0a (rG R152_0) (rP R152_0) (rA R152_0) (rB R152_0) (frC y16 [(3,Value.pointer (some ⟨b1,0,none⟩)),(5,Value.pointer (some ⟨b3,0,none⟩)),(6,Value.slice none 0 0),(7,Value.pointer (some ⟨b7,0,none⟩)),(8,Value.pointer (some ⟨b10,0,none⟩)),(16,Value.func (Fn.func x15.1) #[] x15.2)]) [] w14 (fun(l17:List Nat) (w18:World)=>∃(p19:Option Nat),w18.cell? ⟨b7,0,none⟩=some (Value.map p19)/\Cx 124 #[Value.map p19] w18 fun v20 w21=>∃(x22:Nat×Array Value),v20=Value.func (Fn.func x22.1) #[] x22.2/\Qu' 123 #[Value.func (Fn.func x22.1) #[] x22.2] w21 fun s25 w24=>marksP w24 l17 fun w26=>R (Qy s25) w26) (fun(l27:List Nat) (w28:World)=>marksP w28 l27 fun w29=>R (Value.slice none 0 0) w29) fun(b30:Nat) (l31:List Nat) (w32:World)=>match b30.beq 0 with|true=>∃(p34:Option Nat),w32.cell? ⟨b7,0,none⟩=some (Value.map p34)/\Cx 124 #[Value.map p34] w32 fun v35 w36=>∃(x37:Nat×Array Value),v35=Value.func (Fn.func x37.1) #[] x37.2/\Qu' 123 #[Value.func (Fn.func x37.1) #[] x37.2] w36 fun s40 w39=>marksP w39 l31 fun w41=>R (Qy s40) w41|false=>False):Cw 152 #[Qy t0,Qy t1,(.agg (lC53 t2).toArray)] w R:=
 ckF Tryz.func152 (nd (nd (nd (.node (nd (.rng [(3,.one (.box)),(5,.one (.box)),(6,.one (.sl)),(7,.one (.box)),(8,.one (.box)),(16,.one (.clo))] (.node (.join [(27,ob)] (rg [19,27]) .nil .nil) (nd (nd (.loop [(36,oi)] (rg [12,12,36,43]) .nil)))))) .nil)))) h (by kernel_rfl) (by kernel_rfl)
def F152b0j2(t8:Nat)(Jn:World->Prop)(w12:World)(s48:Sl)(y49:Nat->Int->World->Prop)(b51:Nat)(n52:Int)(w53:World)(l:Nat)(D:Nat):Prop:=IfB (decide (n52<(s48.n:Int))) (Qx s48.1 n52 (s48.2:Int) fun b56 b57=>Qi w53 b56 (b57+n52.toNat) fun n58=>∃(x59:Nat×Array Value),w53.cell? ⟨t8,0,none⟩=some (Value.func (Fn.func x59.1) #[] x59.2)/\Cx x59.1 { toList:=Qz n58::x59.snd.1 } w53 fun v60 w61=>∃y62:Unit,v60=Value.tuple #[]/\Qn y49 b51 (IntKind.i64.wrap (n52+1)) w61) ((w53.1[l]? =w12.1[l]? /\w53.1[D]? =w12.1[D]?)/\Jn w53)
def F152b0j1(t3:Nat)(t8:Nat)(x17:Int)(Jn:World->Prop)(w12:World)(t29:Bool)(w30:World)(l:Nat)(D:Nat):Prop:=IfB t29 ((w30.1[l]? =w12.1[l]? /\w30.1[D]? =w12.1[D]?)/\Jn w30) (∃(x41:Nat×Array Value),w30.cell? ⟨t8,0,none⟩=some (Value.func (Fn.func x41.1) #[] x41.2)/\Cx x41.1 { toList:=Qz x17::x41.snd.1 } w30 fun v42 w43=>∃y44:Unit,v42=Value.tuple #[]/\∃s45:Sl,w43.cell? ⟨t3,0,none⟩=some (Qy s45)/\Qx s45.1 x17 (s45.2:Int) fun b46 b47=>Qs w43 b46 (b47+x17.toNat) fun s48=>Ql (α:=Int) 0 w43 fun y49 b51 n52 w53=>(F152b0j2 t8 Jn w12 s48 y49 b51 n52 w53 l D))
theorem F152b0_ok(t3:Nat)(t5:Nat)(t6:Sl)(t7:Nat)(t8:Nat)(t16:Nat×Array Value)(x17:Int)(x18:Int×Int×Int×Bool×Sl×Sl)(l D n₀:Nat)(Jn:World->Prop)(Jx:Code->World->Prop)(W:World){g:Nat->Value}(h:AllocP W (Obj.cells #[Qz 0,Qz 0,Qz 0,Value.bool false,Value.slice none 0 0,Value.slice none 0 0] 53) fun b1 w2=>(lC53 x18).toArray.size=6/\StoreP w2 b1 0 (lC53 x18) fun w3=>([]:List Nat)=[]/\(w3.1[l]? =W.1[l]? /\w3.1[D]? =W.1[D]?)/\∀(w12:World),Stb n₀ w3 w12->Its w3 w12->(∃y15:Loop,w12.1[l]? =some (Obj.loop y15))->∃(y19:Bool->World->Prop),(∃(p20:Option Nat),w12.cell? ⟨t7,0,none⟩=some (Value.map p20)/\MapGetP (TypeDesc.int IntKind.i64) w12 (Value.map p20) (Qz x17) (Value.bool false) fun(v21:Value) (t22:Bool)=>∃t23:Bool,v21=Value.bool t23/\IfB t23 (([]:List Nat)=[]/\y19 true w12) (∃(x24:Int×Int×Int×Bool×Sl×Sl),CellsAt w12 t5 0 (lC53 x24)/\∃(x25:Int×Int×Int×Bool×Sl×Sl),CellsAt w12 b1 0 (lC53 x25)/\Qv' 160 #[Value.agg (lC53 x24).toArray,Value.agg (lC53 x25).toArray] w12 fun t28 w27=>([]:List Nat)=[]/\y19 (!t28) w27))/\∀(t29:Bool)(w30:World)(y31:Nat->Value),y19 t29 w30->(F152b0j1 t3 t8 x17 Jn w12 t29 w30 l D)):
  BodyP Tryz.prog tb Tryz.f152.ntmps l D n₀ R152_0a (rP R152_0) (rA R152_0) (rB R152_0) (frC g [(3,Value.pointer (some ⟨t3,0,none⟩)),(5,Value.pointer (some ⟨t5,0,none⟩)),(6,Value.slice t6.1 t6.2 t6.3),(7,Value.pointer (some ⟨t7,0,none⟩)),(8,Value.pointer (some ⟨t8,0,none⟩)),(16,Value.func (Fn.func t16.1) #[] t16.2)]) Jn Jx [Value.int IntKind.i64 x17,(.agg (lC53 x18).toArray)] W:=
 Eq.mp (by kernel_rfl) h
theorem F202_ok(t0:Int)(t1:Nat)(w:World)(R:RV)(h:∃(p1:Option Nat),w.cell? ⟨t1,0,none⟩=some (Value.map p1)/\MapSetP (TypeDesc.int IntKind.i64) w (Value.map p1) (Qz t0) (Value.bool true) fun w2=>R (Value.tuple #[]) w2):Cw 202 #[Qz t0,Value.pointer (some ⟨t1,0,none⟩)] w R:=
 ckF Tryz.func202 .nil h (by kernel_rfl) (by kernel_rfl)
theorem F153_ok(t0:Sl)(w:World)(R:RV)(h:AllocP w (Obj.cells #[Qy t0] 39) fun b1 w2=>R (Value.func (Fn.func 203) #[] #[Value.pointer (some ⟨b1,0,none⟩)]) w2):Cw 153 #[Qy t0] w R:=
 ckF Tryz.func153 .nil h (by kernel_rfl) (by kernel_rfl)
def F203j1(t0:Nat)(t1:Nat)(R:RV)(y2:Nat->Int->World->Prop)(b4:Nat)(n5:Int)(w6:World):Prop:=IfB (decide (0<=n5)) (∃s9:Sl,w6.cell? ⟨t1,0,none⟩=some (Qy s9)/\Qx s9.1 n5 (s9.2:Int) fun b10 b11=>∃(x12:Int×Int×Int×Bool×Sl×Sl),CellsAt w6 b10 (b11+n5.toNat*6) (lC53 x12)/\YW Tryz.prog t0 #[Qz n5,Value.agg (lC53 x12).toArray] w6 fun(t13:Bool) (w14:World)=>IfB (!t13) (R (Value.tuple #[]) w14) (Qn y2 b4 (IntKind.i64.wrap (n5-1)) w14)) (R (Value.tuple #[]) w6)
theorem F203_ok(t0:Nat)(t1:Nat)(w:World)(R:RV)(h:∃s1:Sl,w.cell? ⟨t1,0,none⟩=some (Qy s1)/\Ql (α:=Int) (IntKind.i64.wrap ((s1.2:Int)-1)) w fun y2 b4 n5 w6=>(F203j1 t0 t1 R y2 b4 n5 w6)):Cw 203 #[Value.func (Fn.yield t0) #[] #[],Value.pointer (some ⟨t1,0,none⟩)] w R:=
 ckF Tryz.func203 (nd (.loop [(3,oi)] (rg [3,3,7,18]) .nil)) h (by kernel_rfl) (by kernel_rfl)
def F85j1(t0:Sl)(R:RV)(y1:Nat->Sl×Int->World->Prop)(b3:Nat)(x4:Sl×Int)(w5:World):Prop:=IfB (decide (x4.snd<(t0.n:Int))) (Qx t0.1 x4.2 (t0.2:Int) fun b8 b9=>∃(x10:Int×Int×Int×Bool×Sl×Sl),CellsAt w5 b8 (b9+x4.2.toNat*6) (lC53 x10)/\AllocP w5 (Obj.cells #[Qz 0,Qz 0,Qz 0,Value.bool false,Value.slice none 0 0,Value.slice none 0 0] 53) fun b11 w12=>(lC53 x10).toArray.size=6/\StoreP w12 b11 0 (lC53 x10) fun w13=>(0<=x4.2/\x4.2<=(t0.3:Int))/\∃(x14:Int×Int×Int×Bool×Sl×Sl),CellsAt w13.drew b11 0 (lC53 x14)/\Qu' 152 #[Qy x4.fst,Value.slice (slAddr t0.1 t0.3 0 6) x4.2.toNat t0.3,Value.agg (lC53 x14).toArray] w13.drew fun s17 w16=>1*1<=16777216/\AllocP w16 (Obj.cells #[Qy s17] 30) fun b18 w19=>∃(l20:List Value),ReadC w19 (some ⟨b18,0,none⟩) (1*1) l20/\AppendP tt30 30 w19 x4.fst.1 x4.fst.2 x4.fst.3 1 l20 fun s21 w22=>Qn y1 b3 ({ p:=s21.1,n:=s21.2,c:=s21.3 },IntKind.i64.wrap (x4.2+1)) w22) (R (Qy x4.fst) w5)
theorem F85_ok(t0:Sl)(w:World)(R:RV)(h:Ql (α:=Sl×Int) ({ p:=none,n:=0,c:=0 },0) w fun y1 b3 x4 w5=>(F85j1 t0 R y1 b3 x4 w5)):Cw 85 #[Qy t0] w R:=
 ckF Tryz.func85 (nd (nd (.node (nd (.loop [(3,.one (.sl)),(8,oi)] (rg [3,5,8,22]) (nd (nd (.node (nd (.draw (sts [0,1,2,3,4,5] (.ac 6 [0] (.ac 7 [0] (.ac 8 [] (.st 9 .fin) .non) .non) .non)))) .nil))))) .nil))) h (by kernel_rfl) (by kernel_rfl)
def F118j1(t1:Sl)(R:RV)(b1:Nat)(s5:Sl)(y6:Nat->Sl×Int->World->Prop)(b8:Nat)(x9:Sl×Int)(w10:World):Prop:=IfB (decide (x9.snd<(s5.n:Int))) (Qx s5.1 x9.2 (s5.2:Int) fun b13 b14=>Qs w10 b13 (b14+x9.2.toNat) fun s15=>Qu' 111 #[Qy s15] w10 fun s18 w17=>1*1<=16777216/\AllocP w17 (Obj.cells #[Qy s18] 30) fun b19 w20=>∃(l21:List Value),ReadC w20 (some ⟨b19,0,none⟩) (1*1) l21/\AppendP tt30 30 w20 x9.fst.1 x9.fst.2 x9.fst.3 1 l21 fun s22 w23=>Qn y6 b8 ({ p:=s22.1,n:=s22.2,c:=s22.3 },IntKind.i64.wrap (x9.2+1)) w23) (∃(x25:Int×Int×Int×Bool×Sl×Sl),CellsAt w10 b1 0 (lC53 x25)/\Qu' 152 #[Qy s5,Qy t1,Value.agg (lC53 x25).toArray] w10 fun s28 w27=>1*1<=16777216/\AllocP w27 (Obj.cells #[Qy s28] 30) fun b29 w30=>∃(l31:List Value),ReadC w30 (some ⟨b29,0,none⟩) (1*1) l31/\AppendP tt30 30 w30 x9.fst.1 x9.fst.2 x9.fst.3 1 l31 fun s32 w33=>R (Qy s32) w33)
def F118j2(t0:Sl)(t1:Sl)(R:RV)(b1:Nat)(y34:Nat->Sl×Int->World->Prop)(b36:Nat)(x37:Sl×Int)(w38:World):Prop:=IfB (decide (x37.snd<(t0.n:Int))) (Qx t0.1 x37.2 (t0.2:Int) fun b41 b42=>Qs w38 b41 (b42+x37.2.toNat) fun s43=>Qu' 111 #[Qy s43] w38 fun s46 w45=>1*1<=16777216/\AllocP w45 (Obj.cells #[Qy s46] 30) fun b47 w48=>∃(l49:List Value),ReadC w48 (some ⟨b47,0,none⟩) (1*1) l49/\AppendP tt30 30 w48 x37.fst.1 x37.fst.2 x37.fst.3 1 l49 fun s50 w51=>Qn y34 b36 ({ p:=s50.1,n:=s50.2,c:=s50.3 },IntKind.i64.wrap (x37.2+1)) w51) (∃(x53:Int×Int×Int×Bool×Sl×Sl),CellsAt w38 b1 0 (lC53 x53)/\Qu' 152 #[Qy t0,Qy t1,Value.agg (lC53 x53).toArray] w38 fun s56 w55=>1*1<=16777216/\AllocP w55 (Obj.cells #[Qy s56] 30) fun b57 w58=>∃(l59:List Value),ReadC w58 (some ⟨b57,0,none⟩) (1*1) l59/\AppendP tt30 30 w58 x37.fst.1 x37.fst.2 x37.fst.3 1 l59 fun s60 w61=>R (Qy s60) w61)
theorem F118_ok(t0:Sl)(t1:Sl)(t2:Int×Int×Int×Bool×Sl×Sl)(w:World)(R:RV)(h:AllocP w (Obj.cells (lC53 t2).toArray 53) fun b1 w2=>IfB ((t0.2:Int) != (t1.2:Int)) (Qu' 85 #[Qy t1] w2 fun s5 w4=>Ql (α:=Sl×Int) ({ p:=none,n:=0,c:=0 },0) w4 fun y6 b8 x9 w10=>(F118j1 t1 R b1 s5 y6 b8 x9 w10)) (Ql (α:=Sl×Int) ({ p:=none,n:=0,c:=0 },0) w2 fun y34 b36 x37 w38=>(F118j2 t0 t1 R b1 y34 b36 x37 w38))):Cw 118 #[Qy t0,Qy t1,(.agg (lC53 t2).toArray)] w R:=
 ckF Tryz.func118 (nd (nd (nd (.node (nd (.loop [(7,.one (.sl)),(19,oi)] (rg [7,7,9,9,19,28]) .nil)) .nil)))) h (by kernel_rfl) (by kernel_rfl)
theorem F124_ok(t0:Option Nat)(w:World)(R:RV)(h:AllocP w (Obj.cells #[Value.map t0] 149) fun b1 w2=>R (Value.func (Fn.func 180) #[] #[Value.pointer (some ⟨b1,0,none⟩)]) w2):Cw 124 #[Value.map t0] w R:=
 ckF Tryz.func124 .nil h (by kernel_rfl) (by kernel_rfl)
def F180(t0:Nat)(t1:Nat)(w:World)(R:RV):Prop:=∃(p1:Option Nat),w.cell? ⟨t1,0,none⟩=some (Value.map p1)/\MapItP w (Value.map p1) fun b2 w3=>Ql (α:=Unit) PUnit.unit w3 fun y4 b6 y7 w8=>NextP w8 b2 (fun w11=>R (Value.tuple #[]) w11) fun(v12 v13:Value) (w14:World)=>EntryP w14 b2 fun(v15 v16:Value)=>YW Tryz.prog t0 #[v15] w14 fun(t17:Bool) (w18:World)=>IfB (!t17) (R (Value.tuple #[]) w18) (Qn y4 b6 PUnit.unit w18)
theorem F180_ok(t0:Nat)(t1:Nat)(w:World)(R:RV)(h:F180 t0 t1 w R):Cw 180 #[Value.func (Fn.yield t0) #[] #[],Value.pointer (some ⟨t1,0,none⟩)] w R:=
 ckF Tryz.func180 (nd (.loop [] (rg [3,3,6,13]) .nil)) h (by kernel_rfl) (by kernel_rfl)
theorem F180_eq(l b:Nat)(W:World)(R:RV):F180 l b W R=KeysF Tryz.prog l b W R:=rfl
theorem it180{w:World}{b1:Nat}{mo:MO}{ks:List Int}(hI:KeysI b1 mo w)(hks:KeysE mo ks)(hl:ks.length<=1000000):IntIt 180 #[.pointer (some ⟨b1,0,none⟩)] w fun xs=>xs.Perm ks:=
 keysIt en180 (fun l W R h=>F180_ok l b1 W R (by rw[F180_eq];exact h)) hI hks hl
section
variable {β:Type} {enc:β->Value}
end
abbrev NdV:=Int×Int×Int×Bool×Sl×Sl
abbrev nC(x:NdV):List Value:=[.int .i64 x.1,.int .i64 x.2.1,.int .i64 x.2.2.1,.bool x.2.2.2.1,.slice x.2.2.2.2.1.1 x.2.2.2.2.1.2 x.2.2.2.2.1.3,.slice x.2.2.2.2.2.1 x.2.2.2.2.2.2 x.2.2.2.2.2.3]
abbrev ndV(x:NdV):Value:=.agg #[.int .i64 x.1,.int .i64 x.2.1,.int .i64 x.2.2.1,.bool x.2.2.2.1,.slice x.2.2.2.2.1.1 x.2.2.2.2.1.2 x.2.2.2.2.1.3,.slice x.2.2.2.2.2.1 x.2.2.2.2.2.2 x.2.2.2.2.2.3]
theorem nC_len(x:NdV):(nC x).length=6:=rfl
theorem nC_one(x:NdV):One (nC x):=by intro v hv;simp at hv;rcases hv with rfl|rfl|rfl|rfl|rfl|rfl<;>rfl
structure Nd where
 v:NdV
 rs:List Spn
 ws:List Spn
abbrev nL(x:Nd):List Value:=nC x.v
theorem nL_len(x:Nd):(nL x).length=6:=rfl
theorem nL_one(x:Nd):One (nL x):=nC_one x.v
structure NdOk(w:World)(n:Nd):Prop where
 rs:Rd w n.v.2.2.2.2.1 2 (n.rs.flatMap sv)
 ws:Rd w n.v.2.2.2.2.2 2 (n.ws.flatMap sv)
 rl:n.rs.length<=1000000
 wl:n.ws.length<=1000000
theorem NdOk.ext{w w':World}{n:Nd}(h:NdOk w n)(e:Ext w w'):NdOk w' n:=⟨h.rs.ext e,h.ws.ext e,h.rl,h.wl⟩
theorem boxNd{w:World}{x:NdV}{z:Array Value}{T:TypeId}(hz:z.size=6){K:Nat->World->Prop}(hK:∀b w',w.heap.size=b->w'.heap.size=b+1->w'.heap[b]? =some (.cells (nC x).toArray T (0,0))->Ext w w'->(∀n,n<=w.heap.size->Stb n w w')->K b w'):
  AllocP w (.cells z T) fun b w2=>#[Value.int .i64 x.1,.int .i64 x.2.1,.int .i64 x.2.2.1,.bool x.2.2.2.1,.slice x.2.2.2.2.1.1 x.2.2.2.2.1.2 x.2.2.2.2.1.3,.slice x.2.2.2.2.2.1 x.2.2.2.2.2.2 x.2.2.2.2.2.3].size=6/\StoreP w2 b 0 (nC x) (K b):=
 boxCells (vs:=nC x) rfl (nC_one x) hz hK
def mtP(xs ys:List Spn):Prop:=∃k,hasS xs k/\hasS ys k
def cnfP(a b:Nd):Prop:=a.v.1≠b.v.1/\(mtP a.ws b.rs\/mtP a.ws b.ws\/mtP a.rs b.ws)
def dirP(a b:Nd):Prop:=a.v.1=b.v.1\/cnfP a b
theorem c165{w:World}{a b:Nd}(ha:NdOk w a)(hb:NdOk w b):
  Cw 165 #[ndV a.v,ndV b.v] w fun v w'=>∃r,v=.bool r/\(r=true↔cnfP a b)/\Ext w w':=by
 refine F165_ok a.v b.v w _ fun b1 w2 h2 b3 w4 h4=>?_
 have e4:Ext w w4:=(h2.ch _).trans (h4.ch _)
 have H1:=h4.at h2.new
 have H3:=h4.new
 have q1:∀ {W:World}(o:Nat),Ext w4 W->W.cell? ⟨b1,0+o,none⟩=(nC a.v)[o]? :=fun o e=>by rw[cell_of (e.at H1),Nat.zero_add];exact List.getElem?_toArray ..
 have q3:∀ {W:World}(o:Nat),Ext w4 W->W.cell? ⟨b3,0+o,none⟩=(nC b.v)[o]? :=fun o e=>by rw[cell_of (e.at H3),Nat.zero_add];exact List.getElem?_toArray ..
 refine⟨_,q1 0 (Ch.refl _ _),_,q3 0 (Ch.refl _ _),IfB.intro (fun hne=>?_) fun he=>?_⟩
 ·have hne:a.v.1≠b.v.1:=by simpa using hne
  refine⟨_,q1 5 (Ch.refl _ _),_,q3 4 (Ch.refl _ _),(c138 (ha.ws.ext e4) (hb.rs.ext e4) ha.wl hb.rl).use ?_⟩
  rintro _ w10 ⟨r1,rfl,hr1,e10⟩
  refine⟨r1,rfl,IfB.intro (fun h=>⟨true,rfl,?_,e4.trans e10⟩) fun h=>?_⟩
  ·exact⟨fun _=>⟨hne,.inl (hr1.1 h)⟩,fun _=>rfl⟩
  have n1:¬mtP a.ws b.rs:=fun h'=>by rw[hr1.2 h'] at h;cases h
  have e410:=e4.trans e10
  refine⟨_,q1 5 e10,_,q3 5 e10,(c138 (ha.ws.ext e410) (hb.ws.ext e410) ha.wl hb.wl).use ?_⟩
  rintro _ w15 ⟨r2,rfl,hr2,e15⟩
  refine⟨r2,rfl,IfB.intro (fun h=>⟨true,rfl,?_,e410.trans e15⟩) fun h=>?_⟩
  ·exact⟨fun _=>⟨hne,.inr (.inl (hr2.1 h))⟩,fun _=>rfl⟩
  have n2:¬mtP a.ws b.ws:=fun h'=>by rw[hr2.2 h'] at h;cases h
  have e415:=e410.trans e15
  refine⟨_,q1 4 (e10.trans e15),_,q3 5 (e10.trans e15),(c138 (ha.rs.ext e415) (hb.ws.ext e415) ha.rl hb.wl).use ?_⟩
  rintro _ w20 ⟨r3,rfl,hr3,e20⟩
  refine⟨r3,rfl,r3,rfl,?_,e415.trans e20⟩
  rw[hr3]
  exact⟨fun h=>⟨hne,.inr (.inr h)⟩,fun h=>by
   rcases h.2 with h|h|h
   ·exact absurd h n1
   ·exact absurd h n2
   ·exact h⟩
 ·have he:a.v.1=b.v.1:=by simpa using he
  exact⟨false,rfl,⟨fun h=>(by cases h),fun h=>absurd he h.1⟩,e4⟩
theorem c160{w:World}{a b:Nd}(ha:NdOk w a)(hb:NdOk w b):
  Cw 160 #[ndV a.v,ndV b.v] w fun v w'=>∃r,v=.bool r/\(r=true↔dirP a b)/\Ext w w':=by
 refine F160_ok a.v b.v w _ fun b1 w2 h2 b3 w4 h4=>?_
 have e4:Ext w w4:=(h2.ch _).trans (h4.ch _)
 have H1:=h4.at h2.new
 have H3:=h4.new
 refine⟨a.v.1,by rw[cell_of H1];rfl,b.v.1,by rw[cell_of H3];rfl,IfB.intro (fun he=>?_) fun hne=>?_⟩
 ·have he:a.v.1=b.v.1:=by simpa using he
  exact⟨true,rfl,⟨fun _=>.inl he,fun _=>rfl⟩,e4⟩
 ·have hne:a.v.1≠b.v.1:=by simpa using hne
  refine⟨a.v,cellsAt_of H1 fun i v hv=>by simpa using hv,b.v,cellsAt_of H3 fun i v hv=>by simpa using hv,(c165 (ha.ext e4) (hb.ext e4)).use ?_⟩
  rintro _ w10 ⟨r,rfl,hr,e10⟩
  exact⟨r,rfl,r,rfl,hr.trans ⟨.inr,fun h=>h.resolve_left hne⟩,e4.trans e10⟩
structure Hst(w:World)(t:Sl)(hs:List Nd):Prop where
 rd:Rd w t 6 (hs.flatMap nL)
 ok:∀n∈hs,NdOk w n
 len:hs.length<=1000000
 cap:t.n<=t.c
theorem Hst.ext{w w':World}{t:Sl}{hs:List Nd}(h:Hst w t hs)(e:Ext w w'):Hst w' t hs:=⟨h.rd.ext e,fun n hn=>(h.ok n hn).ext e,h.len,h.cap⟩
theorem Hst.n{w:World}{t:Sl}{hs:List Nd}(h:Hst w t hs):t.n=hs.length:=rdN nL_len (by omega) h.rd
theorem Hst.at{w:World}{t:Sl}{hs:List Nd}(h:Hst w t hs){i:Nat}{x:Nd}(hx:hs[i]? =some x):∃b o,t.p=some ⟨b,o,none⟩/\CellsAt w b (o+i*6) (nC x.v):=
 h.rd.elem (i:=i) (by have:=h.n;have:=(List.getElem?_eq_some_iff.1 hx).1;omega) (by omega) (flatGet nL_len hx)
theorem Hst.get{w:World}{t:Sl}{hs:List Nd}(h:Hst w t hs){i:Nat}{x:Nd}(hx:hs[i]? =some x):NdOk w x:=h.ok x (List.mem_of_getElem? hx)
theorem Hst.cut{w:World}{t:Sl}{hs:List Nd}(h:Hst w t hs){k:Nat}(hk:k<=hs.length):Hst w ⟨t.p,k,t.c⟩ (hs.take k):=by
 refine⟨?_,fun n hn=>h.ok n (List.mem_of_mem_take hn),by rw[List.length_take];have:=h.len;omega,by have:=h.cap;have:=h.n;dsimp only;omega⟩
 have:=h.rd.cut (k:=k) (by have:=h.n;omega)
 rw[flatTake nL_len] at this
 exact this
def EdP(hs:List Nd)(i k:Nat):Prop:=k<i/\∃a b,hs[i]? =some a/\hs[k]? =some b/\dirP a b
abbrev bkA(x:Int×NdV):Array Value:=#[iv x.1,ndV x.2]
structure InvB(b:Nat)(t:Sl)(vs:List NdV)(W:World):Prop where
 box:∃T,W.heap[b]? =some (.cells #[slV t] T (0,0))
 rd:Rd W t 6 (vs.flatMap nC)
theorem InvB.stb{n b:Nat}{t:Sl}{vs:List NdV}{W W':World}(h:InvB b t vs W)(hS:Stb n W W'):InvB b t vs W':=by
 obtain⟨⟨T,h1⟩,h2⟩:=h
 exact⟨⟨T,hS.keep _ _ h1 rfl⟩,rd_stb h2 hS⟩
theorem itB(b:Nat)(t:Sl)(vs:List NdV)(hl:vs.length<=1000000):
  Iter Tryz.prog 203 #[.pointer (some ⟨b,0,none⟩)] bkA false (fun pre x=>∃i:Nat,pre.length+i+1=vs.length/\x.1=(i:Int)/\vs[i]? =some x.2) (fun xs=>xs.length=vs.length) (InvB b t vs):=by
 refine⟨en203,fun l J Jx W hJ hJx hInv hSz _ hstep h0=>?_⟩
 have hI0:=hInv _ _ h0
 have hn:=rdN nC_len (by omega) hI0.rd
 obtain⟨T1,hT1⟩:=hI0.box
 refine F203_ok l b W _ ⟨t,by rw[cell_of hT1];rfl,fun n x w6=>∃pre:List (Int×NdV),pre.length<=vs.length/\n+pre.length=vs.length/\x=(vs.length:Int)-1-(pre.length:Int)/\J pre w6,⟨vs.length,[],Nat.zero_le _,rfl,?_,h0⟩,?_⟩
 ·rw[wrap_of (by omega) (by omega),hn];simp
 rintro n _ w6 g ⟨pre,hp,hnp,rfl,hj⟩
 have hI:=hInv _ _ hj
 obtain⟨T2,hT2⟩:=hI.box
 unfold F203j1
 refine IfB.dec (fun hge=>?_) fun hlt=>?_
 ·obtain⟨i,hi⟩:∃i:Nat,pre.length+i+1=vs.length:=⟨vs.length-1-pre.length,by omega⟩
  have hx:vs[i]? =some vs[i]:=List.getElem?_eq_getElem (by omega)
  generalize vs[i]=x at hx
  have hie:(vs.length:Int)-1-(pre.length:Int)=(i:Int):=by omega
  rw[hie]
  obtain⟨a,o,ha,hc⟩:=hI.rd.elem (i:=i) (by omega) (by omega) (flatGet nC_len hx)
  refine⟨t,by rw[cell_of hT2];rfl,a,o,ha,(⟨by omega,by omega⟩:(0:Int)<=(i:Int)/\(i:Int)<(t.n:Int)),x,by rw[Int.toNat_natCast];exact hc,(hstep pre ((i:Int),x) w6 hj ⟨i,hi,rfl,hx⟩).mono fun r w14 hr=>?_⟩
  cases r with
  | false=>exact IfB.yes rfl (.inr ⟨_,hr⟩)
  | true=>
   refine IfB.no rfl ⟨rfl,n-1,by omega,pre++[((i:Int),x)],by simp;omega,by simp;omega,?_,hr.1⟩
   rw[wrap_of (by omega) (by omega)]
   simp
   omega
 ·exact .inl ⟨pre,by omega,hj⟩
theorem c153(t:Sl)(w:World):Cw 153 #[slV t] w fun v w'=>∃b T,v=.func (.func 203) #[] #[.pointer (some ⟨b,0,none⟩)]/\IsAlloc w (.cells #[slV t] T (0,0)) b w':=
 F153_ok t w _ fun b w' a=>⟨b,_,rfl,a⟩
def encB(b:Bool):Value:=.bool b
theorem c202{w:World}{b r:Nat}{f:List (Int×Bool)}(k:Int)(hb:∃T,w.heap[b]? =some (.cells #[.map (some r)] T (0,0)))(hM:Mp encB w r f):
  Cw 202 #[iv k,.pointer (some ⟨b,0,none⟩)] w fun v w'=>v=.tuple #[]/\∃f',(∀k',getM f' k'=if k=k' then some true else getM f k')/\Mp encB w' r f'/\Ch (fun i=>i=r) w w':=by
 obtain⟨T,hT⟩:=hb
 refine F202_ok k b w _ ⟨some r,by rw[cell_of hT];rfl,Mp.set (enc:=encB) (v:=true) hM fun f' w' h1 h2 h3=>⟨rfl,f',h1,h2,h3⟩⟩
def dOf(n:Nd):Int×Int×Int×Bool×List Spn×List Spn:=(n.v.1,n.v.2.1,n.v.2.2.1,n.v.2.2.2.1,n.rs,n.ws)
def ownL(hs:List Nd)(sa:Int):List Nd:=hs.filter fun n=>n.v.1 == sa
theorem ownL_len(hs:List Nd)(sa:Int):(ownL hs sa).length<=hs.length:=List.length_filter_le _ _
def SpsOk(l:List Spn):Prop:=l.length<=40/\∀s∈l,mayS s
def nextP(o:Option Nd)(n:Nd)(steps:Int):Prop:=match o with
 | none=>n.v.2.2.2.1=false/\n.v.2.2.1=0
 | some m=>n.v.2.1=m.v.2.1/\match n.v.2.2.2.1,m.v.2.2.2.1 with
  | false,false=>n.v.2.2.1=m.v.2.2.1+1/\n.v.2.2.1<steps
  | false,true=>False
  | true,false=>n.v.2.2.1=m.v.2.2.1
  | true,true=>n.v.2.2.1=m.v.2.2.1-1
structure NodeOk(x:CatD)(o:Option Nd)(n:Nd):Prop where
 s0:0<=n.v.1
 c0:0<=n.v.2.1
 cn:n.v.2.1<(x.1.length:Int)
 st0:0<=n.v.2.2.1
 rs:SpsOk n.rs
 ws:SpsOk n.ws
 nx:nextP o n (nSt x n.v.2.1.toNat)
def lastOwn(hs:List Nd)(i:Nat)(s:Int):Option Nd:=(ownL (hs.take i) s).getLast?
structure HMay(x:CatD)(hs:List Nd):Prop where
 cat:CatOk x
 len:hs.length<=100
 ok:∀(i:Nat) n,hs[i]? =some n->NodeOk x (lastOwn hs i n.v.1) n
theorem c199{w:World}{t:Sl}{xs:List Spn}{t1:Nat×Array Value}{q:Spn->Bool}(h:Rd w t 2 (xs.flatMap sv))(hl:xs.length<=1000000)
  (hq:∀(x:Spn)(W:World),x∈xs->Ext w W->∀R':RV,(∀w',Ext W w'->R' (.bool (q x)) w')->Cx t1.1 { toList:=spV x::t1.2.toList } W R'):
  Cw 199 #[slV t,.func (.func t1.1) #[] t1.2] w fun v w'=>v=.bool (xs.any q)/\Ext w w':=
 F199_ok t t1 w _ ((c241 h hl hq).use fun v w' ⟨hv,e⟩=>⟨_,hv,by rw[any_idx],e⟩)
theorem c200(x:Spn)(w:World):Cw 200 #[spV x] w fun v w'=>v=.bool (bq (¬mayS x))/\Ext w w':=by
 refine F200_ok x w _ fun b1 w2 a2=>⟨x,boxAll (cs:=sv x) a2.new (Ch.refl _ _),(c201 x w2).use ?_⟩
 rintro _ w5 ⟨rfl,e5⟩
 exact⟨_,rfl,by rw[bq_neg decide_eq_true_iff],Ch.trans (a2.ch _) e5⟩
theorem c150{w:World}{t:Sl}{l:List Spn}(h:Rd w t 2 (l.flatMap sv)):Cw 150 #[slV t] w fun v w'=>∃r,v=.bool r/\(r=true↔SpsOk l)/\Ext w w':=by
 have hn:=rdN sv_len (by omega) h
 refine F150_ok t w _ (IfB.dec (fun h1=>?_) fun h1=>⟨false,rfl,⟨fun h=>(by cases h),fun h=>absurd h.1 (by omega)⟩,Ch.refl _ _⟩)
 refine(c199 (t1:=(200,#[])) (q:=fun x=>bq (¬mayS x)) h (by omega) fun x W _ e R' hR=>(c200 x W).use fun v w' ⟨hv,e'⟩=>hv ▸ hR w' e').use ?_
 rintro _ w2 ⟨rfl,e2⟩
 refine⟨_,rfl,_,rfl,?_,e2⟩
 rw[Bool.not_eq_true',any_bq]
 exact⟨fun h=>⟨by omega,h⟩,fun h=>h.2⟩
theorem c151{w:World}{t:Sl}{os:List Nd}(h:Rd w t 6 (os.flatMap nL))(hl:os.length<=1000)(n:Nd)(steps:Int)(hr:∀m∈os,0<=m.v.2.2.1/\m.v.2.2.1<=1000):
  Cw 151 #[slV t,ndV n.v,iv steps] w fun v w'=>∃r,v=.bool r/\(r=true↔nextP os.getLast? n steps)/\Ext w w':=by
 have hn:=rdN nL_len (by omega) h
 refine F151_ok t n.v steps w _ fun b1 w2 a2=>?_
 have e2:Ext w w2:=a2.ch _
 have q:=fun{W:World} (o:Nat) (e:Ext w2 W)=>boxAt (cs:=nC n.v) a2.new o e
 have r2:=Ch.refl (fun _=>False) w2
 refine IfB.intro (fun h0=>?_) fun h0=>?_
 ·have h0:t.n=0:=by
   have:(t.n:Int)=0:=by simpa using h0
   omega
  have:os=[]:=List.eq_nil_of_length_eq_zero (by omega)
  subst this
  refine⟨_,q 3 r2,IfB.intro (fun h1=>⟨_,q 2 r2,_,rfl,?_,e2⟩) fun h1=>⟨false,rfl,⟨fun h=>(by cases h),fun h=>?_⟩,e2⟩⟩
  ·have h1:n.v.2.2.2.1=false:=by simpa using h1
   rw[beq_iff_eq];exact⟨fun h=>⟨h1,h⟩,fun h=>h.2⟩
  ·have h1:n.v.2.2.2.1=true:=by simpa using h1
   have:=h.1;rw[h1] at this;cases this
 ·have h0:0<os.length:=by
   have:¬(t.n:Int)=0:=by simpa using h0
   omega
  have hx:os[os.length-1]? =some (os[os.length-1]'(by omega)):=List.getElem?_eq_getElem _
  have hlast:os.getLast?=some (os[os.length-1]'(by omega)):=by rw[List.getLast?_eq_getElem?];exact hx
  rw[hlast]
  have hm:=hr _ (List.getElem_mem (show os.length-1<os.length by omega))
  generalize os[os.length-1]'_=m at hx hm
  clear hlast
  have hw:IntKind.i64.wrap ((t.n:Int)-1)=((os.length-1:Nat):Int):=by rw[wrap_of (by omega) (by omega)];omega
  unfold F151k1
  rw[hw]
  obtain⟨b,o,hp,hc⟩:=(h.ext e2).elem (i:=os.length-1) (by omega) (by omega) (flatGet nL_len hx)
  refine⟨b,o,hp,⟨by omega,by omega⟩,m.v,by rw[Int.toNat_natCast];exact hc,fun b8 w9 a9=>⟨rfl,store_all (vs:=nC m.v) a9.new rfl (nC_one m.v) fun w10 u10=>?_⟩⟩
  have e10:Ext w2 w10:=Ext.fresh a9 u10
  have E10:Ext w w10:=e2.trans e10
  have p:=fun(o:Nat)=>boxAt (cs:=nC m.v) u10.new o (Ch.refl _ _)
  have w1:IntKind.i64.wrap (m.v.2.2.1+1)=m.v.2.2.1+1:=wrap_of (by omega) (by omega)
  have w0:IntKind.i64.wrap (m.v.2.2.1-1)=m.v.2.2.1-1:=wrap_of (by omega) (by omega)
  have no:¬nextP (some m) n steps->∃r,Value.bool false=.bool r/\(r=true↔nextP (some m) n steps)/\Ext w w10:=fun h=>⟨false,rfl,⟨fun h=>(by cases h),fun h'=>absurd h' h⟩,E10⟩
  refine⟨_,q 1 e10,_,p 1,IfB.intro (fun h1=>no fun h=>?_) fun h1=>?_⟩
  ·have h1:n.v.2.1≠m.v.2.1:=by simpa using h1
   exact h1 h.1
  have h1:n.v.2.1=m.v.2.1:=by simpa using h1
  refine⟨_,q 3 e10,IfB.intro (fun h2=>?_) fun h2=>?_⟩
  ·have h2:n.v.2.2.2.1=false:=by simpa using h2
   refine⟨_,p 3,IfB.intro (fun h3=>?_) fun h3=>no fun h=>?_⟩
   ·have h3:m.v.2.2.2.1=false:=by simpa using h3
    refine⟨_,q 2 e10,_,p 2,?_⟩
    try dsimp only
    rw[w1]
    refine IfB.intro (fun h4=>⟨_,q 2 e10,_,rfl,?_,E10⟩) fun h4=>no fun h=>?_
    ·have h4:n.v.2.2.1=m.v.2.2.1+1:=by simpa using h4
     rw[decide_eq_true_eq]
     simp only[nextP,h2,h3]
     exact⟨fun h=>⟨h1,h4,h⟩,fun h=>h.2.2⟩
    ·have h4:¬n.v.2.2.1=m.v.2.2.1+1:=by simpa using h4
     simp only[nextP,h2,h3] at h
     exact h4 h.2.1
   ·have h3:m.v.2.2.2.1=true:=by simpa using h3
    simp only[nextP,h2,h3] at h
    exact h.2
  ·have h2:n.v.2.2.2.1=true:=by simpa using h2
   refine⟨_,p 3,IfB.intro (fun h3=>⟨_,q 2 e10,_,p 2,_,rfl,?_,E10⟩) fun h3=>⟨_,q 2 e10,_,p 2,_,rfl,?_,E10⟩⟩
   ·have h3:m.v.2.2.2.1=false:=by simpa using h3
    simp only[nextP,h2,h3,beq_iff_eq]
    exact⟨fun h=>⟨h1,h⟩,fun h=>h.2⟩
   ·have h3:m.v.2.2.2.1=true:=by simpa using h3
    simp only[nextP,h2,h3,w0,beq_iff_eq]
    exact⟨fun h=>⟨h1,h⟩,fun h=>h.2⟩
def slE(t:Sl):Value:=slV t
def ownT(f:List (Int×Sl))(s:Int):Sl:=(getM f s).getD ⟨none,0,0⟩
structure OwM(W:World)(r lo:Nat)(hs:List Nd)(f:List (Int×Sl)):Prop where
 mp:Mp slE W r f
 ow:∀s,OwS W (ownT f s) 6 ((ownL hs s).flatMap nL)
 lo:∀s,∀j∈blk (ownT f s),lo<=j/\j≠r
 dj:∀s s',s≠s'->∀j∈blk (ownT f s),j∉blk (ownT f s')
theorem OwM.ext{W W':World}{r lo:Nat}{hs:List Nd}{f:List (Int×Sl)}(h:OwM W r lo hs f)(e:Ext W W'):OwM W' r lo hs f:=⟨h.mp.ext e,fun s=>(h.ow s).ext e,h.lo,h.dj⟩
theorem OwM.get{W:World}{r lo:Nat}{hs:List Nd}{f:List (Int×Sl)}(h:OwM W r lo hs f)(s:Int){K:Value->Bool->Prop}(hK:∀t,K (slV (ownT f s)) t):MapGetP (.int .i64) W (.map (some r)) (.int .i64 s) (.slice none 0 0) K:=by
 refine h.mp.get ?_
 have:=hK
 unfold ownT at this
 cases hg:getM f s with
 | none=>rw[hg] at this;exact this false
 | some t=>rw[hg] at this;exact this true
theorem OwM.add{W W1:World}{r lo bl:Nat}{hs:List Nd}{f:List (Int×Sl)}(h:OwM W r lo hs f)(hlo:lo<=W.heap.size)(hl:hs.length<=1000){n:Nd}{T:TypeId}(e1:Ext W W1)(hb:W1.heap[bl]? =some (.cells (nC n.v).toArray T (0,0)))(hbl:W.heap.size<=bl){K:World->Prop}
  (hK:∀W' f',OwM W' r lo (hs++[n]) f'->Ch (fun i=>lo<=i/\i<W.heap.size) W1 W'->K W'){b21:Nat}{cs21:List Value}{T21:TypeId}(h21:W.heap[b21]? =some (.cells cs21.toArray T21 (0,0)))(h21n:∀s,b21∉blk (ownT f s))(h21r:b21≠r)(hr:lo<=r):
  ∃l,ReadC W1 (some ⟨bl,0,none⟩) (1*6) l/\AppendP tt53 53 W1 (ownT f n.v.1).1 (ownT f n.v.1).2 (ownT f n.v.1).3 1 l fun s W2=>W2.cell? ⟨b21,0+0,none⟩=cs21[0]? /\MapSetP (.int .i64) W2 (.map (some r)) (.int .i64 n.v.1) (slV s) K:=by
 have hr0:=h.mp.lt
 have h1:=h.ext e1
 have hon:=owsN nL_len (by omega) (h.ow n.v.1)
 have hol:=ownL_len hs n.v.1
 have zz:=e1.size
 refine(h1.ow n.v.1).lit (new:=nC n.v) hb rfl (nC_one n.v) rfl rfl (by omega) (by decide) fun sx W2 ho' hn' hC' hbk=>⟨?_,?_⟩
 ·have k1:=e1.at h21
  rw[cell_of (hC'.at k1 (h21n n.v.1)),Nat.zero_add];exact List.getElem?_toArray ..
 have hM2:Mp slE W2 r f:=h1.mp.ch hC' fun hi=>(h1.lo n.v.1 r hi).2 rfl
 refine Mp.set (enc:=slE) (v:=sx) hM2 fun f' W3 hf' hM3 hC3=>hK W3 f' ⟨hM3,fun s=>?_,fun s j hj=>?_,fun s s' hne j hj=>?_⟩ ?_
 ·have hb':∀j∈blk sx,j≠r:=fun j hj e=>(hbk j hj).elim (fun h'=>(h1.lo _ j h').2 e) fun h'=>by omega
  by_cases hsa:n.v.1=s
  ·have:ownT f' s=sx:=by unfold ownT;rw[hf',if_pos hsa];rfl
   rw[this]
   have e2:ownL (hs++[n]) s=ownL hs s++[n]:=by unfold ownL;rw[List.filter_append];simp[hsa]
   rw[e2,List.flatMap_append,List.flatMap_singleton,<-hsa]
   exact ho'.ch hC3 fun j hj=>hb' j hj
  ·have:ownT f' s=ownT f s:=by unfold ownT;rw[hf',if_neg hsa]
   rw[this]
   have e2:ownL (hs++[n]) s=ownL hs s:=by unfold ownL;rw[List.filter_append];simp[hsa]
   rw[e2]
   exact((h1.ow s).ch hC' fun j hj hi=>h1.dj s n.v.1 (fun e=>hsa e.symm) j hj hi).ch hC3 fun j hj=>(h1.lo s j hj).2
 ·by_cases hsa:n.v.1=s
  ·have:ownT f' s=sx:=by unfold ownT;rw[hf',if_pos hsa];rfl
   rw[this] at hj
   rcases hbk j hj with h'|h'
   ·exact h1.lo _ j h'
   ·exact⟨by omega,by omega⟩
  ·have:ownT f' s=ownT f s:=by unfold ownT;rw[hf',if_neg hsa]
   rw[this] at hj;exact h1.lo s j hj
 ·have up:∀q,n.v.1≠q->∀j∈blk sx,j∉blk (ownT f q):=fun q hq j hj hi=>(hbk j hj).elim (fun h'=>h1.dj _ _ hq j h' hi) fun h'=>by have:=(h.ow q).lt j hi;omega
  by_cases h1':n.v.1=s
  ·have a1:ownT f' s=sx:=by unfold ownT;rw[hf',if_pos h1'];rfl
   have h2':¬n.v.1=s':=fun e=>hne (h1'.symm.trans e)
   have a2:ownT f' s'=ownT f s':=by unfold ownT;rw[hf',if_neg h2']
   rw[a1] at hj;rw[a2];exact up s' h2' j hj
  ·have a1:ownT f' s=ownT f s:=by unfold ownT;rw[hf',if_neg h1']
   rw[a1] at hj
   by_cases h2':n.v.1=s'
   ·have a2:ownT f' s'=sx:=by unfold ownT;rw[hf',if_pos h2'];rfl
    rw[a2];exact fun hi=>up s h1' j hi hj
   ·have a2:ownT f' s'=ownT f s':=by unfold ownT;rw[hf',if_neg h2']
    rw[a2];exact h1.dj s s' hne j hj
 ·exact(hC'.mono fun j hj1 hj=>⟨(h1.lo _ j hj).1,(h.ow _).lt j hj⟩).trans (hC3.mono fun j _ e=>by subst e;exact⟨hr,hr0⟩)
theorem lastOwn_at{hs:List Nd}{i:Nat}{s:Int}{m:Nd}(h:lastOwn hs i s=some m):∃j,j<i/\hs[j]? =some m/\m.v.1=s:=by
 have hm:=List.mem_of_getLast? h
 obtain⟨h1,h2⟩:=List.mem_filter.1 hm
 obtain⟨j,hj,rfl⟩:=List.getElem_of_mem h1
 rw[List.length_take] at hj
 refine⟨j,by omega,?_,by simpa using h2⟩
 rw[List.getElem_take];exact List.getElem?_eq_getElem _
def MayT(x:CatD)(hs:List Nd)(i:Nat):Prop:=∀(k:Nat) n,k<i->hs[k]? =some n->NodeOk x (lastOwn hs k n.v.1) n
theorem MayT.step{x:CatD}{hs:List Nd}{i:Nat}(hk:CatOk x)(h:MayT x hs i):∀(k:Nat) n,k<i->hs[k]? =some n->n.v.2.2.1<(nSt x n.v.2.1.toNat:Int):=by
 intro k
 induction k using Nat.strongRecOn with
 | ind k ih=>
  intro n hki hn
  have hN:=h k n hki hn
  have hc:n.v.2.1.toNat<x.1.length:=by have:=hN.c0;have:=hN.cn;omega
  have hx:x.1[n.v.2.1.toNat]? =some x.1[n.v.2.1.toNat]:=List.getElem?_eq_getElem hc
  have hl:=(hk.cls _ (List.getElem_mem hc)).l1
  have hns:=nSt_of hx
  have hnx:=hN.nx
  cases hl':lastOwn hs k n.v.1 with
  | none=>
   rw[hl'] at hnx
   have:=hnx.2
   omega
  | some m=>
   rw[hl'] at hnx
   obtain⟨j,hj,hm,_⟩:=lastOwn_at hl'
   have hmj:=ih j hj m (by omega) hm
   obtain⟨h1,h2⟩:=hnx
   rw[h1]
   cases hb:n.v.2.2.2.1<;>cases hb':m.v.2.2.2.1<;>simp only[hb,hb'] at h2
   ·rw[<-h1];exact h2.2
   ·omega
   ·omega
theorem steps_le{x:CatD}(hk:CatOk x)(c:Nat):nSt x c<=4:=by
 unfold nSt
 split
 ·rename_i y hy;exact(hk.cls y (List.mem_of_getElem? hy)).l4
 ·omega
theorem c84{w:World}{v:CatV}{x:CatD}{t:Sl}{hs:List Nd}(h:CatM w v x)(hH:Hst w t hs):
  Cw 84 #[cxV v,slV t] w fun r w'=>∃b,r=.bool b/\(b=true↔HMay x hs)/\Ext w w':=by
 have htn:=hH.n
 refine F84_ok v t w _ fun b1 w2 a2=>?_
 have e2:Ext w w2:=a2.ch _
 have no:∀ {V:World},¬HMay x hs->Ext w V->∃b,Value.bool false=.bool b/\(b=true↔HMay x hs)/\Ext w V:=fun h e=>⟨false,rfl,⟨fun h=>(by cases h),fun h'=>absurd h' h⟩,e⟩
 refine⟨v,cxN h a2.new (Ch.refl _ _),(c75 (h.ext e2)).use ?_⟩
 rintro _ w7 ⟨r,rfl,hr,e7⟩
 have e27:=e2.trans e7
 refine⟨r,rfl,IfB.intro (fun h1=>no (fun k=>?_) e27) fun h1=>IfB.dec (fun h2=>no (fun k=>by have:=k.len;omega) e27) fun h2=>?_⟩
 ·have h1:r=false:=by simpa using h1
  rw[hr.2 k.cat] at h1;cases h1
 have hk:=hr.1 (by simpa using h1)
 have h4:=hk.n4
 have hn:=cat_cl h
 intro b9 w10 a10
 have p10:=a10.here;have z10:=a10.size
 have E10:Ext w w10:=e27.trans (a10.ch _)
 have x10:Ext w2 w10:=Ch.trans e7 (a10.ch _)
 have zz2:=e2.size;have zz7:=e7.size
 refine⟨fun m n W=>∃(i:Nat)(f:List (Int×Sl)),i<=hs.length/\m+i=hs.length/\n=(i:Int)/\MayT x hs i/\OwM W b9 b9 (hs.take i) f/\Ext w2 W/\Ext w W/\b9<W.heap.size,
  ⟨hs.length,0,[],Nat.zero_le _,rfl,rfl,fun k n hk=>by omega,⟨.new a10,fun s=>.nil _ _,fun s j hj=>by simp[ownT,getM_nil,blk] at hj,fun s s' _ j hj=>by simp[ownT,getM_nil,blk] at hj⟩,x10,E10,by omega⟩,?_⟩
 rintro m _ W g ⟨i,f,hi,hmi,rfl,hT,hO,xW,XW,hbW⟩
 unfold F84j1
 refine IfB.dec (fun hlt=>?_) fun hge=>?_
 case refine_2=>
  have hi':i=hs.length:=by omega
  subst hi'
  exact⟨true,rfl,⟨fun _=>⟨hk,by omega,fun k n hn=>hT k n (List.getElem?_eq_some_iff.1 hn).1 hn⟩,fun _=>rfl⟩,XW⟩
 have hi':i<hs.length:=by omega
 have hx:hs[i]? =some hs[i]:=List.getElem?_eq_getElem hi'
 have htk:=take_succ_get hx
 generalize hs[i]=n at hx htk
 have noN:∀ {V:World},¬NodeOk x (lastOwn hs i n.v.1) n->Ext w V->∃b,Value.bool false=.bool b/\(b=true↔HMay x hs)/\Ext w V:=fun h e=>no (fun k=>h (k.ok i n hx)) e
 obtain⟨b18,o18,hp18,hc18⟩:=(hH.ext XW).at hx
 refine⟨b18,o18,hp18,⟨by omega,by omega⟩,n.v,by rw[Int.toNat_natCast];exact hc18,fun b21 w22 a22=>⟨rfl,store_all (vs:=nC n.v) a22.new rfl (nC_one n.v) fun w23 u23=>?_⟩⟩
 have p22:=a22.here
 have e23:Ext W w23:=Ext.fresh a22 u23
 have ed:=extDrew w23
 have e23d:Ext W w23.drew:=e23.trans ed
 have B21:=u23.new
 have q:=fun{V:World} (o:Nat) (e:Ext w23 V)=>boxAt (cs:=nC n.v) B21 o e
 refine⟨_,q 0 ed,IfB.dec (fun h1=>noN (fun k=>by have:=k.s0;omega) (XW.trans e23d)) fun h1=>⟨v,cxN h a2.new (xW.trans e23d),_,q 1 ed,(c149 (h.ext (XW.trans e23d)) n.v.2.1).use ?_⟩⟩
 rintro _ w30 ⟨rfl,e30⟩
 have f30:Ext w23 w30:=ed.trans e30
 have E30:Ext W w30:=e23.trans f30
 refine⟨_,rfl,IfB.intro (fun h2=>noN (fun k=>?_) (XW.trans E30)) fun h2=>⟨_,q 2 f30,IfB.dec (fun h3=>noN (fun k=>by have:=k.st0;omega) (XW.trans E30)) fun h3=>?_⟩⟩
 ·rw[decide_eq_true (show 0<=n.v.2.1/\n.v.2.1<(x.1.length:Int)/\n.v.2.1<4 by have:=k.c0;have:=k.cn;omega)] at h2;cases h2
 have hcl:0<=n.v.2.1/\n.v.2.1<(x.1.length:Int):=by
  have:=(by simpa using h2:0<=n.v.2.1/\n.v.2.1<(x.1.length:Int)/\n.v.2.1<4);omega
 unfold F84k2
 have hnd:=fun{V:World} (e:Ext w V)=>(hH.ext e).get hx
 refine⟨_,q 4 f30,(c150 (hnd (XW.trans E30)).rs).use ?_⟩
 rintro _ w35 ⟨r1,rfl,hr1,e35⟩
 have f35:=f30.trans e35
 have E35:Ext W w35:=E30.trans e35
 refine⟨r1,rfl,IfB.intro (fun h5=>noN (fun k=>?_) (XW.trans E35)) fun h5=>⟨_,q 5 f35,(c150 (hnd (XW.trans E35)).ws).use ?_⟩⟩
 ·have h5:r1=false:=by simpa using h5
  rw[hr1.2 k.rs] at h5;cases h5
 rintro _ w39 ⟨r2,rfl,hr2,e39⟩
 have f39:=f35.trans e39
 have E39:Ext W w39:=E35.trans e39
 refine⟨r2,rfl,IfB.intro (fun h6=>noN (fun k=>?_) (XW.trans E39)) fun h6=>?_⟩
 ·have h6:r2=false:=by simpa using h6
  rw[hr2.2 k.ws] at h6;cases h6
 have k1:=hr1.1 (by simpa using h5)
 have k2:=hr2.1 (by simpa using h6)
 obtain⟨C,hC⟩:=Int.eq_ofNat_of_zero_le hcl.1
 have hCl:C<x.1.length:=by omega
 have hxc:x.1[C]? =some x.1[C]:=List.getElem?_eq_getElem hCl
 generalize x.1[C]=y at hxc
 have hns:=nSt_of hxc
 obtain⟨pb,ob,sb,hpb,hcb,hsb,_⟩:=steps_at h hxc (XW.trans E39)
 have q1:w39.cell? ⟨b1,0+0,none⟩=some (slV v.1):=boxAt (cs:=cxC v) a2.new 0 (xW.trans E39)
 have n44:w39.cell? ⟨b21,0+1,none⟩=some (.int .i64 n.v.2.1):=q 1 f39
 have hcb':w39.cell? ⟨pb,ob+n.v.2.1.toNat*5+2,none⟩=some (slV sb):=by rw[hC,Int.toNat_natCast];exact hcb
 have nb:=boxAll (cs:=nC n.v) B21 f39
 have hO39:=hO.ext E39
 refine⟨_,q 0 f39,n.v,nb,v.1,q1,_,n44,pb,ob,hpb,⟨by omega,by omega⟩,sb,hcb',hO39.get n.v.1 fun _=>⟨ownT f n.v.1,rfl,hcb',n44,q1,nb,?_⟩⟩
 have hol:=ownL_len (hs.take i) n.v.1
 rw[List.length_take] at hol
 have hst:∀mm∈ownL (hs.take i) n.v.1,0<=mm.v.2.2.1/\mm.v.2.2.1<=1000:=fun mm hmm=>by
  obtain⟨g1,g2⟩:=List.mem_filter.1 hmm
  obtain⟨j,hj,rfl⟩:=List.getElem_of_mem g1
  rw[List.length_take] at hj
  have hj':hs[j]? =some (hs.take i)[j]:=by rw[List.getElem_take];exact List.getElem?_eq_getElem _
  have l1:=(hT j _ (by omega) hj').st0
  have l2:=MayT.step hk hT j _ (by omega) hj'
  have l3:=steps_le hk ((hs.take i)[j].v.2.1.toNat)
  omega
 refine(c151 (hO39.ow n.v.1).rd (by omega) n (sb.n:Int) hst).use ?_
 rintro _ w52 ⟨r3,rfl,hr3,e52⟩
 have f52:=f39.trans e52
 have E52:Ext W w52:=E39.trans e52
 have hsteps:(sb.n:Int)=(nSt x n.v.2.1.toNat:Int):=by rw[hC,Int.toNat_natCast,hns,hsb]
 rw[hsteps] at hr3
 refine⟨r3,rfl,IfB.intro (fun h7=>noN (fun k=>?_) (XW.trans E52)) fun h7=>?_⟩
 ·have h7:r3=false:=by simpa using h7
  rw[hr3.2 k.nx] at h7;cases h7
 have hNode:NodeOk x (lastOwn hs i n.v.1) n:=⟨by omega,hcl.1,hcl.2,by omega,k1,k2,hr3.1 (by simpa using h7)⟩
 have ed52:=extDrew w52
 have E52d:Ext W w52.drew:=E52.trans ed52
 have f52d:Ext w23 w52.drew:=f52.trans ed52
 have hOd:=hO.ext E52d
 have zE:=E52d.size;have zf:=f52d.size
 have z23:=e23.size
 have B21d:=f52d.at B21
 have h21n:∀s,b21∉blk (ownT f s):=fun s hj=>by have:=(hO.ow s).lt _ hj;omega
 have fin:∀ {W1:World},Ext w52.drew W1->∀(W':World)(f':List (Int×Sl)),OwM W' b9 b9 (hs.take i++[n]) f'->Ch (fun j=>b9<=j/\j<w52.drew.heap.size) W1 W'->
   ([]:List Nat)=[]/\∃b,b<m/\∃(i':Nat)(f:List (Int×Sl)),i'<=hs.length/\b+i'=hs.length/\IntKind.i64.wrap ((i:Int)+1)=(i':Int)/\MayT x hs i'/\OwM W' b9 b9 (hs.take i') f/\Ext w2 W'/\Ext w W'/\b9<W'.heap.size:=fun{W1} e1 W' f' hO' hC'=>by
  refine⟨rfl,m-1,by omega,i+1,f',hi',by omega,by rw[wrap_of (by omega) (by omega)];rfl,fun k n' hk' hn'=>?_,by rw[htk];exact hO',((xW.trans E52d).trans e1).chN hC' fun j hj=>by omega,((XW.trans E52d).trans e1).chN hC' fun j hj=>by omega,?_⟩
  ·rcases Nat.lt_or_ge k i with h'|h'
   ·exact hT k n' h' hn'
   ·have:k=i:=by omega
    subst this
    rw[hx] at hn';cases hn';exact hNode
  ·have:=hC'.size;have:=e1.size;omega
 have hsl:(hs.take i).length<=1000:=by rw[List.length_take];omega
 unfold F84k1
 refine⟨_,q 0 f52d,_,q 0 f52d,n.v,boxAll (cs:=nC n.v) B21 f52d,?_,by decide,fun b67 w68 a68=>?_⟩
 ·refine hOd.get n.v.1 fun _=>⟨ownT f n.v.1,rfl,boxAll (cs:=nC n.v) B21 f52d,q 0 f52d,by decide,fun b60 w61 a61=>⟨q 0 (f52d.trans (a61.ch _)),?_⟩⟩
  have p61:=a61.here
  exact hOd.add (by omega) hsl (a61.ch _) a61.new (by omega) (fun W' f' hO' hC'=>fin (a61.ch _) W' f' hO' hC') (b21:=b21) (cs21:=nC n.v) B21d h21n (by omega) (Nat.le_refl _)
 ·have p68:=a68.here
  have e68:Ext w52.drew w68:=a68.ch _
  refine⟨q 0 (f52d.trans e68),q 0 (f52d.trans e68),(hOd.ext e68).get n.v.1 fun _=>⟨ownT f n.v.1,rfl,q 0 (f52d.trans e68),?_⟩⟩
  exact hOd.add (by omega) hsl e68 a68.new (by omega) (fun W' f' hO' hC'=>fin e68 W' f' hO' hC') (b21:=b21) (cs21:=nC n.v) B21d h21n (by omega) (Nat.le_refl _)
def F145j1(t1:Int)(t2:Int)(t3:Int)(R:RV)(b1:Nat)(y3:Nat->Int×Int->World->Prop)(b5:Nat)(x6:Int×Int)(w7:World):Prop:=IfB (decide (x6.snd<t3)) (∃(x10:Sl×List Value),CellsN w7 b1 0 17 (Qy x10.fst::x10.2)/\Qv' 194 #[Value.agg { toList:=Qy x10.fst::x10.2 },Qz t1,Qz t2,Qz x6.2] w7 fun t15 w14=>IfB t15 (Qn y3 b5 (IntKind.i64.wrap (x6.1+1),IntKind.i64.wrap (x6.2+1)) w14) (Qn y3 b5 (x6.1,IntKind.i64.wrap (x6.2+1)) w14)) (R (Qz x6.1) w7)
theorem F145_ok(t0:Sl×List Value)(t1:Int)(t2:Int)(t3:Int)(w:World)(R:RV)(h:AllocP w (Obj.cells { toList:=Qy t0.fst::t0.2 } 26) fun b1 w2=>Ql (α:=Int×Int) (0,0) w2 fun y3 b5 x6 w7=>(F145j1 t1 t2 t3 R b1 y3 b5 x6 w7)):Cw 145 #[Value.agg { toList:=Qy t0.fst::t0.2 },Qz t1,Qz t2,Qz t3] w R:=
 ckF Tryz.func145 (nd (nd (.node (nd (.loop [(9,oi),(10,oi)] (rg [9,22]) .nil)) .nil))) h (by kernel_rfl) (by kernel_rfl)
theorem F91_ok(t0:Sl×List Value)(t1:Int)(w:World)(R:RV)(h:AllocP w (Obj.cells { toList:=Qy t0.fst::t0.2 } 26) fun b1 w2=>IfB (decide (0<=t1)) (Qs w2 b1 (0+0) fun s3=>R (Value.bool (decide (t1<(s3.n:Int)))) w2) (R (Value.bool false) w2)):Cw 91 #[Value.agg { toList:=Qy t0.fst::t0.2 },Qz t1] w R:=
 ckF Tryz.func91 .nil h (by kernel_rfl) (by kernel_rfl)
def F92j1(t0:Sl)(R:RV)(y1:Nat->Int->World->Prop)(b3:Nat)(n4:Int)(w5:World):Prop:=IfB (decide (n4<(t0.n:Int))) (Qx t0.1 n4 (t0.2:Int) fun b8 b9=>Qi w5.drew b8 (b9+n4.toNat*2+0) fun n10=>IfB (decide (n10<0)) (R (Value.bool false) w5.drew) (Qx t0.1 n4 (t0.2:Int) fun b11 b12=>Qi w5.drew b11 (b12+n4.toNat*2+0) fun n13=>Qx t0.1 n4 (t0.2:Int) fun b14 b15=>Qi w5.drew b14 (b15+n4.toNat*2+1) fun n16=>IfB (decide (n16<n13)) (R (Value.bool false) w5.drew) (Qx t0.1 n4 (t0.2:Int) fun b17 b18=>Qi w5.drew b17 (b18+n4.toNat*2+1) fun n19=>IfB (decide (999<n19)) (R (Value.bool false) w5.drew) (Qn y1 b3 (IntKind.i64.wrap (n4+1)) w5.drew)))) (R (Value.bool (decide ((t0.n:Int)<=40))) w5)
theorem F92_ok(t0:Sl)(w:World)(R:RV)(h:Ql (α:=Int) 0 w fun y1 b3 n4 w5=>(F92j1 t0 R y1 b3 n4 w5)):Cw 92 #[Qy t0] w R:=
 ckF Tryz.func92 (nd (.node (nd (.loop [(3,oi)] (rg [2,36]) (nd (.node (.node (.draw (sts [0,1,2,3,4,5,6,7,8,9,10,11,12,13,14,15,16,17,18,19,20,21,22,23,24,25,26] .fin)) .nil) .nil)))) .nil)) h (by kernel_rfl) (by kernel_rfl)
def F31k1(w66:World)(b64:Nat)(b19:Nat)(R:RV)(b11:Nat)(y9:Nat->Int->World->Prop)(n12:Int):Prop:=Qb w66 b64 (0+3) fun t75=>IfB t75 (Qb w66 b19 (0+3) fun t76=>IfB (!t76) (R (Value.bool false) w66) (Qn y9 b11 (IntKind.i64.wrap (n12+1)) w66)) (Qn y9 b11 (IntKind.i64.wrap (n12+1)) w66)
def F31k2(t1:Sl)(x48:Int×Int)(w49:World)(b19:Nat)(R:RV)(b11:Nat)(y9:Nat->Int->World->Prop)(n12:Int):Prop:=Qx t1.1 x48.1 (t1.2:Int) fun b61 b62=>∃(x63:Int×Int×Int×Bool×Sl×Sl),CellsAt w49 b61 (b62+x48.1.toNat*6) (lC53 x63)/\AllocP w49 (Obj.cells #[Qz 0,Qz 0,Qz 0,Value.bool false,Value.slice none 0 0,Value.slice none 0 0] 53) fun b64 w65=>(lC53 x63).toArray.size=6/\StoreP w65 b64 0 (lC53 x63) fun w66=>Qi w66 b64 (0+2) fun n67=>Qb w66 b19 (0+3) fun t68=>IfB t68 (Qi w66 b64 (0+2) fun n69=>Qb w66 b64 (0+3) fun t70=>IfB t70 (Qi w66 b64 (0+2) fun n71=>Qi w66 b19 (0+1) fun n72=>Qi w66 b64 (0+1) fun n73=>IfB (n72 != n73) (R (Value.bool false) w66) (Qi w66 b19 (0+2) fun n74=>IfB (n74 != IntKind.i64.wrap (n71-1)) (R (Value.bool false) w66) (F31k1 w66 b64 b19 R b11 y9 n12))) (Qi w66 b19 (0+1) fun n79=>Qi w66 b64 (0+1) fun n80=>IfB (n79 != n80) (R (Value.bool false) w66) (Qi w66 b19 (0+2) fun n81=>IfB (n81 != n69) (R (Value.bool false) w66) (F31k1 w66 b64 b19 R b11 y9 n12)))) (Qi w66 b19 (0+1) fun n86=>Qi w66 b64 (0+1) fun n87=>IfB (n86 != n87) (R (Value.bool false) w66) (Qi w66 b19 (0+2) fun n88=>IfB (n88 != IntKind.i64.wrap (n67+1)) (R (Value.bool false) w66) (F31k1 w66 b64 b19 R b11 y9 n12)))
def F31j2(t1:Sl)(R:RV)(y9:Nat->Int->World->Prop)(b11:Nat)(n12:Int)(b19:Nat)(y45:Nat->Int×Int->World->Prop)(b47:Nat)(x48:Int×Int)(w49:World):Prop:=IfB (decide (x48.snd<n12)) (Qx t1.1 x48.2 (t1.2:Int) fun b52 b53=>Qi w49.drew b52 (b53+x48.2.toNat*6+0) fun n54=>Qi w49.drew b19 (0+0) fun n55=>IfB (n54 == n55) (Qn y45 b47 (x48.2,IntKind.i64.wrap (x48.2+1)) w49.drew) (Qn y45 b47 (x48.1,IntKind.i64.wrap (x48.2+1)) w49.drew)) (IfB (decide (x48.fst<0)) (Qb w49 b19 (0+3) fun t58=>IfB t58 (R (Value.bool false) w49) (Qi w49 b19 (0+2) fun n59=>IfB (n59 != 0) (R (Value.bool false) w49) (Qn y9 b11 (IntKind.i64.wrap (n12+1)) w49))) (F31k2 t1 x48 w49 b19 R b11 y9 n12))
def F31k3(t1:Sl)(n12:Int)(w13:World)(R:RV)(b1:Nat)(y9:Nat->Int->World->Prop)(b11:Nat):Prop:=Qx t1.1 n12 (t1.2:Int) fun b16 b17=>∃(x18:Int×Int×Int×Bool×Sl×Sl),CellsAt w13 b16 (b17+n12.toNat*6) (lC53 x18)/\AllocP w13 (Obj.cells #[Qz 0,Qz 0,Qz 0,Value.bool false,Value.slice none 0 0,Value.slice none 0 0] 53) fun b19 w20=>(lC53 x18).toArray.size=6/\StoreP w20 b19 0 (lC53 x18) fun w21=>Qi w21.drew b19 (0+0) fun n22=>IfB (decide (n22<0)) (R (Value.bool false) w21.drew) (∃(x23:Sl×List Value),CellsN w21.drew b1 0 17 (Qy x23.fst::x23.2)/\Qi w21.drew b19 (0+1) fun n26=>Qv' 91 #[Value.agg { toList:=Qy x23.fst::x23.2 },Qz n26] w21.drew fun t29 w28=>IfB (!t29) (R (Value.bool false) w28) (Qs w28 b19 (0+4) fun s30=>Qv' 92 #[Qy s30] w28 fun t33 w32=>IfB (!t33) (R (Value.bool false) w32) (Qs w32 b19 (0+5) fun s34=>Qv' 92 #[Qy s34] w32 fun t37 w36=>IfB (!t37) (R (Value.bool false) w36) (Qi w36 b19 (0+2) fun n38=>IfB (decide (n38<0)) (R (Value.bool false) w36) (Qi w36 b19 (0+2) fun n39=>Qs w36 b1 (0+0) fun s40=>Qi w36 b19 (0+1) fun n41=>Qx s40.1 n41 (s40.2:Int) fun b42 b43=>Qs w36 b42 (b43+n41.toNat*5+2) fun s44=>IfB (decide ((s44.n:Int)<=n39)) (R (Value.bool false) w36) (Ql (α:=Int×Int) ((-1:Int),0) w36 fun y45 b47 x48 w49=>(F31j2 t1 R y9 b11 n12 b19 y45 b47 x48 w49)))))))
def F31j1(t1:Sl)(R:RV)(b1:Nat)(y9:Nat->Int->World->Prop)(b11:Nat)(n12:Int)(w13:World):Prop:=IfB (decide (n12<(t1.n:Int))) (F31k3 t1 n12 w13 R b1 y9 b11) (R (Value.bool true) w13)
theorem F31_ok(t0:Sl×List Value)(t1:Sl)(w:World)(R:RV)(h:AllocP w (Obj.cells { toList:=Qy t0.fst::t0.2 } 26) fun b1 w2=>∃(x3:Sl×List Value),CellsN w2 b1 0 17 (Qy x3.fst::x3.2)/\Qv' 53 #[Value.agg { toList:=Qy x3.fst::x3.2 }] w2 fun t8 w7=>IfB (!t8) (R (Value.bool false) w7) (IfB (decide (100<(t1.n:Int))) (R (Value.bool false) w7) (Ql (α:=Int) 0 w7 fun y9 b11 n12 w13=>(F31j1 t1 R b1 y9 b11 n12 w13)))):Cw 31 #[Value.agg { toList:=Qy t0.fst::t0.2 },Qy t1] w R:=
 ckF Tryz.func31 (nd (nd (.node (nd (.loop [(5,oi)] (rg [4,10,19,127]) (nd (.node (nd (.node (.node (.draw (sts [0,1,2,3,4,5,6] (.ac 7 [] (sts [8,9,10,11,12] (.ac 13 [] (sts [14,15,16,17,18] (.ac 19 [] (sts [20,21,22,23,24,25,26,27,28,29,30,31,32,33,34,35,36,37,38,39] .fin) .non)) .non)) .non))) .nil) (nd (.node (nd (.loop [(7,oi),(8,oi)] (rg [7,8,69,82]) (nd (.node (.node (.draw (sts [0,1,2,3,4,5,6,7] .fin)) .nil) .nil)))) .nil)))) .nil)))) .nil))) h (by kernel_rfl) (by kernel_rfl)
def F94k1(w14:World)(b9:Nat)(b11:Nat)(b1:Nat)(t4:Int)(R:RV):Prop:=Qi w14.drew b9 (0+0) fun n15=>Qi w14.drew b11 (0+0) fun n16=>IfB (n15 == n16) (Qb w14.drew b9 (0+3) fun t17=>IfB (!t17) (Qb w14.drew b11 (0+3) fun t18=>IfB (!t18) (∃(x19:Sl×List Value),CellsN w14.drew b1 0 17 (Qy x19.fst::x19.2)/\Qi w14.drew b9 (0+1) fun n22=>Qi w14.drew b9 (0+2) fun n23=>∃(x24:Sl×List Value),CellsN w14.drew b1 0 17 (Qy x24.fst::x24.2)/\Qi w14.drew b9 (0+1) fun n27=>Qi w14.drew b11 (0+2) fun n28=>Qw' 145 #[Value.agg { toList:=Qy x19.fst::x19.2 },Qz n22,Qz t4,Qz n23] w14.drew fun n31 w30=>w30.cell? ⟨b11,0+2,none⟩=some (Qz n28)/\w30.cell? ⟨b9,0+1,none⟩=some (Qz n27)/\CellsN w30 b1 0 17 (Qy x24.fst::x24.2)/\Qw' 145 #[Value.agg { toList:=Qy x24.fst::x24.2 },Qz n27,Qz t4,Qz n28] w30 fun n36 w35=>R (Value.bool (n31 == n36)) w35) (R (Value.bool false) w14.drew)) (R (Value.bool false) w14.drew)) (R (Value.bool false) w14.drew)
theorem F94_ok(t0:Sl×List Value)(t1:Sl)(t2:Int)(t3:Int)(t4:Int)(w:World)(R:RV)(h:AllocP w (Obj.cells { toList:=Qy t0.fst::t0.2 } 26) fun b1 w2=>Qx t1.1 t2 (t1.2:Int) fun b3 b4=>∃(x5:Int×Int×Int×Bool×Sl×Sl),CellsAt w2.drew b3 (b4+t2.toNat*6) (lC53 x5)/\Qx t1.1 t3 (t1.2:Int) fun b6 b7=>∃(x8:Int×Int×Int×Bool×Sl×Sl),CellsAt w2.drew b6 (b7+t3.toNat*6) (lC53 x8)/\(AllocP w2.drew (Obj.cells #[Qz 0,Qz 0,Qz 0,Value.bool false,Value.slice none 0 0,Value.slice none 0 0] 53) fun b9 w10=>CellsAt w10 b6 (b7+t3.toNat*6) (lC53 x8)/\CellsAt w10 b3 (b4+t2.toNat*6) (lC53 x5)/\AllocP w10 (Obj.cells #[Qz 0,Qz 0,Qz 0,Value.bool false,Value.slice none 0 0,Value.slice none 0 0] 53) fun b11 w12=>CellsAt w12 b6 (b7+t3.toNat*6) (lC53 x8)/\CellsAt w12 b3 (b4+t2.toNat*6) (lC53 x5)/\(lC53 x5).toArray.size=6/\StoreP w12 b9 0 (lC53 x5) fun w13=>CellsAt w13 b6 (b7+t3.toNat*6) (lC53 x8)/\(lC53 x8).toArray.size=6/\StoreP w13 b11 0 (lC53 x8) fun w14=>IfB (t2 == t3) (R (Value.bool true) w14) (F94k1 w14 b9 b11 b1 t4 R))/\AllocP w2.drew (Obj.cells #[Qz 0,Qz 0,Qz 0,Value.bool false,Value.slice none 0 0,Value.slice none 0 0] 53) fun b37 w38=>CellsAt w38 b6 (b7+t3.toNat*6) (lC53 x8)/\CellsAt w38 b3 (b4+t2.toNat*6) (lC53 x5)/\AllocP w38 (Obj.cells #[Qz 0,Qz 0,Qz 0,Value.bool false,Value.slice none 0 0,Value.slice none 0 0] 53) fun b39 w40=>CellsAt w40 b6 (b7+t3.toNat*6) (lC53 x8)/\CellsAt w40 b3 (b4+t2.toNat*6) (lC53 x5)/\(lC53 x5).toArray.size=6/\StoreP w40 b39 0 (lC53 x5) fun w41=>CellsAt w41 b6 (b7+t3.toNat*6) (lC53 x8)/\(lC53 x8).toArray.size=6/\StoreP w41 b37 0 (lC53 x8) fun w42=>IfB (t2 == t3) (R (Value.bool true) w42) (F94k1 w42 b39 b37 b1 t4 R)):Cw 94 #[Value.agg { toList:=Qy t0.fst::t0.2 },Qy t1,Qz t2,Qz t3,Qz t4] w R:=
 ckF Tryz.func94 (nd (.node (.draw (sts [0,1,2,3,4,5,6,7] (.ac 8 (rg [0,7]) (.ac 9 (rg [0,7]) (.ac 10 [7,6,5,4] (.ac 11 [] .fin .non) .non) .non) (.ac 9 (rg [0,7]) (.ac 8 (rg [0,7]) (.ac 10 [7,6,5,4] (.ac 11 [] .fin .non) .non) .non) .non)))) (nd (.node (.draw (sts [0,1,2,3,4,5,6,7,8,9,10,11,12,13,14,15,16,17,18,19,20,21,23,24,25,26,27,28] (.ac 22 (rg [23,28]) (.ac 29 [] (sts [30,31,32] .fin) .non) .non))) .nil)))) h (by kernel_rfl) (by kernel_rfl)
def uN(x:CatD)(c d:Int)(k:Nat):Nat:=if 0<=c/\0<=d then unitN x c.toNat d.toNat k else 0
theorem uN_succ(x:CatD)(c d:Int)(k:Nat):uN x c d (k+1)=uN x c d k+if (decide (0<=c/\0<=d/\0<=(k:Int))&&brkB x c.toNat d.toNat (k:Int).toNat)=true then 1 else 0:=by
 unfold uN
 by_cases h:0<=c/\0<=d
 ·rw[if_pos h,if_pos h,unitN,decide_eq_true (show 0<=c/\0<=d/\0<=(k:Int) by omega),Bool.true_and,Int.toNat_natCast]
 ·rw[if_neg h,if_neg h,decide_eq_false (by omega)];simp
theorem uN_le(x:CatD)(c d:Int)(k:Nat):uN x c d k<=k:=by
 induction k with
 | zero=>unfold uN;split<;>simp[unitN]
 | succ k ih=>rw[uN_succ];split<;>omega
theorem c145{w:World}{v:CatV}{x:CatD}(h:CatM w v x)(hk:CatOk x)(c d i:Int)(hi:i<=1000000):
  Cw 145 #[cxV v,iv c,iv d,iv i] w fun r w'=>r=iv (uN x c d i.toNat)/\Ext w w':=by
 refine F145_ok v c d i w _ fun b1 w2 a2=>?_
 have e2:Ext w w2:=a2.ch _
 refine⟨fun m z W=>∃k:Nat,k<=i.toNat/\m+k=i.toNat/\z=((uN x c d k:Int),(k:Int))/\Ext w2 W,⟨i.toNat,0,Nat.zero_le _,rfl,by unfold uN;split<;>rfl,Ch.refl _ _⟩,?_⟩
 rintro m _ W g ⟨k,hk',hm,rfl,e⟩
 unfold F145j1
 have hu:=uN_le x c d k
 refine IfB.dec (fun hl=>?_) fun hg=>?_
 ·dsimp only at hl
  refine⟨v,cxN h a2.new e,(c194 (h.ext (e2.trans e)) hk c d (k:Int) (by omega)).use ?_⟩
  rintro _ w14 ⟨rfl,e14⟩
  have hs:=uN_succ x c d k
  refine⟨_,rfl,IfB.intro (fun h1=>⟨rfl,m-1,by omega,k+1,by omega,by omega,?_,e.trans e14⟩) fun h1=>⟨rfl,m-1,by omega,k+1,by omega,by omega,?_,e.trans e14⟩⟩
  ·rw[if_pos h1] at hs
   dsimp only
   rw[wrap_of (by omega) (by omega),wrap_of (by omega) (by omega),hs];rfl
  ·rw[if_neg (by rw[h1];decide)] at hs
   dsimp only
   rw[wrap_of (by omega) (by omega),hs];rfl
 ·dsimp only at hg
  have:k=i.toNat:=by omega
  subst this
  exact⟨rfl,e2.trans e⟩
theorem c91{w:World}{v:CatV}{x:CatD}(h:CatM w v x)(c:Int):Cw 91 #[cxV v,iv c] w fun r w'=>r=.bool (decide (0<=c/\c<(x.1.length:Int)))/\Ext w w':=by
 have hn:=cat_cl h
 refine F91_ok v c w _ fun b1 w2 a2=>?_
 have e2:Ext w w2:=a2.ch _
 refine IfB.dec (fun h1=>⟨v.1,boxAt (cs:=cxC v) a2.new 0 (Ch.refl _ _),?_,e2⟩) fun h1=>⟨by rw[decide_eq_false (by omega)],e2⟩
 congr 1;rw[Bool.eq_iff_iff,decide_eq_true_eq,decide_eq_true_eq,hn];omega
theorem c92{w:World}{t:Sl}{l:List Spn}(h:Rd w t 2 (l.flatMap sv))(hl:l.length<=1000000):Cw 92 #[slV t] w fun v w'=>∃r,v=.bool r/\(r=true↔SpsOk l)/\Ext w w':=by
 have hn:=rdN sv_len (by omega) h
 refine F92_ok t w _ ⟨fun m z W=>∃i:Nat,i<=l.length/\m+i=l.length/\z=(i:Int)/\(∀s∈l.take i,mayS s)/\Ext w W,⟨l.length,0,Nat.zero_le _,rfl,rfl,by simp,Ch.refl _ _⟩,?_⟩
 rintro m _ W g ⟨i,hi,hm,rfl,ha,e⟩
 unfold F92j1
 refine IfB.dec (fun hlt=>?_) fun hge=>?_
 ·have hi':i<l.length:=by omega
  have hx:l[i]? =some l[i]:=List.getElem?_eq_getElem hi'
  have hxm:l[i]∈l:=List.getElem_mem hi'
  have htk:=take_succ_get hx
  generalize l[i]=y at hx hxm htk
  have eD:Ext w W.drew:=e.trans (extDrew W)
  obtain⟨b,o,hp,hc⟩:=(h.ext eD).elem (i:=i) (by omega) (by omega) (flatGet sv_len hx)
  have no:¬mayS y->∃b,Value.bool false=.bool b/\(b=true↔SpsOk l)/\Ext w W.drew:=fun h=>⟨false,rfl,⟨fun h=>(by cases h),fun h'=>absurd (h'.2 y hxm) h⟩,eD⟩
  have hb:(0:Int)<=(i:Int)/\(i:Int)<(t.n:Int):=⟨by omega,by omega⟩
  have c0:=hc 0 _ rfl
  have c1:=hc 1 _ rfl
  refine⟨b,o,hp,hb,y.1,by rw[Int.toNat_natCast];exact c0,IfB.dec (fun h1=>no fun k=>by have:=k.1;omega) fun h1=>⟨b,o,hp,hb,y.1,by rw[Int.toNat_natCast];exact c0,b,o,hp,hb,y.2,by rw[Int.toNat_natCast];exact c1,IfB.dec (fun h2=>no fun k=>by have:=k.2.1;omega) fun h2=>⟨b,o,hp,hb,y.2,by rw[Int.toNat_natCast];exact c1,IfB.dec (fun h3=>no fun k=>by have:=k.2.2;omega) fun h3=>⟨rfl,m-1,by omega,i+1,hi',by omega,by rw[wrap_of (by omega) (by omega)];rfl,?_,eD⟩⟩⟩⟩
  rw[htk];intro z hz
  rcases List.mem_append.1 hz with hz|hz
  ·exact ha z hz
  ·rw[List.mem_singleton.1 hz];exact⟨by omega,by omega,by omega⟩
 ·have hi':i=l.length:=by omega
  subst hi'
  rw[List.take_length] at ha
  refine⟨_,rfl,?_,e⟩
  rw[decide_eq_true_eq]
  exact⟨fun h=>⟨by omega,ha⟩,fun h=>by have:=h.1;omega⟩
theorem lastOwn_succ{hs:List Nd}{k:Nat}{y:Nd}(hx:hs[k]? =some y)(s:Int):lastOwn hs (k+1) s=if y.v.1=s then some y else lastOwn hs k s:=by
 unfold lastOwn ownL
 rw[take_succ_get hx,List.filter_append]
 by_cases h:y.v.1=s<;>simp[h]
theorem c31{w:World}{v:CatV}{x:CatD}{t:Sl}{hs:List Nd}(h:CatM w v x)(hH:Hst w t hs):
  Cw 31 #[cxV v,slV t] w fun r w'=>∃b,r=.bool b/\(b=true↔HMay x hs)/\Ext w w':=by
 have htn:=hH.n
 refine F31_ok v t w _ fun b1 w2 a2=>?_
 have e2:Ext w w2:=a2.ch _
 have no:∀ {V:World},¬HMay x hs->Ext w2 V->∃b,Value.bool false=.bool b/\(b=true↔HMay x hs)/\Ext w V:=fun h e=>⟨false,rfl,⟨fun h=>(by cases h),fun h'=>absurd h' h⟩,e2.trans e⟩
 refine⟨v,cxN h a2.new (Ch.refl _ _),(c53 (h.ext e2)).use ?_⟩
 rintro _ w7 ⟨r,rfl,hr,e7⟩
 refine⟨r,rfl,IfB.intro (fun h1=>no (fun k=>?_) e7) fun h1=>IfB.dec (fun h2=>no (fun k=>by have:=k.len;omega) e7) fun h2=>?_⟩
 ·have h1:r=false:=by simpa using h1
  rw[hr.2 k.cat] at h1;cases h1
 have hk:=hr.1 (by simpa using h1)
 have h4:=hk.n4
 have hn:=cat_cl h
 have h100:hs.length<=100:=by omega
 refine⟨fun m z W=>∃i:Nat,i<=hs.length/\m+i=hs.length/\z=(i:Int)/\MayT x hs i/\Ext w2 W,⟨hs.length,0,Nat.zero_le _,rfl,rfl,fun k n hk=>absurd hk (Nat.not_lt_zero _),e7⟩,?_⟩
 rintro m _ W g ⟨i,hi,hm,rfl,hT,xW⟩
 unfold F31j1
 refine IfB.dec (fun hlt=>?_) fun hge=>?_
 case refine_2=>
  have hi':i=hs.length:=by omega
  subst hi'
  exact⟨true,rfl,⟨fun _=>⟨hk,h100,fun k n hn=>hT k n (List.getElem?_eq_some_iff.1 hn).1 hn⟩,fun _=>rfl⟩,e2.trans xW⟩
 have hi':i<hs.length:=by omega
 have hx:hs[i]? =some hs[i]:=List.getElem?_eq_getElem hi'
 generalize hs[i]=n at hx
 have noN:∀ {V:World},¬(NodeOk x (lastOwn hs i n.v.1) n/\n.v.2.2.1<(nSt x n.v.2.1.toNat:Int))->Ext w2 V->∃b,Value.bool false=.bool b/\(b=true↔HMay x hs)/\Ext w V:=fun h e=>no (fun k=>h ⟨k.ok i n hx,MayT.step hk (i:=hs.length) (fun k' n' _ hn'=>k.ok k' n' hn') i n hi' hx⟩) e
 unfold F31k3
 obtain⟨b18,o18,hp18,hc18⟩:=(hH.ext (e2.trans xW)).at hx
 refine⟨b18,o18,hp18,⟨by omega,by omega⟩,n.v,by rw[Int.toNat_natCast];exact hc18,fun b19 w20 a20=>⟨rfl,store_all (vs:=nC n.v) a20.new rfl (nC_one n.v) fun w21 u21=>?_⟩⟩
 have e21:Ext W w21:=Ext.fresh a20 u21
 have B19:=u21.new
 have q:=fun{V:World} (o:Nat) (e:Ext w21 V)=>boxAt (cs:=nC n.v) B19 o e
 have ed:=extDrew w21
 have X:=fun{V:World} (e:Ext w21 V)=>(show Ext w2 V from xW.trans (e21.trans e))
 have Y:=fun{V:World} (e:Ext w21 V)=>(show Ext w V from e2.trans (X e))
 refine⟨_,q 0 ed,IfB.dec (fun h1=>noN (fun k=>by have:=k.1.s0;omega) (X ed)) fun h1=>⟨v,cxN h a2.new (X ed),_,q 1 ed,(c91 (h.ext (Y ed)) n.v.2.1).use ?_⟩⟩
 rintro _ w28 ⟨rfl,e28⟩
 have f28:Ext w21 w28:=ed.trans e28
 have hnd:=fun{V:World} (e:Ext w21 V)=>(hH.ext (Y e)).get hx
 refine⟨_,rfl,IfB.intro (fun h2=>noN (fun k=>?_) (X f28)) fun h2=>⟨_,q 4 f28,(c92 (hnd f28).rs (hnd f28).rl).use ?_⟩⟩
 ·rw[decide_eq_true (show 0<=n.v.2.1/\n.v.2.1<(x.1.length:Int) from ⟨k.1.c0,k.1.cn⟩)] at h2;cases h2
 have hcl:0<=n.v.2.1/\n.v.2.1<(x.1.length:Int):=by simpa using h2
 rintro _ w32 ⟨r1,rfl,hr1,e32⟩
 have f32:=f28.trans e32
 refine⟨r1,rfl,IfB.intro (fun h5=>noN (fun k=>?_) (X f32)) fun h5=>⟨_,q 5 f32,(c92 (hnd f32).ws (hnd f32).wl).use ?_⟩⟩
 ·have h5:r1=false:=by simpa using h5
  rw[hr1.2 k.1.rs] at h5;cases h5
 rintro _ w36 ⟨r2,rfl,hr2,e36⟩
 have f36:=f32.trans e36
 refine⟨r2,rfl,IfB.intro (fun h6=>noN (fun k=>?_) (X f36)) fun h6=>⟨_,q 2 f36,IfB.dec (fun h3=>noN (fun k=>by have:=k.1.st0;omega) (X f36)) fun h3=>?_⟩⟩
 ·have h6:r2=false:=by simpa using h6
  rw[hr2.2 k.1.ws] at h6;cases h6
 have k1:=hr1.1 (by simpa using h5)
 have k2:=hr2.1 (by simpa using h6)
 obtain⟨C,hC⟩:=Int.eq_ofNat_of_zero_le hcl.1
 have hCl:C<x.1.length:=by omega
 have hxc:x.1[C]? =some x.1[C]:=List.getElem?_eq_getElem hCl
 generalize x.1[C]=y at hxc
 have hns:=nSt_of hxc
 have hnC:n.v.2.1.toNat=C:=by omega
 obtain⟨pb,ob,sb,hpb,hcb,hsb,_⟩:=steps_at h hxc (Y f36)
 refine⟨_,q 2 f36,v.1,boxAt (cs:=cxC v) a2.new 0 (X f36),_,q 1 f36,pb,ob,hpb,⟨hcl.1,by show n.v.2.1<(v.1.n:Int);omega⟩,sb,by show w36.cell? ⟨pb,ob+n.v.2.1.toNat*5+2,none⟩=_;rw[hnC];exact hcb,IfB.dec (fun h8=>noN (fun k=>?_) (X f36)) fun h8=>?_⟩
 ·have:=k.2
  rw[hnC] at this
  omega
 have hst:n.v.2.2.1<(nSt x n.v.2.1.toNat:Int):=by rw[hnC];omega
 have fin:∀ {V:World},Ext w2 V->nextP (lastOwn hs i n.v.1) n (nSt x n.v.2.1.toNat)->([]:List Nat)=[]/\∃b,b<m/\∃i':Nat,i'<=hs.length/\b+i'=hs.length/\IntKind.i64.wrap ((i:Int)+1)=(i':Int)/\MayT x hs i'/\Ext w2 V:=fun eV hN=>⟨rfl,m-1,by omega,i+1,hi',by omega,by rw[wrap_of (by omega) (by omega)];rfl,fun k n' hk' hn'=>by
  rcases Nat.lt_or_ge k i with h'|h'
  ·exact hT k n' h' hn'
  ·have:k=i:=by omega
   subst this
   rw[hx] at hn';cases hn'
   exact⟨by omega,hcl.1,hcl.2,by omega,k1,k2,hN⟩,eV⟩
 have noX:∀ {V:World},¬nextP (lastOwn hs i n.v.1) n (nSt x n.v.2.1.toNat)->Ext w2 V->∃b,Value.bool false=.bool b/\(b=true↔HMay x hs)/\Ext w V:=fun h e=>noN (fun k=>h k.1.nx) e
 refine⟨fun m' z V=>∃(k:Nat)(la:Int),k<=i/\m'+k=i/\z=(la,(k:Int))/\((la= -1/\lastOwn hs k n.v.1=none)\/∃(l:Nat)(mm:Nd),la=(l:Int)/\l<k/\hs[l]? =some mm/\lastOwn hs k n.v.1=some mm)/\Ext w21 V,⟨i,0, -1,Nat.zero_le _,rfl,rfl,.inl ⟨rfl,rfl⟩,f36⟩,?_⟩
 rintro m' _ V g' ⟨k,la,hki,hmk,rfl,hla,fV⟩
 unfold F31j2
 refine IfB.dec (fun hl=>?_) fun hg=>?_
 ·dsimp only at hl
  have hk':k<hs.length:=by omega
  have hy:hs[k]? =some hs[k]:=List.getElem?_eq_getElem hk'
  generalize hs[k]=z at hy
  have fD:Ext w21 V.drew:=fV.trans (extDrew V)
  obtain⟨b5,o5,hp5,hc5⟩:=(hH.ext (Y fD)).at hy
  have hls:=lastOwn_succ hy n.v.1
  have hw:IntKind.i64.wrap ((k:Int)+1)=((k+1:Nat):Int):=by rw[wrap_of (by omega) (by omega)];rfl
  refine⟨b5,o5,hp5,⟨by dsimp only;omega,by dsimp only;omega⟩,z.v.1,by dsimp only;rw[Int.toNat_natCast];exact hc5 0 _ rfl,_,q 0 fD,IfB.intro (fun h9=>⟨rfl,m'-1,by omega,k+1,(k:Int),by omega,by omega,by dsimp only;rw[hw],?_,fD⟩) fun h9=>⟨rfl,m'-1,by omega,k+1,la,by omega,by omega,by dsimp only;rw[hw],?_,fD⟩⟩
  ·have h9:z.v.1=n.v.1:=by simpa using h9
   rw[if_pos h9] at hls
   exact .inr ⟨k,z,rfl,by omega,hy,hls⟩
  ·have h9:¬z.v.1=n.v.1:=by simpa using h9
   rw[if_neg h9] at hls
   rw[hls]
   rcases hla with h'|⟨l,mm,g1,g2,g3,g4⟩
   ·exact .inl h'
   ·exact .inr ⟨l,mm,g1,by omega,g3,g4⟩
 dsimp only at hg
 have hki':k=i:=by omega
 subst hki'
 refine IfB.dec (fun h9=>?_) fun h9=>?_
 ·dsimp only at h9
  have hnone:lastOwn hs k n.v.1=none:=by
   rcases hla with ⟨_,h'⟩|⟨l,mm,g1,_⟩
   ·exact h'
   ·omega
  refine⟨_,q 3 fV,IfB.intro (fun h10=>noX (fun kk=>?_) (X fV)) fun h10=>⟨_,q 2 fV,IfB.intro (fun h11=>noX (fun kk=>?_) (X fV)) fun h11=>fin (X fV) ?_⟩⟩
  ·rw[hnone] at kk
   rw[kk.1] at h10;cases h10
  ·rw[hnone] at kk
   have h11:¬n.v.2.2.1=0:=by simpa using h11
   exact h11 kk.2
  ·rw[hnone]
   have h11:n.v.2.2.1=0:=by simpa using h11
   exact⟨h10,h11⟩
 dsimp only at h9
 have hsome:∃(l:Nat)(mm:Nd),la=(l:Int)/\l<k/\hs[l]? =some mm/\lastOwn hs k n.v.1=some mm:=by
  rcases hla with ⟨h',_⟩|h'
  ·omega
  ·exact h'
 obtain⟨l,mm,rfl,hlk,hml,hlast⟩:=hsome
 rw[hlast] at fin noX
 have hm0:=(hT l mm hlk hml).st0
 have hm1:=MayT.step hk hT l mm hlk hml
 have hm4:=steps_le hk mm.v.2.1.toNat
 have w1:IntKind.i64.wrap (mm.v.2.2.1+1)=mm.v.2.2.1+1:=wrap_of (by omega) (by omega)
 have w0:IntKind.i64.wrap (mm.v.2.2.1-1)=mm.v.2.2.1-1:=wrap_of (by omega) (by omega)
 unfold F31k2
 obtain⟨b5,o5,hp5,hc5⟩:=(hH.ext (Y fV)).at hml
 refine⟨b5,o5,hp5,⟨by dsimp only;omega,by dsimp only;omega⟩,mm.v,by dsimp only;rw[Int.toNat_natCast];exact hc5,fun b64 w65 a65=>⟨rfl,store_all (vs:=nC mm.v) a65.new rfl (nC_one mm.v) fun w66 u66=>?_⟩⟩
 have e66:Ext V w66:=Ext.fresh a65 u66
 have f66:Ext w21 w66:=fV.trans e66
 have p:=fun(o:Nat)=>boxAt (cs:=nC mm.v) u66.new o (Ch.refl _ _)
 have K1:(¬(mm.v.2.2.2.1=true/\n.v.2.2.2.1=false)->nextP (some mm) n (nSt x n.v.2.1.toNat))->F31k1 w66 b64 b19 (fun r w'=>∃b,r=.bool b/\(b=true↔HMay x hs)/\Ext w w') m (fun m z W=>∃i:Nat,i<=hs.length/\m+i=hs.length/\z=(i:Int)/\MayT x hs i/\Ext w2 W) (k:Int):=fun hN=>by
  refine⟨_,p 3,IfB.intro (fun g1=>⟨_,q 3 f66,IfB.intro (fun g2=>noX (fun kk=>?_) (X f66)) fun g2=>fin (X f66) (hN fun k=>?_)⟩) fun g1=>fin (X f66) (hN fun k=>?_)⟩
  ·have g2:n.v.2.2.2.1=false:=by simpa using g2
   have:=kk.2
   simp only[g1,g2] at this
  ·rw[k.2] at g2;cases g2
  ·rw[k.1] at g1;cases g1
 refine⟨_,p 2,_,q 3 f66,IfB.intro (fun g1=>⟨_,p 2,_,p 3,IfB.intro (fun g2=>⟨_,p 2,_,q 1 f66,_,p 1,IfB.intro (fun g3=>noX (fun kk=>?_) (X f66)) fun g3=>⟨_,q 2 f66,?_⟩⟩) fun g2=>⟨_,q 1 f66,_,p 1,IfB.intro (fun g3=>noX (fun kk=>?_) (X f66)) fun g3=>⟨_,q 2 f66,?_⟩⟩⟩) fun g1=>⟨_,q 1 f66,_,p 1,IfB.intro (fun g3=>noX (fun kk=>?_) (X f66)) fun g3=>⟨_,q 2 f66,?_⟩⟩⟩
 ·have g3:n.v.2.1≠mm.v.2.1:=by simpa using g3
  exact g3 kk.1
 ·have g3:n.v.2.1=mm.v.2.1:=by simpa using g3
  rw[w0]
  refine IfB.intro (fun g4=>noX (fun kk=>?_) (X f66)) fun g4=>K1 fun _=>?_
  ·have g4:¬n.v.2.2.1=mm.v.2.2.1-1:=by simpa using g4
   have:=kk.2
   simp only[g1,g2] at this
   exact g4 this
  ·have g4:n.v.2.2.1=mm.v.2.2.1-1:=by simpa using g4
   refine⟨g3,?_⟩
   simp only[g1,g2];exact g4
 ·have g3:n.v.2.1≠mm.v.2.1:=by simpa using g3
  exact g3 kk.1
 ·have g3:n.v.2.1=mm.v.2.1:=by simpa using g3
  refine IfB.intro (fun g4=>noX (fun kk=>?_) (X f66)) fun g4=>K1 fun _=>?_
  ·have g4:¬n.v.2.2.1=mm.v.2.2.1:=by simpa using g4
   have:=kk.2
   simp only[g1,g2] at this
   exact g4 this
  ·have g4:n.v.2.2.1=mm.v.2.2.1:=by simpa using g4
   refine⟨g3,?_⟩
   simp only[g1,g2];exact g4
 ·have g3:n.v.2.1≠mm.v.2.1:=by simpa using g3
  exact g3 kk.1
 ·have g3:n.v.2.1=mm.v.2.1:=by simpa using g3
  rw[w1]
  refine IfB.intro (fun g4=>noX (fun kk=>?_) (X f66)) fun g4=>K1 fun hb=>?_
  ·have g4:¬n.v.2.2.1=mm.v.2.2.1+1:=by simpa using g4
   have:=kk.2
   cases g5:mm.v.2.2.2.1<;>simp only[g1,g5] at this
   exact g4 this.1
  ·have g4:n.v.2.2.1=mm.v.2.2.1+1:=by simpa using g4
   refine⟨g3,?_⟩
   cases g5:mm.v.2.2.2.1
   ·simp only[g1,g5];exact⟨g4,hst⟩
   ·exact absurd ⟨g5,g1⟩ hb
def InP(x:CatD)(hs:List Nd)(i k:Nat)(d:Int):Prop:=i=k\/∃a b,hs[i]? =some a/\hs[k]? =some b/\a.v.1=b.v.1/\a.v.2.2.2.1=false/\b.v.2.2.2.1=false/\uN x a.v.2.1 d a.v.2.2.1.toNat=uN x a.v.2.1 d b.v.2.2.1.toNat
theorem HMay.step{x:CatD}{hs:List Nd}(h:HMay x hs){i:Nat}{n:Nd}(hn:hs[i]? =some n):0<=n.v.2.2.1/\n.v.2.2.1<(nSt x n.v.2.1.toNat:Int)/\n.v.2.2.1<4:=by
 have h1:=(h.ok i n hn).st0
 have h2:=MayT.step h.cat (i:=hs.length) (fun k' n' _ hn'=>h.ok k' n' hn') i n (List.getElem?_eq_some_iff.1 hn).1 hn
 have h3:=steps_le h.cat n.v.2.1.toNat
 exact⟨h1,h2,by omega⟩
theorem c94{w:World}{v:CatV}{x:CatD}{t:Sl}{hs:List Nd}(h:CatM w v x)(hH:Hst w t hs)(hM:HMay x hs){i k:Nat}(hi:i<hs.length)(hk:k<hs.length)(d:Int):
  Cw 94 #[cxV v,slV t,iv i,iv k,iv d] w fun r w'=>∃b,r=.bool b/\(b=true↔InP x hs i k d)/\Ext w w':=by
 have htn:=hH.n
 have hl:=hM.len
 have ha:hs[i]? =some hs[i]:=List.getElem?_eq_getElem hi
 have hb:hs[k]? =some hs[k]:=List.getElem?_eq_getElem hk
 generalize hs[i]=a at ha
 generalize hs[k]=b at hb
 have sa:=hM.step ha
 have sb:=hM.step hb
 refine F94_ok v t (i:Int) (k:Int) d w _ fun b1 w2 a2=>?_
 have e2:Ext w w2:=a2.ch _
 have xD:Ext w2 w2.drew:=extDrew w2
 have HD:=hH.ext (e2.trans xD)
 obtain⟨p1,o1,hp1,hc1⟩:=HD.at ha
 obtain⟨p2,o2,hp2,hc2⟩:=HD.at hb
 have no:∀ {V:World},¬InP x hs i k d->Ext w V->∃b,Value.bool false=.bool b/\(b=true↔InP x hs i k d)/\Ext w V:=fun h e=>⟨false,rfl,⟨fun h=>(by cases h),fun h'=>absurd h' h⟩,e⟩
 have body:∀(W:World)(ba bb:Nat)(Ta Tb:TypeId),Ext w2 W->W.heap[ba]? =some (.cells (nC a.v).toArray Ta (0,0))->W.heap[bb]? =some (.cells (nC b.v).toArray Tb (0,0))->
   IfB ((i:Int) == (k:Int)) (∃bo,Value.bool true=.bool bo/\(bo=true↔InP x hs i k d)/\Ext w W) (F94k1 W ba bb b1 d fun r w'=>∃b,r=.bool b/\(b=true↔InP x hs i k d)/\Ext w w'):=by
  intro W ba bb Ta Tb xW hba hbb
  refine IfB.intro (fun h1=>⟨true,rfl,⟨fun _=>.inl ?_,fun _=>rfl⟩,e2.trans xW⟩) fun h1=>?_
  ·have:(i:Int)=(k:Int):=by simpa using h1
   omega
  have h1:¬i=k:=by
   have:¬(i:Int)=(k:Int):=by simpa using h1
   omega
  have ed:=extDrew W
  have qa:=fun{V:World} (o:Nat) (e:Ext W.drew V)=>boxAt (cs:=nC a.v) hba o (ed.trans e)
  have qb:=fun{V:World} (o:Nat) (e:Ext W.drew V)=>boxAt (cs:=nC b.v) hbb o (ed.trans e)
  have r0:=Ch.refl (fun _=>False) W.drew
  have XW:Ext w W.drew:=e2.trans (xW.trans ed)
  have inv:InP x hs i k d->a.v.1=b.v.1/\a.v.2.2.2.1=false/\b.v.2.2.2.1=false/\uN x a.v.2.1 d a.v.2.2.1.toNat=uN x a.v.2.1 d b.v.2.2.1.toNat:=fun hh=>by
   rcases hh with hh|⟨a',b',ha',hb',hh⟩
   ·exact absurd hh h1
   ·rw[ha] at ha';rw[hb] at hb'
    cases ha';cases hb';exact hh
  refine⟨_,qa 0 r0,_,qb 0 r0,IfB.intro (fun h2=>⟨_,qa 3 r0,IfB.intro (fun h3=>⟨_,qb 3 r0,IfB.intro (fun h4=>?_) fun h4=>no (fun k=>?_) XW⟩) fun h3=>no (fun k=>?_) XW⟩) fun h2=>no (fun k=>?_) XW⟩
  ·have h2:a.v.1=b.v.1:=by simpa using h2
   have h3:a.v.2.2.2.1=false:=by simpa using h3
   have h4:b.v.2.2.2.1=false:=by simpa using h4
   refine⟨v,cxN h a2.new (xW.trans ed),_,qa 1 r0,_,qa 2 r0,v,cxN h a2.new (xW.trans ed),_,qa 1 r0,_,qb 2 r0,(c145 (h.ext XW) hM.cat a.v.2.1 d a.v.2.2.1 (by omega)).use ?_⟩
   rintro _ w30 ⟨rfl,e30⟩
   refine⟨_,rfl,qb 2 e30,qa 1 e30,cxN h a2.new ((xW.trans ed).trans e30),(c145 (h.ext (XW.trans e30)) hM.cat a.v.2.1 d b.v.2.2.1 (by omega)).use ?_⟩
   rintro _ w35 ⟨rfl,e35⟩
   refine⟨_,rfl,_,rfl,?_,(XW.trans e30).trans e35⟩
   rw[beq_iff_eq]
   exact⟨fun hh=>.inr ⟨a,b,ha,hb,h2,h3,h4,Int.ofNat.inj hh⟩,fun hh=>congrArg Int.ofNat (inv hh).2.2.2⟩
  ·have:=(inv k).2.2.1
   rw[this] at h4;cases h4
  ·have:=(inv k).2.1
   rw[this] at h3;cases h3
  ·have:=(inv k).1
   have h2:¬a.v.1=b.v.1:=by simpa using h2
   exact h2 this
 have HA:=fun{V:World} (e:Ext w2.drew V)=>(show CellsAt V p1 (o1+(i:Int).toNat*6) (nC a.v) from fun j y hy=>by
  rw[Int.toNat_natCast]
  obtain⟨p1',o1',hp1',hc1'⟩:=(HD.ext e).at ha
  rw[hp1] at hp1';cases hp1'
  exact hc1' j y hy)
 have HB:=fun{V:World} (e:Ext w2.drew V)=>(show CellsAt V p2 (o2+(k:Int).toNat*6) (nC b.v) from fun j y hy=>by
  rw[Int.toNat_natCast]
  obtain⟨p2',o2',hp2',hc2'⟩:=(HD.ext e).at hb
  rw[hp2] at hp2';cases hp2'
  exact hc2' j y hy)
 have r0:=Ch.refl (fun _=>False) w2.drew
 refine⟨p1,o1,hp1,⟨by omega,by show (i:Int)<(t.n:Int);omega⟩,a.v,HA r0,p2,o2,hp2,⟨by omega,by show (k:Int)<(t.n:Int);omega⟩,b.v,HB r0,?_,?_⟩
 ·intro b9 w10 a10
  have x10:Ext w2.drew w10:=a10.ch _
  refine⟨HB x10,HA x10,fun b11 w12 a12=>?_⟩
  have x12:Ext w2.drew w12:=x10.trans (a12.ch _)
  have y9:=a12.at a10.new
  have s10:=a10.here;have s12:=a12.here;have t10:=a10.size;have t12:=a12.size
  refine⟨HB x12,HA x12,rfl,store_all (vs:=nC a.v) y9 rfl (nC_one a.v) fun w13 u13=>?_⟩
  have x13:Ext w2.drew w13:=x12.chN u13.ch fun j e=>by omega
  refine⟨HB x13,rfl,store_all (vs:=nC b.v) (u13.at a12.new (by omega)) rfl (nC_one b.v) fun w14 u14=>?_⟩
  exact body w14 b9 b11 _ _ (xD.trans (x13.chN u14.ch fun j e=>by omega)) (u14.at u13.new (by omega)) u14.new
 ·intro b37 w38 a38
  have x10:Ext w2.drew w38:=a38.ch _
  refine⟨HB x10,HA x10,fun b39 w40 a40=>?_⟩
  have x12:Ext w2.drew w40:=x10.trans (a40.ch _)
  have y9:=a40.at a38.new
  have s10:=a38.here;have s12:=a40.here;have t10:=a38.size;have t12:=a40.size
  refine⟨HB x12,HA x12,rfl,store_all (vs:=nC a.v) a40.new rfl (nC_one a.v) fun w41 u41=>?_⟩
  have x13:Ext w2.drew w41:=x12.chN u41.ch fun j e=>by omega
  refine⟨HB x13,rfl,store_all (vs:=nC b.v) (u41.at y9 (by omega)) rfl (nC_one b.v) fun w42 u42=>?_⟩
  exact body w42 b39 b37 _ _ (xD.trans (x13.chN u42.ch fun j e=>by omega)) (u42.at u41.new (by omega)) u42.new
abbrev Dp(hs:List Nd):Nat->Nat->Prop:=TC (EdP hs)
theorem Dp_lt{hs:List Nd}{i k:Nat}(h:Dp hs i k):k<i:=by
 induction h with
 | one h=>exact h.1
 | more _ h ih=>exact Nat.lt_trans h.1 ih
structure RowOf(hs:List Nd)(i:Nat)(xs:List Int):Prop where
 srt:xs.Pairwise (· < ·)
 mem:∀k:Int,k∈xs↔∃k':Nat,k=(k':Int)/\Dp hs i k'
theorem sorted_nodup{xs:List Int}(h:xs.Pairwise (· < ·)):xs.Nodup:=h.imp fun h e=>by omega
theorem RowOf.len{hs:List Nd}{i:Nat}{xs:List Int}(h:RowOf hs i xs):xs.length<=i:=by
 have:=nodup_le (a:=xs) (b:=(List.range i).map fun k:Nat=>(k:Int)) (sorted_nodup h.srt) fun k hk=>by
  obtain⟨k',rfl,hd⟩:=(h.mem k).1 hk
  exact List.mem_map.2 ⟨k',List.mem_range.2 (Dp_lt hd),rfl⟩
 simpa using this
def FsP(hs:List Nd)(len j:Nat)(k:Int):Prop:=∃m k':Nat,k=(k':Int)/\j<=m/\EdP hs len m/\(k'=m\/Dp hs m k')
theorem FsP_top{hs:List Nd}{len:Nat}(k:Int):¬FsP hs len len k:=fun⟨m,_,_,h,h2,_⟩=>by have:=h2.1;omega
theorem FsP_zero{hs:List Nd}{len:Nat}(k:Int):FsP hs len 0 k↔∃k':Nat,k=(k':Int)/\Dp hs len k':=by
 constructor
 ·rintro⟨m,k',rfl,_,h,rfl|h'⟩
  ·exact⟨_,rfl,.one h⟩
  ·exact⟨_,rfl,(TC.one h).trans h'⟩
 ·rintro⟨k',rfl,h⟩
  obtain⟨c,hc,h⟩:=h.first
  exact⟨c,k',rfl,Nat.zero_le _,hc,h.imp Eq.symm id⟩
theorem FsP_mono{hs:List Nd}{len j:Nat}{k:Int}(h:FsP hs len (j+1) k):FsP hs len j k:=by
 obtain⟨m,k',h1,h2,h3⟩:=h
 exact⟨m,k',h1,by omega,h3⟩
theorem FsP_found{hs:List Nd}{len j:Nat}(h:FsP hs len (j+1) (j:Int))(k:Int):FsP hs len j k↔FsP hs len (j+1) k:=by
 refine⟨fun⟨m,k',h1,h2,h3,h4⟩=>?_,FsP_mono⟩
 by_cases hm:m=j
 ·subst hm
  obtain⟨m0,j',e,h5,h6,h7⟩:=h
  have e:j'=m:=by omega
  subst e
  rcases h7 with h7|h7
  ·omega
  ·refine⟨m0,k',h1,h5,h6,.inr ?_⟩
   rcases h4 with rfl|h4
   ·exact h7
   ·exact h7.trans h4
 ·exact⟨m,k',h1,by omega,h3,h4⟩
theorem FsP_not{hs:List Nd}{len j:Nat}(h:¬EdP hs len j)(k:Int):FsP hs len j k↔FsP hs len (j+1) k:=by
 refine⟨fun⟨m,k',h1,h2,h3,h4⟩=>⟨m,k',h1,?_,h3,h4⟩,FsP_mono⟩
 have:m≠j:=fun e=>h (e ▸ h3)
 omega
theorem FsP_add{hs:List Nd}{len j:Nat}(h:EdP hs len j)(k:Int):FsP hs len j k↔FsP hs len (j+1) k\/k=(j:Int)\/∃k':Nat,k=(k':Int)/\Dp hs j k':=by
 constructor
 ·rintro⟨m,k',h1,h2,h3,h4⟩
  by_cases hm:m=j
  ·subst hm
   rcases h4 with rfl|h4
   ·exact .inr (.inl h1)
   ·exact .inr (.inr ⟨k',h1,h4⟩)
  ·exact .inl ⟨m,k',h1,by omega,h3,h4⟩
 ·rintro(h'|h'|⟨k',h1,h2⟩)
  ·exact FsP_mono h'
  ·exact⟨j,j,h',Nat.le_refl _,h,.inl rfl⟩
  ·exact⟨j,k',h1,Nat.le_refl _,h,.inr h2⟩
def Fnd(W:World)(r:Nat)(P:Int->Prop):Prop:=∃f:List (Int×Bool),Mp encB W r f/\∀k,(getM f k=some true/\P k)\/(getM f k=none/\¬P k)
theorem Fnd.iff{W:World}{r:Nat}{P Q:Int->Prop}(h:Fnd W r P)(hq:∀k,Q k↔P k):Fnd W r Q:=by
 obtain⟨f,h1,h2⟩:=h
 exact⟨f,h1,fun k=>(h2 k).imp (fun h=>⟨h.1,(hq k).2 h.2⟩) fun h=>⟨h.1,fun h'=>h.2 ((hq k).1 h')⟩⟩
theorem Fnd.ch{F:Nat->Prop}{W W':World}{r:Nat}{P:Int->Prop}(h:Fnd W r P)(hc:Ch F W W')(hF:¬F r):Fnd W' r P:=by
 obtain⟨f,h1,h2⟩:=h
 exact⟨f,h1.ch hc hF,h2⟩
theorem Fnd.ext{W W':World}{r:Nat}{P:Int->Prop}(h:Fnd W r P)(hc:Ext W W'):Fnd W' r P:=h.ch hc id
theorem Fnd.stb{n:Nat}{W W':World}{r:Nat}{P:Int->Prop}(h:Fnd W r P)(hc:Stb n W W'):Fnd W' r P:=by
 obtain⟨f,h1,h2⟩:=h
 exact⟨f,h1.stb hc,h2⟩
theorem Fnd.put{W:World}{r b:Nat}{P:Int->Prop}(h:Fnd W r P)(k:Int)(hb:∃T,W.heap[b]? =some (.cells #[.map (some r)] T (0,0))):
  Cw 202 #[iv k,.pointer (some ⟨b,0,none⟩)] W fun v w'=>v=.tuple #[]/\Fnd w' r (fun k'=>P k'\/k'=k)/\Ch (fun i=>i=r) W w':=by
 obtain⟨f,h1,h2⟩:=h
 refine(c202 k hb h1).mono ?_
 rintro _ w' ⟨rfl,f',hf',hM,hC⟩
 refine⟨rfl,⟨f',hM,fun k'=>?_⟩,hC⟩
 rw[hf']
 by_cases hk:k=k'
 ·rw[if_pos hk];exact .inl ⟨rfl,.inr hk.symm⟩
 ·rw[if_neg hk]
  exact(h2 k').imp (fun h=>⟨h.1,.inl h.2⟩) fun h=>⟨h.1,fun h'=>h'.elim h.2 fun e=>hk e.symm⟩
theorem mpKeys{β:Type}{enc:β->Value}{w:World}{r:Nat}{f:List (Int×β)}(h:Mp enc w r f):∃es ck,w.heap[r]? =some (.map es ck)/\KeysE (some (r,es,ck)) (f.map (·.1)):=by
 obtain⟨es,ck,h1,h2,h3,h4,h5⟩:=h
 refine⟨es,ck,h1,?_,h3,h4,h5⟩
 have:=congrArg (List.map Prod.fst) h2
 rw[List.map_map,List.map_map] at this
 rw[List.map_map];exact this
theorem pw_le_lt{xs:List Int}(h:xs.Pairwise (· <=·))(hn:xs.Nodup):xs.Pairwise (· < ·):=(h.and hn).imp fun⟨h1,h2⟩=>by omega
theorem Fnd.keysL{W:World}{r:Nat}{P:Int->Prop}{l:List Int}(h:Fnd W r P)(hP:∀k,P k->k∈l)(hn:l.length<=1000000){K:RV}
  (hK:∀(t:Sl)(xs:List Int)(w':World),xs.Pairwise (· < ·)->(∀k,k∈xs↔P k)->OwS w' t 1 (xs.map iv)->Ext W w'->(∀j∈blk t,W.heap.size<=j)->K (slV t) w'):
  Cx 124 #[.map (some r)] W fun v w1=>∃x:Nat×Array Value,v=.func (.func x.1) #[] x.2/\Cx 123 #[.func (.func x.1) #[] x.2] w1 K:=by
 obtain⟨f,h1,h2⟩:=h
 obtain⟨es,ck,hr,hks⟩:=mpKeys h1
 have hnd:(f.map (·.1)).Nodup:=hks.2.1
 have hkm:∀k,k∈f.map (·.1)↔P k:=fun k=>by
  rw[getM_key]
  rcases h2 k with ⟨e,h⟩|⟨e,h⟩
  ·simp[e,h]
  ·simp[e,h]
 have hlen:(f.map (·.1)).length<=1000000:=by
  have:=nodup_le (a:=f.map (·.1)) (b:=l) hnd fun k hk=>hP k ((hkm k).1 hk)
  simp at this
  simp;omega
 refine CW.use (F124_ok (some r) W (fun v w'=>∃b1 T,v=.func (.func 180) #[] #[.pointer (some ⟨b1,0,none⟩)]/\IsAlloc W (.cells #[.map (some r)] T (0,0)) b1 w') fun b1 w' a=>⟨b1,_,rfl,a⟩) ?_
 rintro _ w5 ⟨b1,T,rfl,a5⟩
 have e5:Ext W w5:=a5.ch _
 have hKI:KeysI b1 (some (r,es,ck)) w5:=⟨⟨T,a5.new⟩,e5.at hr⟩
 refine⟨(180,_),rfl,(sorted_of (it180 hKI hks hlen)).use ?_⟩
 rintro _ w8 ⟨t,xs,ys,rfl,hp,hp2,_,hs,ho,e8,hb⟩
 have hpp:=hp2.trans hp
 exact hK t xs w8 (pw_le_lt hs (hpp.nodup_iff.2 hnd)) (fun k=>hpp.mem_iff.trans (hkm k)) ho (e5.trans e8) fun j hj=>by have:=hb j hj;have:=e5.size;omega
theorem Fnd.keys{W:World}{r n:Nat}{P:Int->Prop}(h:Fnd W r P)(hP:∀k,P k->0<=k/\k<(n:Int))(hn:n<=1000000){K:RV}
  (hK:∀(t:Sl)(xs:List Int)(w':World),xs.Pairwise (· < ·)->(∀k,k∈xs↔P k)->OwS w' t 1 (xs.map iv)->Ext W w'->(∀j∈blk t,W.heap.size<=j)->K (slV t) w'):
  Cx 124 #[.map (some r)] W fun v w1=>∃x:Nat×Array Value,v=.func (.func x.1) #[] x.2/\Cx 123 #[.func (.func x.1) #[] x.2] w1 K:=
 h.keysL (l:=(List.range n).map fun k:Nat=>(k:Int)) (fun k hk=>by
  have:=hP k hk
  exact List.mem_map.2 ⟨k.toNat,List.mem_range.2 (by omega),by omega⟩) (by simp;exact hn) hK
abbrev RwL:=Sl×List Int
abbrev hR(x:RwL):Value:=slV x.1
structure Rws(w:World)(t:Sl)(rows:List RwL):Prop where
 rd:Rd w t 1 (rows.map hR)
 row:∀r∈rows,Rd w r.1 1 (r.2.map iv)
theorem Rws.ext{w w':World}{t:Sl}{rows:List RwL}(h:Rws w t rows)(e:Ext w w'):Rws w' t rows:=⟨h.rd.ext e,fun r hr=>(h.row r hr).ext e⟩
theorem Rws.n{w:World}{t:Sl}{rows:List RwL}(h:Rws w t rows):t.n=rows.length:=by rw[h.rd.len1,List.length_map]
theorem Rws.at{w:World}{t:Sl}{rows:List RwL}(h:Rws w t rows){i:Nat}{x:RwL}(hx:rows[i]? =some x):(∃b o,t.p=some ⟨b,o,none⟩/\w.cell? ⟨b,o+i,none⟩=some (slV x.1))/\Rd w x.1 1 (x.2.map iv)/\x.1.n=x.2.length:=by
 have hr:=h.row x (List.mem_of_getElem? hx)
 refine⟨h.rd.elem1 (i:=i) (v:=hR x) (by rw[List.getElem?_map,hx];rfl),hr,by rw[hr.len1,List.length_map]⟩
theorem c152{w:World}{tl t:Sl}{rows:List RwL}{hs:List Nd}{n:Nd}(hL:Rws w tl rows)(hH:Hst w t hs)(hn:NdOk w n)(hrl:rows.length=hs.length)(hrow:∀i x,rows[i]? =some x->RowOf (hs++[n]) i x.2):
  Cw 152 #[slV tl,slV t,ndV n.v] w fun v w'=>∃t' xs,v=slV t'/\RowOf (hs++[n]) hs.length xs/\OwS w' t' 1 (xs.map iv)/\Ext w w'/\∀j∈blk t',w.heap.size<=j:=by
 have hlen:=hH.len
 have hsn:=hH.n
 have hln:=hL.n
 have hEd:∀i x,hs[i]? =some x->(EdP (hs++[n]) hs.length i↔dirP n x):=fun i x hx=>by
  have hi:=(List.getElem?_eq_some_iff.1 hx).1
  unfold EdP
  rw[List.getElem?_append_right (Nat.le_refl _),Nat.sub_self,List.getElem?_append_left hi,hx]
  constructor
  ·rintro⟨_,a,b,ha,hb,hd⟩
   cases ha;cases hb;exact hd
  ·exact fun hd=>⟨hi,n,x,rfl,rfl,hd⟩
 refine F152_ok tl t n.v w _ fun b1 w2 a2 b3 w4 a4 b5 w6 a6 b7 w8 a8=>⟨rfl,store_one a8.new (by simp) rfl fun w9 u9 b10 w11 a11=>⟨rfl,store_one a11.new (by simp) rfl fun w12 u12=>?_⟩⟩
 have z2:=a2.size;have z4:=a4.size;have z6:=a6.size;have z8:=a8.size;have z9:=u9.size;have z11:=a11.size;have z12:=u12.size
 have p2:=a2.here;have p4:=a4.here;have p6:=a6.here;have p8:=a8.here;have p11:=a11.here
 have x8:Ext w w8:=(((a2.ch _).trans (a4.ch _)).trans (a6.ch _)).trans (a8.ch _)
 have x9:Ext w w9:=x8.chN u9.ch fun i e=>by omega
 have x12:Ext w w12:=(x9.trans (a11.ch _)).chN u12.ch fun i e=>by omega
 refine(c153 t w12).use ?_
 rintro _ w14 ⟨pb,T,rfl,a14⟩
 have p14:=a14.here;have z14:=a14.size
 have x14:Ext w w14:=x12.trans (a14.ch _)
 have c14:Ext w12 w14:=a14.ch _
 have k1:w14.heap[b1]? =some (.cells #[slV tl] 102 (0,0)):=c14.at (u12.at (a11.at (u9.at (a8.at (a6.at (a4.at a2.new))) (by omega))) (by omega))
 have k3:w14.heap[b3]? =some (.cells (nC n.v).toArray 53 (0,0)):=c14.at (u12.at (a11.at (u9.at (a8.at (a6.at a4.new)) (by omega))) (by omega))
 have k7:w14.heap[b7]? =some (.cells #[.map (some b5)] 149 (0,0)):=c14.at (u12.at (a11.at u9.new) (by omega))
 have k10:w14.heap[b10]? =some (.cells #[.func (.func 202) #[] #[.pointer (some ⟨b7,0,none⟩)]] 223 (0,0)):=c14.at u12.new
 have hF0:Fnd w14 b5 (FsP (hs++[n]) hs.length hs.length):=⟨[],((((Mp.new a6).ext (a8.ch _)).ch u9.ch (by omega)).ext (a11.ch _)).ch (u12.ch.then c14 fun _ _ h=>h.elim) (by omega),fun k=>.inr ⟨rfl,FsP_top k⟩⟩
 refine⟨(203,#[.pointer (some ⟨pb,0,none⟩)]),rfl,fun g=>?_⟩
 obtain⟨vs,hvs⟩:∃vs,vs=hs.map (·.v):=⟨_,rfl⟩
 have hvl:vs.length=hs.length:=by rw[hvs,List.length_map]
 have hvf:hs.flatMap nL=vs.flatMap nC:=by rw[hvs,List.flatMap_map]
 let G:List (Int×NdV)->World->Prop:=fun pre W=>pre.length<=hs.length/\InvB pb t vs W/\Fnd W b5 (FsP (hs++[n]) hs.length (hs.length-pre.length))/\
  (W.heap[b1]? =some (.cells #[slV tl] 102 (0,0))/\W.heap[b3]? =some (.cells (nC n.v).toArray 53 (0,0))/\W.heap[b7]? =some (.cells #[.map (some b5)] 149 (0,0))/\W.heap[b10]? =some (.cells #[.func (.func 202) #[] #[.pointer (some ⟨b7,0,none⟩)]] 223 (0,0)))/\Ext w W
 refine range_none tbOk mixed (gf:=203) (lb:=#[.pointer (some ⟨pb,0,none⟩)]) rfl (itB pb t vs (by omega)) R152_0ok1 R152_0ok2 R152_0okp (fun _=>rfl) G (fun _ _ _=>False) ?_ (fun _ _ _ _ h=>h.elim) ?_ (fun h=>by cases h) ?_ ?_ ?_ (fun _ _ _ h=>h.elim)
 ·rintro pre A B ⟨h1,h2,h3,⟨q1,q3,q7,q10⟩,h4⟩ hS
  exact⟨h1,h2.stb hS,h3.stb hS,⟨hS.keep _ _ q1 rfl,hS.keep _ _ q3 rfl,hS.keep _ _ q7 rfl,hS.keep _ _ q10 rfl⟩,h4.stbE hS (by omega)⟩
 ·rintro pre W ⟨_,h,_⟩;exact h
 ·exact⟨Nat.zero_le _,⟨⟨T,a14.new⟩,by rw[<-hvf];exact hH.rd.ext x14⟩,hF0,⟨k1,k3,k7,k10⟩,x14⟩
 ·rintro pre ⟨xi,xv⟩ W ⟨hpl,hIB,hFn,⟨q1,q3,q7,q10⟩,hX⟩ ⟨i,hi,hxi,hxv⟩ hW
  dsimp only at hxi hxv
  subst hxi
  have hi':i<hs.length:=by omega
  have hnd:hs[i]? =some hs[i]:=List.getElem?_eq_getElem hi'
  generalize hs[i]=nd at hnd
  have hxe:xv=nd.v:=by
   rw[hvs,List.getElem?_map,hnd] at hxv
   exact(Option.some.inj hxv).symm
  subst hxe
  have hj1:hs.length-pre.length=i+1:=by omega
  have hj0:hs.length-(pre++[((i:Int),nd.v)]).length=i:=by simp;omega
  rw[hj1] at hFn
  refine F152b0_ok b1 b3 ⟨none,0,0⟩ b7 b10 (203,#[.pointer (some ⟨pb,0,none⟩)]) (i:Int) nd.v _ _ _ _ _ W ?_
  refine boxNd rfl fun bb w3 hbb hs3 h3 e3 hS3=>⟨rfl,⟨e3.old _ (by omega) id,e3.old _ (by omega) id⟩,fun w12' hS hIt hL'=>?_⟩
  have zS:=hS.size
  have e12:Ext w w12':=(hX.trans e3).stbE hS (by omega)
  have r1:=hS.keep _ _ (e3.at q1) rfl
  have r3:=hS.keep _ _ (e3.at q3) rfl
  have r7:=hS.keep _ _ (e3.at q7) rfl
  have r10:=hS.keep _ _ (e3.at q10) rfl
  have rb:=hS.keep _ _ h3 rfl
  have hFn12:=(hFn.ext e3).stb hS
  have hIB12:=(hIB.stb (hS3 w14.heap.size (by omega))).stb hS
  refine⟨fun r W30=>Ext w12' W30/\(r=true->∀k,FsP (hs++[n]) hs.length i k↔FsP (hs++[n]) hs.length (i+1) k)/\(r=false->EdP (hs++[n]) hs.length i),?_,?_⟩
  ·refine⟨some b5,by rw[cell_of r7];rfl,?_⟩
   obtain⟨f,hM,hf⟩:=hFn12
   refine hM.get ?_
   rcases hf (i:Int) with ⟨hg,hP⟩|⟨hg,hP⟩
   ·rw[hg]
    exact⟨true,rfl,IfB.yes rfl ⟨rfl,Ch.refl _ _,fun _=>FsP_found hP,fun h=>by cases h⟩⟩
   ·rw[hg]
    refine⟨false,rfl,IfB.no rfl ⟨n.v,cellsAt_of r3 fun q v hv=>by simpa using hv,nd.v,cellsAt_of rb fun q v hv=>by simpa using hv,(c160 (hn.ext e12) ((hH.get hnd).ext e12)).use ?_⟩⟩
    rintro _ w27 ⟨r,rfl,hr,e27⟩
    refine⟨r,rfl,rfl,e27,fun h=>FsP_not fun hE=>?_,fun h=>(hEd i nd hnd).2 (hr.1 (by simpa using h))⟩
    rw[hr.2 ((hEd i nd hnd).1 hE)] at h
    cases h
  ·rintro r w30 g ⟨e30,hrt,hrf⟩
   have X30:=e12.trans e30
   have z30:=e30.size
   have s1:=e30.at r1
   have s3:=e30.at r3
   have s7:=e30.at r7
   have s10:=e30.at r10
   unfold F152b0j1
   have hItW:Its W w12':=(Its.ext e3).trans hIt
   refine IfB.intro (fun h=>?_) fun h=>?_
   ·refine⟨⟨e30.old _ (by omega) id,e30.old _ (by omega) id⟩,⟨by simp;omega,⟨⟨_,e30.at hIB12.box.choose_spec⟩,hIB12.rd.ext e30⟩,?_,⟨s1,s3,s7,s10⟩,X30⟩,hItW.trans (Its.ext e30)⟩
    rw[hj0]
    exact(hFn12.ext e30).iff (hrt h)
   ·have hE:=hrf h
    refine⟨(202,#[.pointer (some ⟨b7,0,none⟩)]),by rw[cell_of s10];rfl,((hFn12.ext e30).put (i:Int) ⟨_,s7⟩).use ?_⟩
    rintro _ w43 ⟨rfl,hF43,hC43⟩
    have X43:Ext w w43:=X30.chN hC43 fun j e=>by omega
    have hrw:rows[i]? =some rows[i]:=List.getElem?_eq_getElem (by omega)
    generalize rows[i]=rw' at hrw
    obtain⟨⟨ba,oa,hpa,hca⟩,hrr,hrn⟩:=(hL.ext X43).at hrw
    have hRow:=hrow i rw' hrw
    have hRl:=hRow.len
    have t1:=hC43.at s1 (by omega)
    have t3:=hC43.at s3 (by omega)
    have t7:=hC43.at s7 (by omega)
    have t10:=hC43.at s10 (by omega)
    refine⟨(),rfl,tl,by rw[cell_of t1];rfl,ba,oa,hpa,⟨by omega,by omega⟩,rw'.1,by rw[Int.toNat_natCast];exact hca,fun m x W'=>∃q:Nat,q<=rw'.2.length/\m+q=rw'.2.length/\x=(q:Int)/\Ch (fun j=>j=b5) w43 W'/\Fnd W' b5 (fun k=>(FsP (hs++[n]) hs.length (i+1) k\/k=(i:Int))\/k∈rw'.2.take q),
     ⟨rw'.2.length,0,Nat.zero_le _,rfl,rfl,Ch.refl _ _,hF43.iff fun k=>by simp⟩,?_⟩
    rintro m _ w53 g ⟨q,hq,hmq,rfl,hC53,hF53⟩
    have X53:Ext w w53:=X43.chN hC53 fun j e=>by omega
    have u1:=hC53.at t1 (by omega)
    have u3:=hC53.at t3 (by omega)
    have u7:=hC53.at t7 (by omega)
    have u10:=hC53.at t10 (by omega)
    unfold F152b0j2
    refine IfB.dec (fun hlt=>?_) fun hge=>?_
    ·have hq':q<rw'.2.length:=by omega
     have hy:rw'.2[q]? =some rw'.2[q]:=List.getElem?_eq_getElem hq'
     generalize rw'.2[q]=y at hy
     obtain⟨bc,oc,hpc,hcc⟩:=((hL.ext X53).at hrw).2.1.elem1 (i:=q) (v:=iv y) (by rw[List.getElem?_map,hy];rfl)
     refine⟨bc,oc,hpc,⟨by omega,hlt⟩,y,by rw[Int.toNat_natCast];exact hcc,(202,#[.pointer (some ⟨b7,0,none⟩)]),by rw[cell_of u10];rfl,(hF53.put y ⟨_,u7⟩).use ?_⟩
     rintro _ w61 ⟨rfl,hF61,hC61⟩
     refine⟨(),rfl,rfl,m-1,by omega,q+1,hq',by omega,by rw[wrap_of (by omega) (by omega)];rfl,hC53.trans hC61,hF61.iff fun k=>?_⟩
     rw[take_succ_get hy,List.mem_append,List.mem_singleton]
     simp only[or_assoc]
    ·have hq':q=rw'.2.length:=by omega
     subst hq'
     rw[List.take_length] at hF53
     have hA:Ch (fun j=>j=b5) w12' w53:=(((e30.mono fun _ _ h=>h.elim).trans hC43).trans hC53)
     have hb5n:∀j m s q t,j=b5->w12'.heap[j]? ≠some (.mapIter m s q t):=fun j m s q t e=>by
      subst e
      obtain⟨f,⟨es,ck,hh,_⟩,_⟩:=hFn12
      rw[hh];simp
     refine⟨⟨hA.old _ (by omega) (by omega),hA.old _ (by omega) (by omega)⟩,⟨by simp;omega,⟨⟨_,hA.at hIB12.box.choose_spec (by omega)⟩,hIB12.rd.ch0 hA ?_⟩,?_,⟨u1,u3,u7,u10⟩,X53⟩,hItW.trans (Its.ch hA fun j e m s q t=>hb5n j m s q t e)⟩
     ·intro h0 j hj e
      have:=rd_lt hH.rd (by omega) h0 j hj
      omega
     ·rw[hj0]
      refine hF53.iff fun k=>?_
      rw[FsP_add hE k,or_assoc,<-hRow.mem]
 ·rintro xs W hxs ⟨hpl,hIB,hFn,⟨q1,q3,q7,q10⟩,hX⟩ hD
  rw[hxs,hvl,Nat.sub_self] at hFn
  refine⟨some b5,by rw[cell_of q7];rfl,hFn.keys (n:=hs.length) (fun k hk=>?_) hlen fun t' ys w' h1 h2 h3 h4 h5=>⟨t',rfl,marks_one (h4.at hD) fun w'' hu=>?_⟩⟩
  ·obtain⟨m,k',rfl,_,hE,h⟩:=hk
   have:=hE.1
   rcases h with rfl|h
   ·omega
   ·have:=Dp_lt h;omega
  ·refine⟨t',ys,rfl,⟨h1,fun k=>(h2 k).trans (FsP_zero k)⟩,h3.ch hu.ch fun j hj e=>?_,(hX.trans h4).chN hu.ch fun j e=>by omega,fun j hj=>?_⟩
   ·have:=h5 j hj;have:=heap_lt hD;omega
   ·have:=h5 j hj;have:=hX.size;omega
def F111(t0:Sl)(w:World)(R:RV):Prop:=IfB t0.1.isNone (R (Value.slice none 0 0) w) (0*1<=16777216/\AllocP w (Obj.cells #[] 3) fun b1 w2=>∃(l3:List Value),ReadC w2 t0.1 (t0.2*1) l3/\AppendP tt3 3 w2 (some ⟨b1,0,none⟩) 0 0 t0.2 l3 fun s4 w5=>R (Qy s4) w5)
theorem F111_ok(t0:Sl)(w:World)(R:RV)(h:F111 t0 w R):Cw 111 #[Qy t0] w R:=
 ckF Tryz.func111 .nil h (by kernel_rfl) (by kernel_rfl)
theorem c111{w:World}{t:Sl}{xs:List Int}(h:Rd w t 1 (xs.map iv))(hl:xs.length<=1000000):Cw 111 #[slV t] w fun v w'=>∃t',v=slV t'/\OwS w' t' 1 (xs.map iv)/\Ext w w'/\∀i∈blk t',w.heap.size<=i:=by
 have hn:=rdI h
 refine F111_ok t w _ ?_
 have e:∀R,F111 t w R=CloneF tt3 3 1 t w R:=fun _=>rfl
 rw[e]
 refine CloneF_of h rfl rfl (fun v hv=>by obtain⟨x,_,rfl⟩:=List.mem_map.1 hv;rfl) ⟨by omega,?_⟩ (fun s' w' h1 h2 h3 h4=>⟨s',rfl,h1,h3,h4⟩) fun hp=>?_
 ·show 2*t.n*8<=_
  omega
 ·have h2:=h.2
  rw[hp] at h2
  have:xs.map iv=[]:=h2
  rw[hn,List.map_eq_nil_iff.1 this];rfl
theorem EdP_take{hs:List Nd}{m i k:Nat}(hi:i<m):EdP (hs.take m) i k↔EdP hs i k:=by
 unfold EdP
 constructor
 ·rintro⟨h,a,b,ha,hb,hd⟩
  rw[List.getElem?_take,if_pos hi] at ha
  rw[List.getElem?_take,if_pos (by omega)] at hb
  exact⟨h,a,b,ha,hb,hd⟩
 ·rintro⟨h,a,b,ha,hb,hd⟩
  exact⟨h,a,b,by rw[List.getElem?_take,if_pos hi];exact ha,by rw[List.getElem?_take,if_pos (by omega)];exact hb,hd⟩
theorem Dp_take{hs:List Nd}{m i k:Nat}(hi:i<m):Dp (hs.take m) i k↔Dp hs i k:=by
 constructor
 ·intro h
  induction h with
  | one h=>exact .one ((EdP_take hi).1 h)
  | more h1 h2 ih=>exact .more ih ((EdP_take (by have:=Dp_lt h1;omega)).1 h2)
 ·intro h
  induction h with
  | one h=>exact .one ((EdP_take hi).2 h)
  | more h1 h2 ih=>exact .more ih ((EdP_take (by have:=Dp_lt h1;omega)).2 h2)
theorem RowOf_take{hs:List Nd}{m i:Nat}{xs:List Int}(hi:i<m):RowOf (hs.take m) i xs↔RowOf hs i xs:=
 ⟨fun h=>⟨h.srt,fun k=>(h.mem k).trans (exists_congr fun k'=>and_congr_right fun _=>Dp_take hi)⟩,
  fun h=>⟨h.srt,fun k=>(h.mem k).trans (exists_congr fun k'=>and_congr_right fun _=>(Dp_take hi).symm)⟩⟩
structure OwR(w:World)(n:Nat)(t:Sl)(rows:List RwL):Prop where
 own:OwS w t 1 (rows.map hR)
 row:∀r∈rows,OwS w r.1 1 (r.2.map iv)
 apart:∀r∈rows,∀j∈blk r.1,j∉blk t
 new:∀j∈blk t,n<=j
 rnew:∀r∈rows,∀j∈blk r.1,n<=j
theorem OwR.ext{w w':World}{n:Nat}{t:Sl}{rows:List RwL}(h:OwR w n t rows)(e:Ext w w'):OwR w' n t rows:=⟨h.own.ext e,fun r hr=>(h.row r hr).ext e,h.apart,h.new,h.rnew⟩
theorem OwR.rws{w:World}{n:Nat}{t:Sl}{rows:List RwL}(h:OwR w n t rows):Rws w t rows:=⟨h.own.rd,fun r hr=>(h.row r hr).rd⟩
theorem OwR.n{w:World}{m:Nat}{t:Sl}{rows:List RwL}(h:OwR w m t rows):t.n=rows.length:=h.rws.n
theorem OwR.nil(w:World)(n:Nat):OwR w n ⟨none,0,0⟩ []:=⟨.nil _ _,by simp,by simp,by simp[blk],by simp⟩
theorem OwR.add{w:World}{n:Nat}{t s:Sl}{rows:List RwL}{xs:List Int}{T:TypeId}{K:Sl->World->Prop}(h:OwR w n t rows)(hs:OwS w s 1 (xs.map iv))(hnew:∀j∈blk s,n<=j)(hap:∀j∈blk s,j∉blk t)(hn:n<=w.heap.size)(hl:rows.length<=999999)
  (hK:∀s' w',OwR w' n s' (rows++[(s,xs)])->Ch (fun i=>i∈blk t) w w'->K s' w'):
  AllocP w (.cells #[slV s] T) fun b w1=>∃l,ReadC w1 (some ⟨b,0,none⟩) (1*1) l/\AppendP tt30 30 w1 t.p t.n t.c 1 l K:=by
 intro b w1 a
 have e1:Ext w w1:=a.ch _
 have htn:=h.n
 refine(h.own.ext e1).lit (new:=[slV s]) (T':=T) a.new rfl (by intro v hv;rw[List.mem_singleton.1 hv];rfl) rfl rfl (by omega) (by decide) fun s' w' ho hn' hC hb=>hK s' w' ?_ ((e1.mono fun _ _ h=>h.elim).then hC fun _ _ h=>h)
 have hz:=a.size
 have up:∀j∈blk s',j∈blk t\/w.heap.size<=j:=fun j hj=>(hb j hj).imp id fun h=>by omega
 refine⟨by rw[List.map_append];exact ho,fun r hr=>?_,fun r hr j hj hj'=>?_,fun j hj=>?_,fun r hr j hj=>?_⟩
 ·rcases List.mem_append.1 hr with hr|hr
  ·exact((h.row r hr).ext e1).ch hC fun j hj=>h.apart r hr j hj
  ·rw[List.mem_singleton.1 hr];exact(hs.ext e1).ch hC fun j hj=>hap j hj
 ·rcases List.mem_append.1 hr with hr|hr
  ·rcases up j hj' with h'|h'
   ·exact h.apart r hr j hj h'
   ·have:=(h.row r hr).lt j hj;omega
  ·rw[List.mem_singleton.1 hr] at hj
   rcases up j hj' with h'|h'
   ·exact hap j hj h'
   ·have:=hs.lt j hj;omega
 ·rcases up j hj with h'|h'
  ·exact h.new j h'
  ·omega
 ·rcases List.mem_append.1 hr with hr|hr
  ·exact h.rnew r hr j hj
  ·rw[List.mem_singleton.1 hr] at hj;exact hnew j hj
theorem c85{w:World}{t:Sl}{hs:List Nd}(hH:Hst w t hs)(hl:hs.length<=1000):
  Cw 85 #[slV t] w fun v w'=>∃t' rows,v=slV t'/\rows.length=hs.length/\(∀i x,rows[i]? =some x->RowOf hs i x.2)/\OwR w' w.heap.size t' rows/\Ext w w':=by
 have hn:=hH.n
 refine F85_ok t w _ ⟨fun m x W=>∃(i:Nat)(so:Sl)(rows:List RwL),i<=hs.length/\m+i=hs.length/\x=(so,(i:Int))/\rows.length=i/\(∀i x,rows[i]? =some x->RowOf hs i x.2)/\OwR W w.heap.size so rows/\Ext w W,
  ⟨hs.length,0,⟨none,0,0⟩,[],Nat.zero_le _,rfl,rfl,rfl,by simp,.nil _ _,Ch.refl _ _⟩,?_⟩
 rintro m _ W g ⟨i,so,rows,hi,hmi,rfl,hrl,hrow,hO,hE⟩
 unfold F85j1
 refine IfB.dec (fun hlt=>?_) fun hge=>?_
 ·have hi':i<hs.length:=by dsimp only at hlt;omega
  have hx:hs[i]? =some hs[i]:=List.getElem?_eq_getElem hi'
  have htk:=take_succ_get hx
  generalize hs[i]=nd at hx htk
  have hW:=hH.ext hE
  obtain⟨a,o,hp,hc⟩:=hW.at hx
  refine⟨a,o,hp,(⟨by omega,by omega⟩:(0:Int)<=(i:Int)/\(i:Int)<(t.n:Int)),nd.v,by rw[Int.toNat_natCast];exact hc,boxNd rfl fun b11 w13 hb hs13 h13 e13 _=>?_⟩
  have ed:=extDrew w13
  have e1:Ext W w13.drew:=e13.trans ed
  have E1:Ext w w13.drew:=hE.trans e1
  refine⟨(⟨by omega,by have:=hH.cap;omega⟩:(0:Int)<=(i:Int)/\(i:Int)<=(t.c:Int)),nd.v,cellsAt_of (ed.at h13) fun q v hv=>by simpa using hv,?_⟩
  have hcut:=(hW.ext e1).cut (k:=i) (by omega)
  dsimp only
  rw[Int.toNat_natCast,slAddr_zero]
  refine(c152 (tl:=so) (t:=⟨t.p,i,t.c⟩) (rows:=rows) (n:=nd) (hO.rws.ext e1) hcut ((hW.get hx).ext e1) (by rw[List.length_take];omega) fun j x hjx=>?_).use ?_
  ·rw[<-htk]
   have:=(List.getElem?_eq_some_iff.1 hjx).1
   exact(RowOf_take (by omega)).2 (hrow j x hjx)
  rintro _ w16 ⟨s17,xs,rfl,hxs,ho,e16,hb17⟩
  rw[<-htk,List.length_take,Nat.min_eq_left hi] at hxs
  have hxs:=(RowOf_take (by omega)).1 hxs
  have e2:=e1.trans e16
  have hO16:=hO.ext e2
  have z1:=E1.size
  have z2:=e16.size
  have z3:=e1.size
  refine⟨s17,rfl,by decide,hO16.add ho (fun j hj=>by have:=hb17 j hj;omega) (fun j hj h=>by have:=hb17 j hj;have:=hO.own.lt j h;omega) (by omega) (by omega) fun s' w' hO' hC'=>⟨rfl,m-1,by omega,i+1,s',rows++[(s17,xs)],hi',by omega,by rw[wrap_of (by omega) (by omega)];rfl,by simp[hrl],fun j x hjx=>?_,hO',(E1.trans e16).chN hC' fun j hj=>hO.new j hj⟩⟩
  by_cases hj:j<i
  ·rw[List.getElem?_append_left (by omega)] at hjx
   exact hrow j x hjx
  ·have:=(List.getElem?_eq_some_iff.1 hjx).1
   simp at this
   have hji:j=i:=by omega
   subst hji
   rw[List.getElem?_append_right (by omega),hrl,Nat.sub_self] at hjx
   cases hjx
   exact hxs
 ·have hi':i=hs.length:=by dsimp only at hge;omega
  subst hi'
  exact⟨so,rows,rfl,hrl,hrow,hO,hE⟩
theorem addRow{w:World}{m:Nat}{tl t so:Sl}{rows out:List RwL}{hs:List Nd}{n:Nd}(hL:Rws w tl rows)(hH:Hst w t hs)(hn:NdOk w n)(hrl:rows.length=hs.length)(hrow:∀i x,rows[i]? =some x->RowOf (hs++[n]) i x.2)
  (hO:OwR w m so out)(hol:out.length=hs.length)(hout:∀i x,out[i]? =some x->RowOf (hs++[n]) i x.2)(hm:m<=w.heap.size)(hl:hs.length<=1000){T:TypeId}{K:Sl->World->Prop}
  (hK:∀s' rows' w',rows'.length=hs.length+1->(∀i x,rows'[i]? =some x->RowOf (hs++[n]) i x.2)->OwR w' m s' rows'->Ch (fun i=>i∈blk so) w w'->K s' w'):
  Cx 152 #[slV tl,slV t,ndV n.v] w fun v w1=>∃s:Sl,v=slV s/\1*1<=16777216/\AllocP w1 (.cells #[slV s] T) fun b w2=>∃l,ReadC w2 (some ⟨b,0,none⟩) (1*1) l/\AppendP tt30 30 w2 so.p so.n so.c 1 l K:=by
 refine(c152 hL hH hn hrl hrow).use ?_
 rintro _ w1 ⟨s,xs,rfl,hxs,ho,e1,hb⟩
 have z1:=e1.size
 refine⟨s,rfl,by decide,(hO.ext e1).add ho (fun j hj=>by have:=hb j hj;omega) (fun j hj h=>by have:=hb j hj;have:=hO.own.lt j h;omega) (by omega) (by omega) fun s' w' hO' hC'=>hK s' _ w' (by simp[hol]) (fun i x hix=>?_) hO' ((e1.mono fun _ _ h=>h.elim).then hC' fun _ _ h=>h)⟩
 by_cases hi:i<out.length
 ·rw[List.getElem?_append_left hi] at hix
  exact hout i x hix
 ·have:=(List.getElem?_eq_some_iff.1 hix).1
  simp at this
  have hie:i=out.length:=by omega
  subst hie
  rw[List.getElem?_append_right (Nat.le_refl _),Nat.sub_self] at hix
  cases hix
  rw[hol];exact hxs
theorem c118{w:World}{tl t:Sl}{rows:List RwL}{hs:List Nd}{n:Nd}(hL:Rws w tl rows)(hH:Hst w t hs)(hn:NdOk w n)(hrl:rows.length=hs.length)(hrow:∀i x,rows[i]? =some x->RowOf hs i x.2)(hl:hs.length<=1000):
  Cw 118 #[slV tl,slV t,ndV n.v] w fun v w'=>∃t' rows',v=slV t'/\rows'.length=hs.length+1/\(∀i x,rows'[i]? =some x->RowOf (hs++[n]) i x.2)/\OwR w' w.heap.size t' rows'/\Ext w w':=by
 have htn:=hL.n
 have hhn:=hH.n
 have hrow':∀i x,rows[i]? =some x->RowOf (hs++[n]) i x.2:=fun i x hx=>by
  have hi:=(List.getElem?_eq_some_iff.1 hx).1
  have:=hrow i x hx
  rw[<-RowOf_take (hs:=hs++[n]) (m:=hs.length) (by omega),List.take_append_of_le_length (Nat.le_refl _),List.take_length]
  exact this
 refine F118_ok tl t n.v w _ fun b1 w2 a2=>IfB.no (by simp;omega) ?_
 have e2:Ext w w2:=a2.ch _
 have p2:=a2.here;have z2:=a2.size
 refine⟨fun m x W=>∃(i:Nat)(so:Sl)(out:List RwL),i<=hs.length/\m+i=hs.length/\x=(so,(i:Int))/\out.length=i/\(∀j x,out[j]? =some x->RowOf (hs++[n]) j x.2)/\OwR W w2.heap.size so out/\Ext w2 W,
  ⟨hs.length,0,⟨none,0,0⟩,[],Nat.zero_le _,rfl,rfl,rfl,by simp,.nil _ _,Ch.refl _ _⟩,?_⟩
 rintro m _ W g ⟨i,so,out,hi,hmi,rfl,hol,hout,hO,hE⟩
 have E:=e2.trans hE
 have zE:=hE.size
 unfold F118j2
 refine IfB.dec (fun hlt=>?_) fun hge=>?_
 ·have hi':i<rows.length:=by dsimp only at hlt;omega
  have hx:rows[i]? =some rows[i]:=List.getElem?_eq_getElem hi'
  generalize rows[i]=row at hx
  obtain⟨⟨b,o,hp,hc⟩,hrr,hrn⟩:=(hL.ext E).at hx
  have hR:=hrow' i row hx
  have hRl:=hR.len
  refine⟨b,o,hp,(⟨by omega,by omega⟩:(0:Int)<=(i:Int)/\(i:Int)<(tl.n:Int)),row.1,by rw[Int.toNat_natCast];exact hc,(c111 hrr (by omega)).use ?_⟩
  rintro _ w45 ⟨s,rfl,ho,e45,hb⟩
  have z45:=e45.size
  refine⟨s,rfl,by decide,(hO.ext e45).add ho (fun j hj=>by have:=hb j hj;omega) (fun j hj h=>by have:=hb j hj;have:=hO.own.lt j h;omega) (by omega) (by omega) fun s' w' hO' hC'=>⟨rfl,m-1,by omega,i+1,s',out++[(s,row.2)],by omega,by omega,by rw[wrap_of (by omega) (by omega)];rfl,by simp[hol],fun j x hjx=>?_,hO',(hE.trans e45).chN hC' fun j hj=>hO.new j hj⟩⟩
  by_cases hj:j<i
  ·rw[List.getElem?_append_left (by omega)] at hjx
   exact hout j x hjx
  ·have:=(List.getElem?_eq_some_iff.1 hjx).1
   simp at this
   have hji:j=i:=by omega
   subst hji
   rw[List.getElem?_append_right (by omega),hol,Nat.sub_self] at hjx
   cases hjx
   exact hR
 ·have hi':i=hs.length:=by dsimp only at hge;omega
  refine⟨n.v,cellsAt_of (hE.at a2.new) fun q v hv=>by simpa using hv,addRow (hL.ext E) (hH.ext E) (hn.ext E) hrl hrow' hO (by omega) hout (by omega) hl fun s' rows' w' h1 h2 h3 h4=>⟨s',rows',rfl,h1,h2,⟨h3.own,h3.row,h3.apart,fun j hj=>by have:=h3.new j hj;omega,fun r hr j hj=>by have:=h3.rnew r hr j hj;omega⟩,E.chN h4 fun j hj=>by have:=hO.new j hj;omega⟩⟩
def F97j3(t0:Sl)(b1:Nat)(y3:Nat->Int->World->Prop)(b5:Nat)(n6:Int)(y26:Nat->Int->World->Prop)(b28:Nat)(n29:Int)(w30:World):Prop:=Qx t0.1 n6 (t0.2:Int) fun b33 b34=>Qi w30 b33 (b34+n6.toNat*2+1) fun n35=>IfB (decide (n29<=n35)) ((0<=n29/\n29<((1000:Nat):Int))/\#[Value.bool true].size=1/\StoreP w30 b1 (0+n29.toNat) [Value.bool true] fun w36=>Qn y26 b28 (IntKind.i64.wrap (n29+1)) w36) (Qn y3 b5 (IntKind.i64.wrap (n6+1)) w30)
def F97j2(t0:Sl)(b1:Nat)(y3:Nat->Int->World->Prop)(b5:Nat)(n6:Int)(w12:World):Prop:=Qx t0.1 n6 (t0.2:Int) fun b15 b16=>Qi w12 b15 (b16+n6.toNat*2+0) fun n17=>IfB (decide (n17<0)) (Qn y3 b5 (IntKind.i64.wrap (n6+1)) w12) (Qx t0.1 n6 (t0.2:Int) fun b19 b20=>Qi w12 b19 (b20+n6.toNat*2+1) fun n21=>IfB (decide (999<n21)) (Qn y3 b5 (IntKind.i64.wrap (n6+1)) w12) (Qx t0.1 n6 (t0.2:Int) fun b23 b24=>Qi w12 b23 (b24+n6.toNat*2+0) fun n25=>Ql (α:=Int) n25 w12 fun y26 b28 n29 w30=>(F97j3 t0 b1 y3 b5 n6 y26 b28 n29 w30)))
theorem F97_ok(t0:Sl)(w:World)(R:RV)(h:AllocP w (Obj.cells (Array.replicate 1000 (Value.bool false)) 188) fun b1 w2=>Ql (α:=Int) 0 w2 fun y3 b5 n6 w7=>∃(y10:Unit->World->Prop),IfB (decide (n6<(t0.n:Int))) (([]:List Nat)=[]/\y10 PUnit.unit w7) (R (Value.pointer (some ⟨b1,0,none⟩)) w7)/\∀(y11:Unit)(w12:World)(y13:Nat->Value),y10 y11 w12->(F97j2 t0 b1 y3 b5 n6 w12)):Cw 97 #[Qy t0] w R:=
 ckF Tryz.func97 (nd (nd (.node (nd (.loop [(4,oi)] (rg [4,41]) (.join [] [6,7,8,9] .nil (.node (nd (nd (.loop [(5,oi)] (rg [5,5,31,41]) .nil))) .nil)))) .nil))) h (by kernel_rfl) (by kernel_rfl)
def F98j1(t0:Option Addr)(t1:Option Addr)(R:RV)(y1:Nat->Int->World->Prop)(b3:Nat)(n4:Int)(w5:World):Prop:=IfB (decide (n4<1000)) (∃(y8:Bool->World->Prop),(Qx t0 n4 ((1000:Nat):Int) fun b9 b10=>Qb w5 b9 (b10+n4.toNat) fun t11=>IfB t11 (Qx t1 n4 ((1000:Nat):Int) fun b12 b13=>Qb w5 b12 (b13+n4.toNat) fun t14=>([]:List Nat)=[]/\y8 t14 w5) (([]:List Nat)=[]/\y8 false w5))/\∀(t15:Bool)(w16:World)(y17:Nat->Value),y8 t15 w16->IfB t15 (R (Value.bool true) w16) (Qn y1 b3 (IntKind.i64.wrap (n4+1)) w16)) (R (Value.bool false) w5)
def F98(t0:Option Addr)(t1:Option Addr)(w:World)(R:RV):Prop:=Ql (α:=Int) 0 w fun y1 b3 n4 w5=>(F98j1 t0 t1 R y1 b3 n4 w5)
theorem F98_ok(t0:Option Addr)(t1:Option Addr)(w:World)(R:RV)(h:F98 t0 t1 w R):Cw 98 #[Value.pointer t0,Value.pointer t1] w R:=
 ckF Tryz.func98 (nd (.node (nd (.loop [(5,oi)] (rg [4,21]) (nd (.node (.join [(21,ob)] (rg [10,21]) .nil .nil) .nil)))) .nil)) h (by kernel_rfl) (by kernel_rfl)
theorem F36_ok(t0:Int×Int×Int×Bool×Sl×Sl)(t1:Int×Int×Int×Bool×Sl×Sl)(w:World)(R:RV)(h:AllocP w (Obj.cells (lC53 t0).toArray 53) fun b1 w2=>AllocP w2 (Obj.cells (lC53 t1).toArray 53) fun b3 w4=>Qi w4 b1 (0+0) fun n5=>Qi w4 b3 (0+0) fun n6=>IfB (n5 == n6) (R (Value.bool false) w4) (Qs w4.drew b1 (0+4) fun s7=>Qs w4.drew b1 (0+5) fun s8=>Qs w4.drew b3 (0+4) fun s9=>Qs w4.drew b3 (0+5) fun s10=>Cx 97 #[Qy s7] w4.drew fun v11 w12=>∃(p13:Option Addr),v11=Value.pointer p13/\w12.cell? ⟨b3,0+5,none⟩=some (Qy s10)/\w12.cell? ⟨b3,0+4,none⟩=some (Qy s9)/\w12.cell? ⟨b1,0+5,none⟩=some (Qy s8)/\Cx 97 #[Qy s8] w12 fun v14 w15=>∃(p16:Option Addr),v14=Value.pointer p16/\w15.cell? ⟨b3,0+5,none⟩=some (Qy s10)/\w15.cell? ⟨b3,0+4,none⟩=some (Qy s9)/\Cx 97 #[Qy s9] w15 fun v17 w18=>∃(p19:Option Addr),v17=Value.pointer p19/\w18.cell? ⟨b3,0+5,none⟩=some (Qy s10)/\Cx 97 #[Qy s10] w18 fun v20 w21=>∃(p22:Option Addr),v20=Value.pointer p22/\Qv' 98 #[Value.pointer p16,Value.pointer p19] w21 fun t25 w24=>IfB t25 (R (Value.bool true) w24) (Qv' 98 #[Value.pointer p16,Value.pointer p22] w24 fun t28 w27=>IfB t28 (R (Value.bool true) w27) (Qv' 98 #[Value.pointer p13,Value.pointer p22] w27 fun t31 w30=>R (Value.bool t31) w30)))):Cw 36 #[(.agg (lC53 t0).toArray),(.agg (lC53 t1).toArray)] w R:=
 ckF Tryz.func36 (nd (nd (.node (.draw (sts [0,1,3,4,6,7,9,10] (.ac 2 [10,9,7,6,4,3] (.ac 5 [10,9,7,6] (.ac 8 [10,9] (.ac 11 [] (sts [12,13,14,15] .fin) .non) .non) .non) .non))) .nil))) h (by kernel_rfl) (by kernel_rfl)
abbrev st1000(b:Nat):Sl:=⟨some ⟨b,0,none⟩,1000,1000⟩
def SetP(w:World)(b:Nat)(Q:Nat->Prop):Prop:=∃bs:List Bool,OwS w (st1000 b) 1 (bs.map encB)/\bs.length=1000/\∀k,k<1000->(bs[k]? =some true↔Q k)
theorem SetP.ext{w w':World}{b:Nat}{Q:Nat->Prop}(h:SetP w b Q)(e:Ext w w'):SetP w' b Q:=by
 obtain⟨bs,h1,h2⟩:=h
 exact⟨bs,h1.ext e,h2⟩
theorem SetP.iff{w:World}{b:Nat}{Q Q':Nat->Prop}(h:SetP w b Q)(hq:∀k,k<1000->(Q' k↔Q k)):SetP w b Q':=by
 obtain⟨bs,h1,h2,h3⟩:=h
 exact⟨bs,h1,h2,fun k hk=>(h3 k hk).trans (hq k hk).symm⟩
theorem SetP.get{w:World}{b:Nat}{Q:Nat->Prop}(h:SetP w b Q){k:Nat}(hk:k<1000):∃r,w.cell? ⟨b,0+k,none⟩=some (.bool r)/\(r=true↔Q k):=by
 obtain⟨bs,h1,h2,h3⟩:=h
 have hx:bs[k]? =some (bs[k]'(by omega)):=List.getElem?_eq_getElem (by omega)
 obtain⟨b',hp,hc⟩:=h1.elem1 (i:=k) (v:=encB (bs[k]'(by omega))) (by rw[List.getElem?_map,hx];rfl)
 cases hp
 refine⟨bs[k]'(by omega),by rw[Nat.zero_add];exact hc,?_⟩
 rw[<-h3 k hk,hx];simp
theorem SetP.put{w:World}{b:Nat}{Q:Nat->Prop}(h:SetP w b Q){k:Nat}(hk:k<1000){K:World->Prop}(hK:∀w',SetP w' b (fun k'=>Q k'\/k'=k)->Ch (fun i=>i=b) w w'->K w'):StoreP w b (0+k) [.bool true] K:=by
 obtain⟨bs,h1,h2,h3⟩:=h
 rw[Nat.zero_add]
 refine h1.store (vs:=[.bool true]) rfl (by simp;omega) (by intro v hv;rw[List.mem_singleton.1 hv];rfl) fun w' ho hC=>hK w' ⟨bs.set k true,?_,by rw[List.length_set];exact h2,fun k' hk'=>?_⟩ hC
 ·have e:(bs.map encB).take k++[.bool true]++(bs.map encB).drop (k+1)=(bs.set k true).map encB:=by
   rw[List.set_eq_take_append_cons_drop,if_pos (by omega),List.map_append,List.map_cons,List.map_take,List.map_drop]
   simp[encB]
  rw[<-e];exact ho
 ·rw[List.getElem?_set]
  by_cases e:k=k'
  ·subst e;simp[h2,hk]
  ·rw[if_neg e,h3 k' hk'];simp[Ne.symm e]
theorem c97{w:World}{t:Sl}{xs:List Spn}(h:Rd w t 2 (xs.flatMap sv))(hl:xs.length<=1000000):
  Cw 97 #[slV t] w fun v w'=>∃b,v=.pointer (some ⟨b,0,none⟩)/\SetP w' b (fun k=>hasS xs k)/\w.heap.size<=b/\Ext w w':=by
 have hn:=rdN sv_len (by omega) h
 refine F97_ok t w _ fun b1 w2 a2=>?_
 have e2:Ext w w2:=a2.ch _
 have p2:=a2.here
 have hS0:SetP w2 b1 (fun k=>hasS (xs.take 0) k):=by
  refine⟨List.replicate 1000 false,OwS.new (w:=w) (T:=188) ?_ (by rw[List.length_map,List.length_replicate]),by rw[List.length_replicate],fun k hk=>?_⟩
  ·have:((List.replicate 1000 false).map encB).toArray=Array.replicate 1000 (Value.bool false):=by rw[List.map_replicate,List.toArray_replicate];rfl
   rw[this];exact a2
  ·rw[List.getElem?_replicate,if_pos hk];simp[hasS]
 refine⟨fun m x W=>∃i:Nat,i<=xs.length/\m+i=xs.length/\x=(i:Int)/\SetP W b1 (fun k=>hasS (xs.take i) k)/\Ch (fun j=>j=b1) w2 W,⟨xs.length,0,Nat.zero_le _,rfl,rfl,hS0,Ch.refl _ _⟩,?_⟩
 rintro m _ W g ⟨i,hi,hmi,rfl,hS,hC⟩
 have E:Ext w W:=e2.chN hC fun j e=>by omega
 refine⟨fun _ w12=>w12=W/\i<xs.length,IfB.dec (fun hlt=>⟨rfl,rfl,by omega⟩) fun hge=>?_,?_⟩
 ·have hi':i=xs.length:=by omega
  subst hi'
  rw[List.take_length] at hS
  exact⟨b1,rfl,hS,by omega,E⟩
 rintro _ _ g ⟨rfl,hi'⟩
 have hx:xs[i]? =some xs[i]:=List.getElem?_eq_getElem hi'
 have htk:=take_succ_get hx
 generalize xs[i]=s at hx htk
 obtain⟨a,o,hp,hc⟩:=(h.ext E).elem (i:=i) (by omega) (by omega) (flatGet sv_len hx)
 have hb:(0:Int)<=(i:Int)/\(i:Int)<(t.n:Int):=⟨by omega,by omega⟩
 have hi1:IntKind.i64.wrap ((i:Int)+1)=((i+1:Nat):Int):=by rw[wrap_of (by omega) (by omega)];rfl
 have skip:(s.1<0\/999<s.2)->SetP _ b1 (fun k=>hasS (xs.take (i+1)) k):=fun hs=>hS.iff fun k hk=>by
  rw[htk,hasS_append,hasS_one]
  unfold mayS
  constructor
  ·rintro(h|h)
   ·exact h
   ·omega
  ·exact .inl
 unfold F97j2
 refine⟨a,o,hp,hb,s.1,by rw[Int.toNat_natCast];exact hc.fst,IfB.dec (fun h1=>⟨rfl,m-1,by omega,i+1,hi',by omega,hi1,skip (.inl h1),hC⟩) fun h1=>⟨a,o,hp,hb,s.2,by rw[Int.toNat_natCast];exact hc.snd,IfB.dec (fun h2=>⟨rfl,m-1,by omega,i+1,hi',by omega,hi1,skip (.inr h2),hC⟩) fun h2=>?_⟩⟩
 refine⟨a,o,hp,hb,s.1,by rw[Int.toNat_natCast];exact hc.fst,fun n x W'=>(s.1<=x/\(x<=s.2+1\/x=s.1))/\n=(s.2+1-x).toNat/\SetP W' b1 (fun k=>hasS (xs.take i) k\/(s.1<=(k:Int)/\(k:Int)<x))/\Ch (fun j=>j=b1) w2 W',
  ⟨_,⟨by omega,.inr rfl⟩,rfl,hS.iff fun k hk=>⟨fun h=>h.elim id fun h=>by omega,.inl⟩,hC⟩,?_⟩
 rintro n x W' g ⟨⟨hx1,hx2⟩,rfl,hS',hC'⟩
 have E':Ext w W':=e2.chN hC' fun j e=>by omega
 obtain⟨a',o',hp',hc'⟩:=(h.ext E').elem (i:=i) (by omega) (by omega) (flatGet sv_len hx)
 unfold F97j3
 refine⟨a',o',hp',hb,s.2,by rw[Int.toNat_natCast];exact hc'.snd,IfB.dec (fun h3=>⟨⟨by omega,by omega⟩,rfl,hS'.put (k:=x.toNat) (by omega) fun w3 hS3 hC3=>⟨rfl,(s.2+1-(x+1)).toNat,by omega,?_,?_,?_,hC'.trans hC3⟩⟩) fun h3=>⟨rfl,m-1,by omega,i+1,hi',by omega,hi1,?_,hC'⟩⟩
 ·rw[wrap_of (by omega) (by omega)];omega
 ·rw[wrap_of (by omega) (by omega)]
 ·rw[wrap_of (by omega) (by omega)]
  exact hS3.iff fun k hk=>by
   rw[or_assoc]
   exact or_congr Iff.rfl (by omega)
 ·refine hS'.iff fun k hk=>?_
  rw[htk,hasS_append,hasS_one]
  refine or_congr Iff.rfl ?_
  unfold mayS;omega
set_option maxRecDepth 20000 in
theorem c98{w:World}{b1 b2:Nat}{Q1 Q2:Nat->Prop}(h1:SetP w b1 Q1)(h2:SetP w b2 Q2):
  Cw 98 #[.pointer (some ⟨b1,0,none⟩),.pointer (some ⟨b2,0,none⟩)] w fun v w'=>∃r,v=.bool r/\(r=true↔∃k,k<1000/\Q1 k/\Q2 k)/\w=w':=by
 refine F98_ok _ _ w _ ?_
 unfold F98
 refine⟨fun m x W=>∃i:Nat,i<=1000/\m+i=1000/\x=(i:Int)/\w=W/\∀k,k<i->¬(Q1 k/\Q2 k),?_,?_⟩
 ·exact⟨1000,0,by omega,by omega,by omega,Eq.refl w,fun k hk=>by omega⟩
 rintro m _ _ g ⟨i,hi,hmi,rfl,rfl,hno⟩
 unfold F98j1
 refine IfB.dec (fun hlt=>?_) fun hge=>⟨false,rfl,⟨fun h=>(by cases h),fun⟨k,hk,hq⟩=>absurd hq (hno k (by omega))⟩,rfl⟩
 have hi':i<1000:=by omega
 obtain⟨r1,c1,hr1⟩:=h1.get hi'
 obtain⟨r2,c2,hr2⟩:=h2.get hi'
 have hb:(0:Int)<=(i:Int)/\(i:Int)<((1000:Nat):Int):=⟨by omega,by omega⟩
 refine⟨fun r W=>w=W/\(r=true↔Q1 i/\Q2 i),⟨b1,0,rfl,hb,r1,by rw[Int.toNat_natCast];exact c1,IfB.intro (fun h=>⟨b2,0,rfl,hb,r2,by rw[Int.toNat_natCast];exact c2,rfl,rfl,by rw[hr2];exact⟨fun h'=>⟨hr1.1 h,h'⟩,fun h'=>h'.2⟩⟩) fun h=>⟨rfl,rfl,⟨fun h'=>(by cases h'),fun h'=>by rw[hr1.2 h'.1] at h;cases h⟩⟩⟩,?_⟩
 rintro r _ g ⟨rfl,hr⟩
 refine IfB.intro (fun h=>⟨true,rfl,⟨fun _=>⟨i,hi',hr.1 h⟩,fun _=>rfl⟩,rfl⟩) fun h=>⟨rfl,m-1,by omega,i+1,hi',by omega,by rw[wrap_of (by omega) (by omega)];rfl,rfl,fun k hk hq=>?_⟩
 by_cases e:k=i
 ·subst e;rw[hr.2 hq] at h;cases h
 ·exact hno k (by omega) hq
theorem mtP_nat{xs ys:List Spn}:mtP xs ys↔∃k:Nat,k<1000/\hasS xs k/\hasS ys k:=by
 constructor
 ·rintro⟨k,⟨x,hx,hm,h1,h2⟩,h⟩
  have hk:0<=k/\k<=999:=by unfold mayS at hm;omega
  obtain⟨n,rfl⟩:∃n:Nat,k=(n:Int):=⟨k.toNat,by omega⟩
  exact⟨n,by omega,⟨x,hx,hm,h1,h2⟩,h⟩
 ·rintro⟨k,_,h⟩;exact⟨k,h⟩
theorem c36{w:World}{a b:Nd}(ha:NdOk w a)(hb:NdOk w b):
  Cw 36 #[ndV a.v,ndV b.v] w fun v w'=>∃r,v=.bool r/\(r=true↔cnfP a b)/\Ext w w':=by
 refine F36_ok a.v b.v w _ fun b1 w2 h2 b3 w4 h4=>?_
 have e4:Ext w w4:=(h2.ch _).trans (h4.ch _)
 have H1:=h4.at h2.new
 have H3:=h4.new
 have q1:∀ {W:World}(o:Nat),Ext w4 W->W.cell? ⟨b1,0+o,none⟩=(nC a.v)[o]? :=fun o e=>by rw[cell_of (e.at H1),Nat.zero_add];exact List.getElem?_toArray ..
 have q3:∀ {W:World}(o:Nat),Ext w4 W->W.cell? ⟨b3,0+o,none⟩=(nC b.v)[o]? :=fun o e=>by rw[cell_of (e.at H3),Nat.zero_add];exact List.getElem?_toArray ..
 refine⟨_,q1 0 (Ch.refl _ _),_,q3 0 (Ch.refl _ _),IfB.intro (fun he=>?_) fun hne=>?_⟩
 ·have he:a.v.1=b.v.1:=by simpa using he
  exact⟨false,rfl,⟨fun h=>(by cases h),fun h=>absurd he h.1⟩,e4⟩
 ·have hne:a.v.1≠b.v.1:=by simpa using hne
  have ed:=extDrew w4
  refine⟨_,q1 4 ed,_,q1 5 ed,_,q3 4 ed,_,q3 5 ed,(c97 (ha.rs.ext (e4.trans ed)) ha.rl).use ?_⟩
  rintro _ w12 ⟨pa,rfl,sa,_,e12⟩
  have f12:Ext w4 w12:=ed.trans e12
  refine⟨_,rfl,q3 5 f12,q3 4 f12,q1 5 f12,(c97 (ha.ws.ext (e4.trans f12)) ha.wl).use ?_⟩
  rintro _ w15 ⟨pb,rfl,sb,_,e15⟩
  have f15:=f12.trans e15
  refine⟨_,rfl,q3 5 f15,q3 4 f15,(c97 (hb.rs.ext (e4.trans f15)) hb.rl).use ?_⟩
  rintro _ w18 ⟨pc,rfl,sc,_,e18⟩
  have f18:=f15.trans e18
  refine⟨_,rfl,q3 5 f18,(c97 (hb.ws.ext (e4.trans f18)) hb.wl).use ?_⟩
  rintro _ w21 ⟨pd,rfl,sd,_,e21⟩
  have f21:=e4.trans (f18.trans e21)
  have sa:=((sa.ext e15).ext e18).ext e21
  have sb:=(sb.ext e18).ext e21
  have sc:=sc.ext e21
  refine⟨_,rfl,(c98 sb sc).use ?_⟩
  rintro _ _ ⟨r1,rfl,hr1,rfl⟩
  rw[<-mtP_nat] at hr1
  refine⟨r1,rfl,IfB.intro (fun h=>⟨true,rfl,⟨fun _=>⟨hne,.inl (hr1.1 h)⟩,fun _=>rfl⟩,f21⟩) fun n1=>(c98 sb sd).use ?_⟩
  rintro _ _ ⟨r2,rfl,hr2,rfl⟩
  rw[<-mtP_nat] at hr2
  refine⟨r2,rfl,IfB.intro (fun h=>⟨true,rfl,⟨fun _=>⟨hne,.inr (.inl (hr2.1 h))⟩,fun _=>rfl⟩,f21⟩) fun n2=>(c98 sa sd).use ?_⟩
  rintro _ _ ⟨r3,rfl,hr3,rfl⟩
  rw[<-mtP_nat] at hr3
  refine⟨r3,rfl,r3,rfl,?_,f21⟩
  rw[hr3]
  refine⟨fun h=>⟨hne,.inr (.inr h)⟩,fun h=>?_⟩
  rcases h.2 with h|h|h
  ·rw[hr1.2 h] at n1;cases n1
  ·rw[hr2.2 h] at n2;cases n2
  ·exact h
section
variable {E:Nat->Nat->Prop}
def Fw(E:Nat->Nat->Prop):Nat->Nat->Nat->Prop
 | 0,i,k=>E i k
 | m+1,i,k=>Fw E m i k\/(Fw E m i m/\Fw E m m k)
theorem Fw_tc:∀ {m i k:Nat},Fw E m i k->TC E i k
 | 0,_,_,h=>.one h
 | m+1,_,_,.inl h=>Fw_tc h
 | m+1,_,_,.inr ⟨h1,h2⟩=>(Fw_tc h1).trans (Fw_tc h2)
theorem Fw_trans:∀ {m i j k:Nat},j<m->Fw E m i j->Fw E m j k->Fw E m i k
 | 0,_,_,_,h,_,_=>by omega
 | m+1,i,j,k,h,h1,h2=>by
  by_cases hj:j=m
  ·subst hj
   refine .inr ⟨?_,?_⟩
   ·rcases h1 with h|h
    ·exact h
    ·exact h.1
   ·rcases h2 with h|h
    ·exact h
    ·exact h.2
  ·have hj':j<m:=by omega
   rcases h1 with h1|⟨h1,h1'⟩
   ·rcases h2 with h2|⟨h2,h2'⟩
    ·exact .inl (Fw_trans hj' h1 h2)
    ·exact .inr ⟨Fw_trans hj' h1 h2,h2'⟩
   ·rcases h2 with h2|⟨h2,h2'⟩
    ·exact .inr ⟨h1,Fw_trans hj' h1' h2⟩
    ·exact .inr ⟨h1,h2'⟩
theorem Fw_zero{i k:Nat}(h:E i k):∀m,Fw E m i k
 | 0=>h
 | m+1=>.inl (Fw_zero h m)
theorem Fw_all{n i k:Nat}(hE:∀a b,E a b->b<n)(h:TC E i k):Fw E n i k:=by
 induction h with
 | one h=>exact Fw_zero h n
 | more h1 h2 ih=>
  refine Fw_trans ?_ ih (Fw_zero h2 n)
  obtain⟨c,hc,_⟩:=h1.last
  exact hE _ _ hc
theorem Fw_iff{n i k:Nat}(hE:∀a b,E a b->b<n):Fw E n i k↔TC E i k:=⟨Fw_tc,Fw_all hE⟩
end
theorem zc_all{z:Array Value}{v:Value}(h:∀x∈z.toList,x=v)(n:Nat):zc z n=List.replicate (n*z.size) v:=by
 refine List.eq_replicate_iff.2 ⟨zc_len z n,fun x hx=>?_⟩
 unfold zc Builtin.zeroCells at hx
 rw[Array.mem_toList_iff,Array.mem_map] at hx
 obtain⟨i,hi,rfl⟩:=hx
 rw[Array.mem_range] at hi
 have h0:0<z.size:=by
  rcases Nat.eq_zero_or_pos z.size with h0|h0
  ·rw[h0,Nat.mul_zero] at hi;omega
  ·exact h0
 have hm:=Nat.mod_lt i h0
 rw[getElem!_pos z _ hm]
 exact h _ (by simp)
abbrev MxR:=Sl×List Bool
abbrev bvs(l:List Bool):List Value:=l.map Value.bool
abbrev hM(x:MxR):Value:=slV x.1
structure Mx(w:World)(n:Nat)(t:Sl)(rows:List MxR):Prop where
 own:OwS w t 1 (rows.map hM)
 row:∀r∈rows,OwS w r.1 1 (bvs r.2)
 apart:∀r∈rows,∀j∈blk r.1,j∉blk t
 dist:∀(a b:Nat)(r s:MxR),a≠b->rows[a]? =some r->rows[b]? =some s->∀j∈blk r.1,j∉blk s.1
 new:∀j∈blk t,n<=j
 rnew:∀r∈rows,∀j∈blk r.1,n<=j
theorem Mx.ext{w w':World}{n:Nat}{t:Sl}{rows:List MxR}(h:Mx w n t rows)(e:Ext w w'):Mx w' n t rows:=⟨h.own.ext e,fun r hr=>(h.row r hr).ext e,h.apart,h.dist,h.new,h.rnew⟩
theorem Mx.n{w:World}{m:Nat}{t:Sl}{rows:List MxR}(h:Mx w m t rows):t.n=rows.length:=by rw[h.own.len1,List.length_map]
theorem Mx.slot{w:World}{m:Nat}{t:Sl}{rows:List MxR}(h:Mx w m t rows){i:Nat}{r:MxR}(hr:rows[i]? =some r):∃b,t.p=some ⟨b,0,none⟩/\w.cell? ⟨b,i,none⟩=some (slV r.1):=
 h.own.elem1 (i:=i) (v:=hM r) (by rw[List.getElem?_map,hr];rfl)
theorem Mx.rn{w:World}{m:Nat}{t:Sl}{rows:List MxR}(h:Mx w m t rows){r:MxR}(hr:r∈rows):r.1.n=r.2.length:=by rw[(h.row r hr).len1,List.length_map]
theorem Mx.cell{w:World}{m:Nat}{t:Sl}{rows:List MxR}(h:Mx w m t rows){r:MxR}(hr:r∈rows){k:Nat}{v:Bool}(hv:r.2[k]? =some v):∃b,r.1.p=some ⟨b,0,none⟩/\w.cell? ⟨b,k,none⟩=some (.bool v):=
 (h.row r hr).elem1 (i:=k) (v:=.bool v) (by rw[List.getElem?_map,hv];rfl)
theorem mem_set{α:Type}{l:List α}{i:Nat}{x y:α}(h:y∈l.set i x):y=x\/∃k,k≠i/\l[k]? =some y:=by
 obtain⟨k,hk,e⟩:=List.getElem_of_mem h
 rw[List.getElem_set] at e
 rw[List.length_set] at hk
 by_cases hki:i=k
 ·rw[if_pos hki] at e;exact .inl e.symm
 ·rw[if_neg hki] at e
  exact .inr ⟨k,fun e=>hki e.symm,by rw[List.getElem?_eq_getElem hk,e]⟩
theorem Mx.put{w:World}{m:Nat}{t:Sl}{rows:List MxR}(h:Mx w m t rows){i k b:Nat}{r:MxR}(hr:rows[i]? =some r)(hk:k<r.2.length)(hp:r.1.p=some ⟨b,0,none⟩){v:Bool}{K:World->Prop}
  (hK:∀w',Mx w' m t (rows.set i (r.1,r.2.set k v))->Ch (fun j=>j=b) w w'->K w'):StoreP w b (0+k) [.bool v] K:=by
 have hm:=List.mem_of_getElem? hr
 have hn:=h.rn hm
 have hb:∀j,j=b->j∈blk r.1:=fun j e=>by simp[blk,hp,e]
 rw[Nat.zero_add]
 refine(h.row r hm).store (vs:=[.bool v]) hp (by simp;omega) (by intro v hv;rw[List.mem_singleton.1 hv];rfl) fun w' ho hC=>hK w' ?_ hC
 have e1:(bvs r.2).take k++[.bool v]++(bvs r.2).drop (k+1)=bvs (r.2.set k v):=by
  rw[List.set_eq_take_append_cons_drop,if_pos hk]
  simp[bvs,List.map_take,List.map_drop]
 have hset:(rows.set i (r.1,r.2.set k v)).map hM=rows.map hM:=by
  apply List.ext_getElem?
  intro j
  rw[List.getElem?_map,List.getElem?_map,List.getElem?_set]
  by_cases hij:i=j
  ·subst hij
   have:=(List.getElem?_eq_some_iff.1 hr).1
   rw[if_pos rfl,if_pos this,hr];rfl
  ·rw[if_neg hij]
 have get:∀(a:Nat)(s:MxR),(rows.set i (r.1,r.2.set k v))[a]? =some s->∃s',rows[a]? =some s'/\s'.1=s.1:=fun a s hs=>by
  rw[List.getElem?_set] at hs
  by_cases hia:i=a
  ·subst hia
   rw[if_pos rfl,if_pos (List.getElem?_eq_some_iff.1 hr).1] at hs
   cases hs
   exact⟨r,hr,rfl⟩
  ·rw[if_neg hia] at hs;exact⟨s,hs,rfl⟩
 have gm:∀s∈rows.set i (r.1,r.2.set k v),∃s'∈rows,s'.1=s.1:=fun s hs=>by
  obtain⟨a,ha,e⟩:=List.getElem_of_mem hs
  obtain⟨s',h1,h2⟩:=get a s (by rw[List.getElem?_eq_getElem ha,e])
  exact⟨s',List.mem_of_getElem? h1,h2⟩
 refine⟨?_,fun s hs=>?_,fun s hs j hj=>?_,fun a c s u hac hs hu j hj=>?_,h.new,fun s hs j hj=>?_⟩
 ·rw[hset]
  exact h.own.ch hC fun j hj e=>h.apart r hm j (hb j e) hj
 ·rcases mem_set hs with rfl|⟨a,hai,ha⟩
  ·rw[show [Value.bool v].length=1 from rfl,e1] at ho;exact ho
  ·exact(h.row s (List.mem_of_getElem? ha)).ch hC fun j hj e=>h.dist a i s r hai ha hr j hj (hb j e)
 ·obtain⟨s',h1,h2⟩:=gm s hs
  exact h.apart s' h1 j (by rw[h2];exact hj)
 ·obtain⟨s',h1,h2⟩:=get a s hs
  obtain⟨u',h3,h4⟩:=get c u hu
  rw[<-h4]
  exact h.dist a c s' u' hac h1 h3 j (by rw[h2];exact hj)
 ·obtain⟨s',h1,h2⟩:=gm s hs
  exact h.rnew s' h1 j (by rw[h2];exact hj)
theorem Mx.row'{w:World}{m:Nat}{t s:Sl}{rows:List MxR}{l:List Bool}(h:Mx w m t rows){i b:Nat}(hi:i<rows.length)(hs:OwS w s 1 (bvs l))(hn:∀j∈blk s,m<=j)(hap:∀j∈blk s,j∉blk t)(hd:∀r∈rows,∀j∈blk s,j∉blk r.1)(hp:t.p=some ⟨b,0,none⟩){K:World->Prop}
  (hK:∀w',Mx w' m t (rows.set i (s,l))->Ch (fun j=>j=b) w w'->K w'):StoreP w b (0+i) [slV s] K:=by
 have htn:=h.n
 have hb:∀j,j=b->j∈blk t:=fun j e=>by simp[blk,hp,e]
 rw[Nat.zero_add]
 refine h.own.store (vs:=[slV s]) hp (by simp;omega) (by intro v hv;rw[List.mem_singleton.1 hv];rfl) fun w' ho hC=>hK w' ?_ hC
 have e1:(rows.map hM).take i++[slV s]++(rows.map hM).drop (i+1)=(rows.set i (s,l)).map hM:=by
  rw[List.set_eq_take_append_cons_drop,if_pos hi]
  simp[List.map_take,List.map_drop]
 rw[show [slV s].length=1 from rfl,e1] at ho
 have get:∀(a:Nat)(r:MxR),(rows.set i (s,l))[a]? =some r->(a=i/\r=(s,l))\/(a≠i/\rows[a]? =some r):=fun a r hr=>by
  rw[List.getElem?_set] at hr
  by_cases hia:i=a
  ·subst hia
   rw[if_pos rfl,if_pos hi] at hr
   cases hr;exact .inl ⟨rfl,rfl⟩
  ·rw[if_neg hia] at hr;exact .inr ⟨Ne.symm hia,hr⟩
 refine⟨ho,fun r hr=>?_,fun r hr j hj=>?_,fun a c r u hac hr hu j hj hj'=>?_,h.new,fun r hr j hj=>?_⟩
 ·rcases mem_set hr with rfl|⟨a,hai,ha⟩
  ·exact hs.ch hC fun j hj e=>hap j hj (hb j e)
  ·exact(h.row r (List.mem_of_getElem? ha)).ch hC fun j hj e=>h.apart r (List.mem_of_getElem? ha) j hj (hb j e)
 ·rcases mem_set hr with rfl|⟨a,hai,ha⟩
  ·exact hap j hj
  ·exact h.apart r (List.mem_of_getElem? ha) j hj
 ·rcases get a r hr with ⟨rfl,rfl⟩|⟨h1,h2⟩
  ·rcases get c u hu with ⟨rfl,_⟩|⟨h3,h4⟩
   ·exact hac rfl
   ·exact hd u (List.mem_of_getElem? h4) j hj hj'
  ·rcases get c u hu with ⟨rfl,rfl⟩|⟨h3,h4⟩
   ·exact hd r (List.mem_of_getElem? h2) j hj' hj
   ·exact h.dist a c r u hac h2 h4 j hj hj'
 ·rcases mem_set hr with rfl|⟨a,hai,ha⟩
  ·exact hn j hj
  ·exact h.rnew r (List.mem_of_getElem? ha) j hj
def gM(rows:List MxR)(i k:Nat):Bool:=match rows[i]? with
 | some r=>r.2.getD k false
 | none=>false
theorem gM_get{rows:List MxR}{i k:Nat}{r:MxR}(hr:rows[i]? =some r)(hk:k<r.2.length):r.2[k]? =some (gM rows i k):=by
 unfold gM;rw[hr]
 dsimp only
 rw[List.getD_eq_getElem?_getD,List.getElem?_eq_getElem hk];rfl
theorem gM_set{rows:List MxR}{i k:Nat}{r:MxR}(hr:rows[i]? =some r)(hk:k<r.2.length)(v:Bool)(a b:Nat):gM (rows.set i (r.1,r.2.set k v)) a b=if a=i/\b=k then v else gM rows a b:=by
 unfold gM
 rw[List.getElem?_set]
 by_cases hia:i=a
 ·subst hia
  rw[if_pos rfl,if_pos (List.getElem?_eq_some_iff.1 hr).1,hr]
  dsimp only
  rw[List.getD_eq_getElem?_getD,List.getElem?_set,List.getD_eq_getElem?_getD]
  by_cases hkb:k=b
  ·subst hkb;simp[hk]
  ·rw[if_neg hkb,if_neg (fun h=>hkb h.2.symm)]
 ·rw[if_neg hia,if_neg (fun h=>hia h.1.symm)]
theorem gM_row{rows:List MxR}{i:Nat}(hi:i<rows.length)(s:Sl)(n a b:Nat):gM (rows.set i (s,List.replicate n false)) a b=if a=i then false else gM rows a b:=by
 unfold gM
 rw[List.getElem?_set]
 by_cases hia:i=a
 ·subst hia
  rw[if_pos rfl,if_pos hi,if_pos rfl]
  dsimp only
  rw[List.getD_eq_getElem?_getD,List.getElem?_replicate]
  split<;>rfl
 ·rw[if_neg hia,if_neg (Ne.symm hia)]
def F93k1(b1:Nat)(n6:Int)(t0:Sl)(w19:World)(n18:Int)(b17:Nat)(y15:Nat->Int->World->Prop):Prop:=Qx (some ⟨b1,0,none⟩) n6 ((((t0.2:Int)).toNat:Nat):Int) fun b22 b23=>Qs w19.drew b22 (b23+n6.toNat) fun s24=>Qx t0.1 n6 (t0.2:Int) fun b25 b26=>Qi w19.drew b25 (b26+n6.toNat*6+0) fun n27=>Qx t0.1 n18 (t0.2:Int) fun b28 b29=>Qi w19.drew b28 (b29+n18.toNat*6+0) fun n30=>IfB (n27 == n30) (w19.drew.cell? ⟨b22,b23+n6.toNat,none⟩=some (Qy s24)/\Qx s24.1 n18 (s24.2:Int) fun b31 b32=>#[Value.bool true].size=1/\StoreP w19.drew b31 (b32+n18.toNat) [Value.bool true] fun w33=>Qn y15 b17 (IntKind.i64.wrap (n18+1)) w33) (Qx t0.1 n6 (t0.2:Int) fun b35 b36=>∃(x37:Int×Int×Int×Bool×Sl×Sl),CellsAt w19.drew b35 (b36+n6.toNat*6) (lC53 x37)/\Qx t0.1 n18 (t0.2:Int) fun b38 b39=>∃(x40:Int×Int×Int×Bool×Sl×Sl),CellsAt w19.drew b38 (b39+n18.toNat*6) (lC53 x40)/\Qv' 36 #[Value.agg (lC53 x37).toArray,Value.agg (lC53 x40).toArray] w19.drew fun t43 w42=>w42.cell? ⟨b22,b23+n6.toNat,none⟩=some (Qy s24)/\Qx s24.1 n18 (s24.2:Int) fun b44 b45=>#[Value.bool t43].size=1/\StoreP w42 b44 (b45+n18.toNat) [Value.bool t43] fun w46=>Qn y15 b17 (IntKind.i64.wrap (n18+1)) w46)
def F93j2(t0:Sl)(b1:Nat)(y3:Nat->Int->World->Prop)(b5:Nat)(n6:Int)(y15:Nat->Int->World->Prop)(b17:Nat)(n18:Int)(w19:World):Prop:=IfB (decide (n18<n6)) (F93k1 b1 n6 t0 w19 n18 b17 y15) (Qn y3 b5 (IntKind.i64.wrap (n6+1)) w19)
def F93j5(t0:Sl)(b1:Nat)(n52:Int)(y56:Nat->Int->World->Prop)(b58:Nat)(n59:Int)(y63:Nat->Int->World->Prop)(b65:Nat)(n66:Int)(w67:World):Prop:=IfB (decide (n66<(t0.n:Int))) (Qx (some ⟨b1,0,none⟩) n59 ((((t0.2:Int)).toNat:Nat):Int) fun b70 b71=>Qs w67 b70 (b71+n59.toNat) fun s72=>Qx s72.1 n52 (s72.2:Int) fun b73 b74=>Qb w67 b73 (b74+n52.toNat) fun t75=>IfB t75 (Qx (some ⟨b1,0,none⟩) n52 ((((t0.2:Int)).toNat:Nat):Int) fun b76 b77=>Qs w67 b76 (b77+n52.toNat) fun s78=>Qx s78.1 n66 (s78.2:Int) fun b79 b80=>Qb w67 b79 (b80+n66.toNat) fun t81=>IfB t81 (Qx (some ⟨b1,0,none⟩) n59 ((((t0.2:Int)).toNat:Nat):Int) fun b82 b83=>Qs w67 b82 (b83+n59.toNat) fun s84=>Qx s84.1 n66 (s84.2:Int) fun b85 b86=>#[Value.bool true].size=1/\StoreP w67 b85 (b86+n66.toNat) [Value.bool true] fun w87=>Qn y63 b65 (IntKind.i64.wrap (n66+1)) w87) (Qn y63 b65 (IntKind.i64.wrap (n66+1)) w67)) (Qn y63 b65 (IntKind.i64.wrap (n66+1)) w67)) (Qn y56 b58 (IntKind.i64.wrap (n59+1)) w67)
def F93j3(t0:Sl)(R:RV)(b1:Nat)(y49:Nat->Int->World->Prop)(b51:Nat)(n52:Int)(w53:World):Prop:=IfB (decide (n52<(t0.n:Int))) (Ql (α:=Int) 0 w53 fun y56 b58 n59 w60=>IfB (decide (n59<(t0.n:Int))) (Ql (α:=Int) 0 w60 fun y63 b65 n66 w67=>(F93j5 t0 b1 n52 y56 b58 n59 y63 b65 n66 w67)) (Qn y49 b51 (IntKind.i64.wrap (n52+1)) w60)) (R (Value.slice (some ⟨b1,0,none⟩) ((t0.2:Int)).toNat ((t0.2:Int)).toNat) w53)
def F93j1(t0:Sl)(R:RV)(b1:Nat)(y3:Nat->Int->World->Prop)(b5:Nat)(n6:Int)(w7:World):Prop:=IfB (decide (n6<(t0.n:Int))) ((0<=(t0.2:Int)/\(t0.2:Int)<=(t0.2:Int)/\(t0.2:Int)<=281474976710656/\((1:Nat):Int)*(t0.2:Int)<=281474976710656)/\AllocP w7 (Obj.cells { toList:=zc #[Value.bool false] ((t0.2:Int)).toNat } 4) fun b10 w11=>Qx (some ⟨b1,0,none⟩) n6 ((((t0.2:Int)).toNat:Nat):Int) fun b12 b13=>#[Value.slice (some ⟨b10,0,none⟩) ((t0.2:Int)).toNat ((t0.2:Int)).toNat].size=1/\StoreP w11 b12 (b13+n6.toNat) [Value.slice (some ⟨b10,0,none⟩) ((t0.2:Int)).toNat ((t0.2:Int)).toNat] fun w14=>Ql (α:=Int) 0 w14 fun y15 b17 n18 w19=>(F93j2 t0 b1 y3 b5 n6 y15 b17 n18 w19)) (Ql (α:=Int) 0 w7 fun y49 b51 n52 w53=>(F93j3 t0 R b1 y49 b51 n52 w53))
theorem F93_ok(t0:Sl)(w:World)(R:RV)(h:(0<=(t0.2:Int)/\(t0.2:Int)<=(t0.2:Int)/\(t0.2:Int)<=281474976710656/\((24:Nat):Int)*(t0.2:Int)<=281474976710656)/\AllocP w (Obj.cells { toList:=zc #[Value.slice none 0 0] ((t0.2:Int)).toNat } 70) fun b1 w2=>Ql (α:=Int) 0 w2 fun y3 b5 n6 w7=>(F93j1 t0 R b1 y3 b5 n6 w7)):Cw 93 #[Qy t0] w R:=
 ckF Tryz.func93 (nd (nd (nd (.node (nd (.loop [(5,oi)] (rg [5,6,14,56]) (nd (.node (nd (nd (.loop [(6,oi)] (rg [6,6,24,56]) (nd (.node (.draw (sts [0,1,2,3,4,5,6,7,8,9,10,11,12,13,14,15,16,17,18,19,20,21,22,23,24] (.ac 25 [4,3,2,1,0] (sts [26,27] (.ac 28 [] .fin .non)) .non))) .nil))))) .nil)))) (.node (nd (.loop [(7,oi)] (rg [7,9,57,93]) (nd (.node (nd (.loop [(8,oi)] (rg [8,9,62,93]) (nd (.node (nd (.loop [(9,oi)] (rg [9,9,67,93]) .nil)) .nil)))) .nil)))) .nil))))) h (by kernel_rfl) (by kernel_rfl)
def F83j1(t0:Sl)(R:RV)(y1:Nat->Int->World->Prop)(b3:Nat)(n4:Int)(w5:World):Prop:=IfB (decide (n4<(t0.n:Int))) (Qx t0.1 n4 (t0.2:Int) fun b8 b9=>Qs w5 b8 (b9+n4.toNat*6+4) fun s10=>IfB (decide (40<(s10.n:Int))) (R (Value.bool true) w5) (Qx t0.1 n4 (t0.2:Int) fun b11 b12=>Qs w5 b11 (b12+n4.toNat*6+5) fun s13=>IfB (decide (40<(s13.n:Int))) (R (Value.bool true) w5) (Qn y1 b3 (IntKind.i64.wrap (n4+1)) w5))) (R (Value.bool (decide (40<(t0.n:Int)))) w5)
theorem F83_ok(t0:Sl)(w:World)(R:RV)(h:Ql (α:=Int) 0 w fun y1 b3 n4 w5=>(F83j1 t0 R y1 b3 n4 w5)):Cw 83 #[Qy t0] w R:=
 ckF Tryz.func83 (nd (.node (nd (.loop [(3,oi)] (rg [2,25]) .nil)) .nil)) h (by kernel_rfl) (by kernel_rfl)
theorem EdP_lt{hs:List Nd}{a b:Nat}(h:EdP hs a b):b<a/\a<hs.length:=by
 obtain⟨h1,x,y,h2,_⟩:=h
 exact⟨h1,(List.getElem?_eq_some_iff.1 h2).1⟩
theorem Dp_len{hs:List Nd}{a b:Nat}(h:Dp hs a b):a<hs.length:=by
 obtain⟨c,hc,_⟩:=h.first
 exact(EdP_lt hc).2
def Sqr(n:Nat)(rows:List MxR):Prop:=rows.length=n/\∀r∈rows,r.2.length=n
theorem Sqr.at{n i:Nat}{rows:List MxR}(h:Sqr n rows)(hi:i<n):∃r,rows[i]? =some r/\r.2.length=n/\r∈rows:=by
 have hi':i<rows.length:=by rw[h.1];exact hi
 exact⟨rows[i],List.getElem?_eq_getElem hi',h.2 _ (List.getElem_mem hi'),List.getElem_mem hi'⟩
theorem Sqr.set{n i k:Nat}{rows:List MxR}{r:MxR}(h:Sqr n rows)(hr:rows[i]? =some r)(v:Bool):Sqr n (rows.set i (r.1,r.2.set k v)):=by
 refine⟨by rw[List.length_set];exact h.1,fun s hs=>?_⟩
 rcases mem_set hs with rfl|⟨a,_,ha⟩
 ·show (r.2.set k v).length=n
  rw[List.length_set];exact h.2 r (List.mem_of_getElem? hr)
 ·exact h.2 s (List.mem_of_getElem? ha)
structure FwI(hs:List Nd)(m i k:Nat)(rows:List MxR):Prop where
 lo:∀a b,Fw (EdP hs) m a b->gM rows a b=true
 hi:∀a b,gM rows a b=true->Dp hs a b
 done:∀a b,b<hs.length->(a<i\/(a=i/\b<k))->Fw (EdP hs) (m+1) a b->gM rows a b=true
theorem Fw_lt{hs:List Nd}{m a b:Nat}(h:Fw (EdP hs) m a b):b<a/\a<hs.length:=⟨Dp_lt (Fw_tc h),Dp_len (Fw_tc h)⟩
theorem FwI.next{hs:List Nd}{m i k:Nat}{rows rows':List MxR}(h:FwI hs m i k rows)(hle:∀a b,gM rows a b=true->gM rows' a b=true)(hup:∀a b,gM rows' a b=true->Dp hs a b)
  (hik:Fw (EdP hs) (m+1) i k->gM rows' i k=true):FwI hs m i (k+1) rows':=
 ⟨fun a b hab=>hle a b (h.lo a b hab),hup,fun a b hb hab hF=>by
  by_cases he:a=i/\b=k
  ·obtain⟨rfl,rfl⟩:=he;exact hik hF
  ·exact hle a b (h.done a b hb (by omega) hF)⟩
theorem FwI.row{hs:List Nd}{m i:Nat}{rows:List MxR}(h:FwI hs m i hs.length rows):FwI hs m (i+1) 0 rows:=
 ⟨h.lo,h.hi,fun a b hb hab hF=>h.done a b hb (by omega) hF⟩
theorem FwI.stage{hs:List Nd}{m:Nat}{rows:List MxR}(h:FwI hs m hs.length 0 rows):FwI hs (m+1) 0 0 rows:=
 ⟨fun a b hab=>h.done a b (by have:=Fw_lt hab;omega) (.inl (Fw_lt hab).2) hab,h.hi,fun a b _ hab=>by omega⟩
theorem c93{w:World}{t:Sl}{hs:List Nd}(hH:Hst w t hs)(hl:hs.length<=1000):
  Cw 93 #[slV t] w fun v w'=>∃t' rows,v=slV t'/\Sqr hs.length rows/\(∀i k,gM rows i k=true↔Dp hs i k)/\Mx w' w.heap.size t' rows/\Ext w w':=by
 have hn:=hH.n
 refine F93_ok t w _ ⟨⟨by omega,by omega,by omega,by omega⟩,fun b1 w2 a2=>?_⟩
 have e2:Ext w w2:=a2.ch _
 have p2:=a2.here;have z2:=a2.size
 rw[Int.toNat_natCast,zc_all (v:=Value.slice none 0 0) (by intro x hx;simpa using hx),hn] at a2
 obtain⟨ts,hts⟩:∃ts:Sl,ts=⟨some ⟨b1,0,none⟩,hs.length,hs.length⟩:=⟨_,rfl⟩
 have hM0:Mx w2 w.heap.size ts (List.replicate hs.length (⟨none,0,0⟩,[])):=by
  have hmem:∀r∈List.replicate hs.length ((⟨none,0,0⟩,[]):MxR),r=(⟨none,0,0⟩,[]):=fun r hr=>(List.mem_replicate.1 hr).2
  refine⟨?_,fun r hr=>?_,fun r hr=>?_,fun a b r s _ hr _=>?_,fun j hj=>?_,fun r hr=>?_⟩
  ·rw[hts]
   refine OwS.new (w:=w) (T:=70) ?_ (by simp)
   rw[List.map_replicate]
   simpa using a2
  ·rw[hmem r hr];exact .nil _ _
  ·rw[hmem r hr];simp[blk]
  ·rw[hmem r (List.mem_of_getElem? hr)];simp[blk]
  ·rw[hts] at hj;simp[blk] at hj;omega
  ·rw[hmem r hr];simp[blk]
 have hslot:∀ {i:Nat},i<hs.length->(0:Int)<=(i:Int)/\(i:Int)<((((t.2:Int)).toNat:Nat):Int):=fun{i} h=>⟨by omega,by omega⟩
 have hst:∀ {i:Nat},i<hs.length->(0:Int)<=(i:Int)/\(i:Int)<(t.n:Int):=fun{i} h=>⟨by omega,by omega⟩
 have w1:∀ {i:Nat},i<hs.length->IntKind.i64.wrap ((i:Int)+1)=((i+1:Nat):Int):=fun{i} h=>by rw[wrap_of (by omega) (by omega)];rfl
 have hb1:ts.p=some ⟨b1,0,none⟩:=by rw[hts]
 have slot:∀ {W:World}{rows:List MxR}{i:Nat}{r:MxR},Mx W w.heap.size ts rows->rows[i]? =some r->W.cell? ⟨b1,0+(i:Int).toNat,none⟩=some (slV r.1):=fun{W rows i r} hM hr=>by
  obtain⟨b,hp,hc⟩:=hM.slot hr
  rw[hb1] at hp;cases hp
  rw[Int.toNat_natCast,Nat.zero_add];exact hc
 refine⟨fun m x W=>∃(i:Nat)(rows:List MxR),i<=hs.length/\m+i=hs.length/\x=(i:Int)/\rows.length=hs.length/\(∀a r,rows[a]? =some r->r.2.length=if a<i then hs.length else 0)/\(∀a b,gM rows a b=true↔a<i/\EdP hs a b)/\Mx W w.heap.size ts rows/\Ext w W,
  ⟨hs.length,0,List.replicate hs.length (⟨none,0,0⟩,[]),Nat.zero_le _,rfl,rfl,by simp,fun a r hr=>?_,fun a b=>?_,hM0,e2⟩,?_⟩
 ·rw[(List.mem_replicate.1 (List.mem_of_getElem? hr)).2];rfl
 ·unfold gM
  constructor
  ·intro h
   rw[List.getElem?_replicate] at h
   split at h
   ·rename_i r hr
    split at hr
    ·cases hr;simp at h
    ·cases hr
   ·cases h
  ·intro h;omega
 rintro m _ W g ⟨i,rows,hi,hmi,rfl,hrl,hrw,hg,hM,hE⟩
 unfold F93j1
 refine IfB.dec (fun hlt=>?_) fun hge=>?_
 ·-- a new row
  have hi':i<hs.length:=by omega
  refine⟨⟨by omega,by omega,by omega,by omega⟩,fun b10 w11 a11=>?_⟩
  have p11:=a11.here;have z11:=a11.size
  have e11:Ext W w11:=a11.ch _
  have zE:=hE.size
  rw[Int.toNat_natCast,zc_all (v:=Value.bool false) (by intro x hx;simpa using hx),hn] at a11
  have hrow:OwS w11 ⟨some ⟨b10,0,none⟩,hs.length,hs.length⟩ 1 (bvs (List.replicate hs.length false)):=by
   refine OwS.new (w:=W) (T:=4) ?_ (by simp)
   rw[show bvs (List.replicate hs.length false)=List.replicate hs.length (Value.bool false) from List.map_replicate]
   simpa using a11
  refine⟨b1,0,rfl,hslot hi',rfl,?_⟩
  rw[Int.toNat_natCast,Int.toNat_natCast,hn]
  have hM11:=hM.ext e11
  have hbk:∀j∈blk (⟨some ⟨b10,0,none⟩,hs.length,hs.length⟩:Sl),j=b10:=fun j hj=>by simpa [blk] using hj
  refine hM11.row' (by omega) hrow (fun j hj=>by have:=hbk j hj;omega) (fun j hj h=>by have:=hbk j hj;have:=hM.own.lt j h;omega) (fun r hr j hj h=>by have:=hbk j hj;have:=(hM.row r hr).lt j h;omega) hb1 fun w14 hM14 hC14=>?_
  have E14:Ext w w14:=(hE.trans e11).chN hC14 fun j e=>by omega
  have hgi:∀a b,gM (rows.set i (⟨some ⟨b10,0,none⟩,hs.length,hs.length⟩,List.replicate hs.length false)) a b=true↔(a<i/\EdP hs a b)\/(a=i/\b<0/\EdP hs i b):=fun a b=>by
   rw[gM_row (by omega)]
   by_cases ha:a=i
   ·rw[if_pos ha]
    constructor
    ·intro h;cases h
    ·rintro(h|h)<;>omega
   ·rw[if_neg ha,hg]
    constructor
    ·exact .inl
    ·rintro(h|h)
     ·exact h
     ·exact absurd h.1 ha
  refine⟨fun n x W'=>∃(k:Nat)(rows:List MxR),k<=i/\n+k=i/\x=(k:Int)/\rows.length=hs.length/\(∀a r,rows[a]? =some r->r.2.length=if a<i+1 then hs.length else 0)/\(∀a b,gM rows a b=true↔(a<i/\EdP hs a b)\/(a=i/\b<k/\EdP hs i b))/\Mx W' w.heap.size ts rows/\Ext w W',
   ⟨i,0,_,Nat.zero_le _,rfl,rfl,by rw[List.length_set];exact hrl,fun a r hr=>?_,hgi,hM14,E14⟩,?_⟩
  ·rw[List.getElem?_set] at hr
   by_cases hia:i=a
   ·subst hia
    rw[if_pos rfl,if_pos (by omega)] at hr
    cases hr
    rw[if_pos (by omega)];exact List.length_replicate
   ·rw[if_neg hia] at hr
    rw[hrw a r hr]
    by_cases h:a<i
    ·rw[if_pos h,if_pos (by omega)]
    ·rw[if_neg h,if_neg (by omega)]
  rintro n _ w19 g ⟨k,rows2,hk,hnk,rfl,hrl2,hrw2,hg2,hM2,hE2⟩
  unfold F93j2
  refine IfB.dec (fun hlt2=>?_) fun hge2=>?_
  ·have hk':k<i:=by omega
   have hk'':k<hs.length:=by omega
   have ed:=extDrew w19
   have hEd:=hE2.trans ed
   have hMd:=hM2.ext ed
   have hHd:=hH.ext hEd
   have hr:rows2[i]? =some (rows2[i]'(by omega)):=List.getElem?_eq_getElem (by omega)
   generalize rows2[i]'_=r at hr
   have hrl3:r.2.length=hs.length:=by have:=hrw2 i r hr;rwa [if_pos (by omega)] at this
   have hrm:=List.mem_of_getElem? hr
   have hrn:=hMd.rn hrm
   have ha:hs[i]? =some hs[i]:=List.getElem?_eq_getElem hi'
   have hb:hs[k]? =some hs[k]:=List.getElem?_eq_getElem hk''
   generalize hs[i]=na at ha
   generalize hs[k]=nb at hb
   obtain⟨x1,o1,hp1,hc1⟩:=hHd.at ha
   obtain⟨x2,o2,hp2,hc2⟩:=hHd.at hb
   obtain⟨bb,hpb,_⟩:=hMd.cell hrm (gM_get hr (k:=k) (by omega))
   have hset:∀v:Bool,(v=true↔EdP hs i k)->∀a b,gM (rows2.set i (r.1,r.2.set k v)) a b=true↔(a<i/\EdP hs a b)\/(a=i/\b<k+1/\EdP hs i b):=fun v hv a b=>by
    rw[gM_set hr (by omega)]
    by_cases hab:a=i/\b=k
    ·rw[if_pos hab,hv]
     obtain⟨rfl,rfl⟩:=hab
     constructor
     ·exact fun h=>.inr ⟨rfl,by omega,h⟩
     ·rintro(h|h)
      ·exact h.2
      ·exact h.2.2
    ·rw[if_neg hab,hg2]
     refine or_congr Iff.rfl (and_congr_right fun hai=>and_congr_left fun _=>?_)
     have:b≠k:=fun h=>hab ⟨hai,h⟩
     omega
   have hlen:∀v:Bool,∀a r',(rows2.set i (r.1,r.2.set k v))[a]? =some r'->r'.2.length=if a<i+1 then hs.length else 0:=fun v a r' hr'=>by
    rw[List.getElem?_set] at hr'
    by_cases hia:i=a
    ·subst hia
     rw[if_pos rfl,if_pos (by omega)] at hr'
     cases hr'
     rw[if_pos (by omega)]
     show (r.2.set k v).length=_
     rw[List.length_set];exact hrl3
    ·rw[if_neg hia] at hr';exact hrw2 a r' hr'
   have fin:∀(v:Bool),(v=true↔EdP hs i k)->∀W2,Ext w19.drew W2->StoreP W2 bb (0+(k:Int).toNat) [.bool v] fun w33=>([]:List Nat)=[]/\∃b34,b34<n/\∃(k':Nat)(rows:List MxR),k'<=i/\b34+k'=i/\IntKind.i64.wrap ((k:Int)+1)=(k':Int)/\rows.length=hs.length/\(∀a r,rows[a]? =some r->r.2.length=if a<i+1 then hs.length else 0)/\(∀a b,gM rows a b=true↔(a<i/\EdP hs a b)\/(a=i/\b<k'/\EdP hs i b))/\Mx w33 w.heap.size ts rows/\Ext w w33:=fun v hv W2 eW=>by
    rw[Int.toNat_natCast]
    refine(hMd.ext eW).put hr (by omega) hpb fun w' hM' hC'=>⟨rfl,n-1,by omega,k+1,_,hk',by omega,w1 hk'',by rw[List.length_set];exact hrl2,hlen v,hset v hv,hM',(hEd.trans eW).chN hC' fun j e=>?_⟩
    exact hM2.rnew r hrm j (by simp[blk,hpb,e])
   unfold F93k1
   refine⟨b1,0,rfl,hslot hi',r.1,slot hMd hr,x1,o1,hp1,hst hi',na.v.1,by rw[Int.toNat_natCast];exact hc1 0 _ rfl,x2,o2,hp2,hst hk'',nb.v.1,by rw[Int.toNat_natCast];exact hc2 0 _ rfl,IfB.intro (fun he=>?_) fun hne=>?_⟩
   ·have he:na.v.1=nb.v.1:=by simpa using he
    exact⟨slot hMd hr,bb,0,hpb,⟨by omega,by show (k:Int)<(r.1.n:Int);omega⟩,rfl,fin true ⟨fun _=>⟨hk',na,nb,ha,hb,.inl he⟩,fun _=>rfl⟩ _ (Ch.refl _ _)⟩
   ·have hne:na.v.1≠nb.v.1:=by simpa using hne
    refine⟨x1,o1,hp1,hst hi',na.v,by rw[Int.toNat_natCast];exact hc1,x2,o2,hp2,hst hk'',nb.v,by rw[Int.toNat_natCast];exact hc2,(c36 (hHd.get ha) (hHd.get hb)).use ?_⟩
    rintro _ w42 ⟨v,rfl,hv,e42⟩
    refine⟨v,rfl,slot (hMd.ext e42) hr,bb,0,hpb,⟨by omega,by show (k:Int)<(r.1.n:Int);omega⟩,rfl,fin v ?_ _ e42⟩
    rw[hv]
    constructor
    ·exact fun h=>⟨hk',na,nb,ha,hb,.inr h⟩
    ·rintro⟨_,x,y,hx,hy,hd⟩
     rw[ha] at hx;rw[hb] at hy
     cases hx;cases hy
     exact hd.resolve_left hne
  ·have hk':k=i:=by omega
   subst hk'
   refine⟨rfl,m-1,by omega,k+1,rows2,hi',by omega,w1 hi',hrl2,hrw2,fun a b=>?_,hM2,hE2⟩
   rw[hg2]
   constructor
   ·rintro(h|⟨rfl,_,h⟩)
    ·exact⟨by omega,h.2⟩
    ·exact⟨by omega,h⟩
   ·rintro⟨h1,h2⟩
    by_cases ha:a=k
    ·subst ha;exact .inr ⟨rfl,h2.1,h2⟩
    ·exact .inl ⟨by omega,h2⟩
 ·-- ways
  have hi':i=hs.length:=by omega
  subst hi'
  have hsq:Sqr hs.length rows:=⟨hrl,fun r hr=>by
   obtain⟨a,ha,e⟩:=List.getElem_of_mem hr
   have:=hrw a r (by rw[List.getElem?_eq_getElem ha,e])
   rwa [if_pos (by omega)] at this⟩
  have hF0:FwI hs 0 0 0 rows:=⟨fun a b h=>(hg a b).2 ⟨(EdP_lt h).2,h⟩,fun a b h=>.one ((hg a b).1 h).2,fun a b _ hab=>by omega⟩
  refine⟨fun n x W'=>∃(m:Nat)(rows:List MxR),m<=hs.length/\n+m=hs.length/\x=(m:Int)/\Sqr hs.length rows/\FwI hs m 0 0 rows/\Mx W' w.heap.size ts rows/\Ext w W',⟨hs.length,0,rows,Nat.zero_le _,rfl,rfl,hsq,hF0,hM,hE⟩,?_⟩
  rintro n _ w53 g ⟨m,rows3,hm,hnm,rfl,hsq3,hF3,hM3,hE3⟩
  unfold F93j3
  refine IfB.dec (fun hlt=>?_) fun hge=>?_
  ·have hm':m<hs.length:=by omega
   refine⟨fun q x W'=>∃(i:Nat)(rows:List MxR),i<=hs.length/\q+i=hs.length/\x=(i:Int)/\Sqr hs.length rows/\FwI hs m i 0 rows/\Mx W' w.heap.size ts rows/\Ext w W',⟨hs.length,0,rows3,Nat.zero_le _,rfl,rfl,hsq3,hF3,hM3,hE3⟩,?_⟩
   rintro q _ w60 g ⟨i,rows4,hi,hqi,rfl,hsq4,hF4,hM4,hE4⟩
   refine IfB.dec (fun hlt2=>?_) fun hge2=>?_
   ·have hi':i<hs.length:=by omega
    refine⟨fun s x W'=>∃(k:Nat)(rows:List MxR),k<=hs.length/\s+k=hs.length/\x=(k:Int)/\Sqr hs.length rows/\FwI hs m i k rows/\Mx W' w.heap.size ts rows/\Ext w W',⟨hs.length,0,rows4,Nat.zero_le _,rfl,rfl,hsq4,hF4,hM4,hE4⟩,?_⟩
    rintro s _ w67 g ⟨k,rows5,hk,hsk,rfl,hsq5,hF5,hM5,hE5⟩
    unfold F93j5
    refine IfB.dec (fun hlt3=>?_) fun hge3=>?_
    ·have hk':k<hs.length:=by omega
     obtain⟨ri,hri,hril,hrim⟩:=hsq5.at hi'
     obtain⟨rm,hrm,hrml,hrmm⟩:=hsq5.at hm'
     have hin:=hM5.rn hrim
     have hmn:=hM5.rn hrmm
     obtain⟨c1,hp1,hc1⟩:=hM5.cell hrim (gM_get hri (k:=m) (by omega))
     obtain⟨c2,hp2,hc2⟩:=hM5.cell hrmm (gM_get hrm (k:=k) (by omega))
     have stay:(Fw (EdP hs) (m+1) i k->gM rows5 i k=true)->∃b90,b90<s/\∃(k':Nat)(rows:List MxR),k'<=hs.length/\b90+k'=hs.length/\IntKind.i64.wrap ((k:Int)+1)=(k':Int)/\Sqr hs.length rows/\FwI hs m i k' rows/\Mx w67 w.heap.size ts rows/\Ext w w67:=fun h=>
      ⟨s-1,by omega,k+1,rows5,hk',by omega,w1 hk',hsq5,hF5.next (fun _ _ h=>h) hF5.hi h,hM5,hE5⟩
     refine⟨b1,0,rfl,hslot hi',ri.1,slot hM5 hri,c1,0,hp1,⟨by omega,by show (m:Int)<(ri.1.n:Int);omega⟩,gM rows5 i m,by rw[Int.toNat_natCast,Nat.zero_add];exact hc1,IfB.intro (fun h1=>?_) fun h1=>⟨rfl,stay fun hF=>?_⟩⟩
     ·refine⟨b1,0,rfl,hslot hm',rm.1,slot hM5 hrm,c2,0,hp2,⟨by omega,by show (k:Int)<(rm.1.n:Int);omega⟩,gM rows5 m k,by rw[Int.toNat_natCast,Nat.zero_add];exact hc2,IfB.intro (fun h2=>?_) fun h2=>⟨rfl,stay fun hF=>?_⟩⟩
      ·refine⟨b1,0,rfl,hslot hi',ri.1,slot hM5 hri,c1,0,hp1,⟨by omega,by show (k:Int)<(ri.1.n:Int);omega⟩,rfl,?_⟩
       rw[Int.toNat_natCast]
       have hup:=(hF5.hi _ _ h1).trans (hF5.hi _ _ h2)
       have hset:=gM_set hri (k:=k) (by omega) true
       refine hM5.put hri (by omega) hp1 fun w' hM' hC'=>⟨rfl,s-1,by omega,k+1,_,hk',by omega,w1 hk',hsq5.set hri _,hF5.next (fun a b h=>?_) (fun a b h=>?_) (fun _=>?_),hM',hE5.chN hC' fun j e=>hM5.rnew ri hrim j (by simp[blk,hp1,e])⟩
       ·rw[hset];split
        ·rfl
        ·exact h
       ·rw[hset] at h
        split at h
        ·rename_i hab;rw[hab.1,hab.2];exact hup
        ·exact hF5.hi a b h
       ·rw[hset,if_pos ⟨rfl,rfl⟩]
      ·rcases hF with hF|hF
       ·exact hF5.lo _ _ hF
       ·rw[hF5.lo _ _ hF.2] at h2;cases h2
     ·rcases hF with hF|hF
      ·exact hF5.lo _ _ hF
      ·rw[hF5.lo _ _ hF.1] at h1;cases h1
    ·have hk':k=hs.length:=by omega
     subst hk'
     exact⟨rfl,q-1,by omega,i+1,rows5,hi',by omega,w1 hi',hsq5,hF5.row,hM5,hE5⟩
   ·have hi':i=hs.length:=by omega
    subst hi'
    exact⟨rfl,n-1,by omega,m+1,rows4,hm',by omega,w1 hm',hsq4,hF4.stage,hM4,hE4⟩
  ·have hm':m=hs.length:=by omega
   subst hm'
   refine⟨ts,rows3,?_,hsq3,fun a b=>⟨hF3.hi a b,fun h=>hF3.lo a b ((Fw_iff fun a b h=>by have:=EdP_lt h;omega).2 h)⟩,hM3,hE3⟩
   rw[hts,Int.toNat_natCast,hn]
def GrtP(hs:List Nd):Prop:=(∃n∈hs,40<n.rs.length\/40<n.ws.length)\/40<hs.length
theorem c83{w:World}{t:Sl}{hs:List Nd}(hr:Rd w t 6 (hs.flatMap nL))(hn:∀n∈hs,n.v.2.2.2.2.1.n=n.rs.length/\n.v.2.2.2.2.2.n=n.ws.length)(hl:hs.length<=9223372036854775807):
  Cw 83 #[slV t] w fun v w'=>∃r,v=.bool r/\(r=true↔GrtP hs)/\w=w':=by
 have htn:=rdN nL_len (by omega) hr
 refine F83_ok t w _ ⟨fun m x W=>∃i:Nat,i<=hs.length/\m+i=hs.length/\x=(i:Int)/\w=W/\∀n∈hs.take i,¬(40<n.rs.length\/40<n.ws.length),⟨hs.length,0,Nat.zero_le _,rfl,rfl,rfl,by simp⟩,?_⟩
 rintro m _ _ g ⟨i,hi,hmi,rfl,rfl,hno⟩
 unfold F83j1
 refine IfB.dec (fun hlt=>?_) fun hge=>?_
 ·have hi':i<hs.length:=by omega
  have hx:hs[i]? =some hs[i]:=List.getElem?_eq_getElem hi'
  have htk:=take_succ_get hx
  generalize hs[i]=x at hx htk
  have hxm:=List.mem_of_getElem? hx
  obtain⟨hnr,hnw⟩:=hn x hxm
  obtain⟨b,o,hp,hc⟩:=hr.elem (i:=i) (by omega) (by omega) (flatGet nL_len hx)
  have hb:(0:Int)<=(i:Int)/\(i:Int)<(t.n:Int):=⟨by omega,by omega⟩
  refine⟨b,o,hp,hb,x.v.2.2.2.2.1,by rw[Int.toNat_natCast];exact hc 4 _ rfl,IfB.dec (fun h=>⟨true,rfl,⟨fun _=>.inl ⟨x,hxm,.inl (by omega)⟩,fun _=>rfl⟩,rfl⟩) fun h1=>⟨b,o,hp,hb,x.v.2.2.2.2.2,by rw[Int.toNat_natCast];exact hc 5 _ rfl,IfB.dec (fun h=>⟨true,rfl,⟨fun _=>.inl ⟨x,hxm,.inr (by omega)⟩,fun _=>rfl⟩,rfl⟩) fun h2=>⟨rfl,m-1,by omega,i+1,hi',by omega,by rw[wrap_of (by omega) (by omega)];rfl,rfl,fun n hn'=>?_⟩⟩⟩
  rw[htk] at hn'
  rcases List.mem_append.1 hn' with h|h
  ·exact hno n h
  ·rw[List.mem_singleton.1 h];omega
 ·have hi':i=hs.length:=by omega
  subst hi'
  rw[List.take_length] at hno
  refine⟨_,rfl,?_,rfl⟩
  rw[decide_eq_true_eq]
  unfold GrtP
  constructor
  ·exact fun h=>.inr (by omega)
  ·rintro(⟨n,hn,h⟩|h)
   ·exact absurd h (hno n hn)
   ·omega
abbrev nilS:Sl:=⟨none,0,0⟩
abbrev tySp:Ty:=.pair (.int .i64) (.int .i64)
abbrev tyNd:Ty:=.pair (.int .i64) (.pair (.int .i64) (.pair (.int .i64) (.pair .bool (.pair (.sl tySp) (.sl tySp)))))
theorem pickAll{α:Type}{f:α->List Value}{Q:α->Prop}:∀ {css:List (List Value)},(∀c∈css,∃n,c=f n/\Q n)->∃ns:List α,css=ns.map f/\∀n∈ns,Q n
 | [],_=>⟨[],rfl,by simp⟩
 | c::css,h=>by
  obtain⟨n,hn,hq⟩:=h c (by simp)
  obtain⟨ns,hns,hqs⟩:=pickAll (css:=css) fun c hc=>h c (List.mem_cons_of_mem _ hc)
  exact⟨n::ns,by rw[hn,hns];rfl,fun m hm=>(List.mem_cons.1 hm).elim (fun e=>e ▸ hq) (hqs m)⟩
theorem rep_each{A:Nat->Prop}{w:World}{e:Ty}{l:List e.den}{css:List (List Value)}(hl:css.length=l.length)(hr:∀(i:Nat) c x,css[i]? =some c->l[i]? =some x->rep A w e x c):∀c∈css,∃x,rep A w e x c:=fun c hc=>by
 obtain⟨i,hi,rfl⟩:=List.getElem_of_mem hc
 exact⟨_,hr i _ _ (List.getElem?_eq_getElem hi) (List.getElem?_eq_getElem (by omega))⟩
theorem rep_spans{A:Nat->Prop}{w:World}{l:List tySp.den}{cs:List Value}(h:rep A w (.sl tySp) l cs):∃(s:Sl)(xs:List Spn),cs=[slV s]/\Rd w s 2 (xs.flatMap sv)/\s.n<=s.c/\s.n<=maxLen:=by
 obtain⟨s,rfl,h1,h2,h3,h4,css,h5,h6,h7⟩:=h
 obtain⟨ns,hns,_⟩:=pickAll (f:=sv) (Q:=fun _=>True) fun c hc=>by
  obtain⟨x,c1,c2,rfl,hx1,hx2⟩:=rep_each h5 h6 c hc
  obtain⟨rfl,_⟩:=hx1
  obtain⟨rfl,_⟩:=hx2
  exact⟨x,rfl,trivial⟩
 refine⟨s,ns,rfl,?_,h2,h3⟩
 rw[List.flatMap_def,<-hns];exact h7
structure NdIn(w:World)(n:Nd):Prop where
 rs:Rd w n.v.2.2.2.2.1 2 (n.rs.flatMap sv)
 ws:Rd w n.v.2.2.2.2.2 2 (n.ws.flatMap sv)
theorem NdIn.rn{w:World}{n:Nd}(h:NdIn w n):n.v.2.2.2.2.1.n=n.rs.length/\n.v.2.2.2.2.2.n=n.ws.length:=⟨rdN sv_len (by omega) h.rs,rdN sv_len (by omega) h.ws⟩
theorem NdIn.ext{w w':World}{n:Nd}(h:NdIn w n)(e:Ext w w'):NdIn w' n:=⟨h.rs.ext e,h.ws.ext e⟩
structure HIn(w:World)(t:Sl)(hs:List Nd):Prop where
 rd:Rd w t 6 (hs.flatMap nL)
 nd:∀n∈hs,NdIn w n
 cap:t.n<=t.c
 len:hs.length<=maxLen
theorem HIn.n{w:World}{t:Sl}{hs:List Nd}(h:HIn w t hs):t.n=hs.length:=rdN nL_len (by omega) h.rd
theorem HIn.ext{w w':World}{t:Sl}{hs:List Nd}(h:HIn w t hs)(e:Ext w w'):HIn w' t hs:=⟨h.rd.ext e,fun n hn=>(h.nd n hn).ext e,h.cap,h.len⟩
theorem HIn.hst{w:World}{t:Sl}{hs:List Nd}(h:HIn w t hs)(hg:¬GrtP hs):Hst w t hs:=by
 refine⟨h.rd,fun n hn=>⟨(h.nd n hn).rs,(h.nd n hn).ws,?_,?_⟩,?_,h.cap⟩
 ·have:¬40<n.rs.length:=fun h'=>hg (.inl ⟨n,hn,.inl h'⟩)
  omega
 ·have:¬40<n.ws.length:=fun h'=>hg (.inl ⟨n,hn,.inr h'⟩)
  omega
 ·have:¬40<hs.length:=fun h'=>hg (.inr h')
  omega
theorem maxLen_le:maxLen<=9223372036854775807:=by decide+kernel
end Go.Proofs.YtlpgdngcgbeegaaGreat.Gx
