/- Merged by pack.py: RefB, GxOF, UntA, KeyC, GxNQ, GxLK, IntK, GxN, DepA, UntB, UntC, GxOH, RefC, RefD, DepB, GxLC, IntC, GxLX, IntX, DepC, GxNR, DepD, MxA, GxNT, DepE, DepF, GxNL, DepG, GxOI, GreA, GxOJ, RsgA, SrAI, GxSGA, SrAJ, RsgB, ArcC. -/
import Derived.Test.YtlpgdngcgbeegaaGreatIp1
import Derived.Test.YtlpgdngcgbeegaaGreatIp2
import Derived.Test.YtlpgdngcgbeegaaGreatIp3
import Derived.Test.YtlpgdngcgbeegaaGreatIp4
namespace Go.Proofs.YtlpgdngcgbeegaaGreat.Gx
open Go
set_option linter.unusedSimpArgs false
set_option linter.unusedVariables false
theorem c172{w:World}{t:Sl}{l:List InsD}(h:Rd w t 9 (l.flatMap insC))(n:Int):Cw 172 #[slV t,iv n] w fun v w'=>∃r,v=.bool r/\(r=true↔CodeOk l n)/\Ext w w':=by
 have hn:=rdN insC_len (by omega) h
 have no:∀ {V:World},¬CodeOk l n->Ext w V->∃b,Value.bool false=.bool b/\(b=true↔CodeOk l n)/\Ext w V:=fun h e=>⟨false,rfl,⟨fun h=>(by cases h),fun h'=>absurd h' h⟩,e⟩
 have r0:=Ch.refl (fun _=>False) w
 refine F172_ok t n w _ (IfB.dec (fun h1=>no (fun k=>by have:=k.n0;omega) r0) fun h1=>IfB.dec (fun h2=>no (fun k=>by have:=k.n3;omega) r0) fun h2=>IfB.dec (fun h3=>no (fun k=>by have:=k.l1;omega) r0) fun h3=>IfB.dec (fun h4=>no (fun k=>by have:=k.l8;omega) r0) fun h4=>⟨fun m x W=>∃i:Nat,i<=l.length/\m+i=l.length/\x=(i:Int)/\(∀y∈l.take i,InsOk y n)/\Ext w W,⟨l.length,0,Nat.zero_le _,rfl,rfl,by simp,r0⟩,?_⟩)
 rintro m _ W g ⟨i,hi,hm,rfl,ha,e⟩
 unfold F172j1
 refine IfB.dec (fun hlt=>?_) fun hge=>?_
 ·have hi':i<l.length:=by omega
  have hx:l[i]? =some l[i]:=List.getElem?_eq_getElem hi'
  have hxm:l[i]∈l:=List.getElem_mem hi'
  have htk:=take_succ_get hx
  generalize l[i]=y at hx hxm htk
  obtain⟨b,o,hp,hc⟩:=(h.ext e).elem (i:=i) (by omega) (by omega) (flatGet insC_len hx)
  refine⟨b,o,hp,⟨by omega,by omega⟩,insX y,by rw[Int.toNat_natCast];exact hc,(c218 y n W).use ?_⟩
  rintro _ w12 ⟨r,rfl,hr,e12⟩
  refine⟨r,rfl,IfB.intro (fun h5=>no (fun k=>?_) (e.trans e12)) fun h5=>⟨rfl,m-1,by omega,i+1,hi',by omega,by rw[wrap_of (by omega) (by omega)];rfl,?_,e.trans e12⟩⟩
  ·have h5:r=false:=by simpa using h5
   rw[hr.2 (k.all _ hxm)] at h5;cases h5
  ·have h5:r=true:=by simpa using h5
   rw[htk];intro z hz
   rcases List.mem_append.1 hz with hz|hz
   ·exact ha z hz
   ·rw[List.mem_singleton.1 hz];exact hr.1 h5
 ·have hi':i=l.length:=by omega
  subst hi'
  rw[List.take_length] at ha
  exact⟨true,rfl,⟨fun _=>⟨by omega,by omega,by omega,by omega,ha⟩,fun _=>rfl⟩,e⟩
theorem c173{w:World}{t:Sl}{l:List SpTD}(h:Rd w t 5 (l.flatMap spTC))(n:Int):Cw 173 #[slV t,iv n] w fun v w'=>∃r,v=.bool r/\(r=true↔FootOk l n)/\Ext w w':=by
 have hn:=rdN spTC_len (by omega) h
 have no:∀ {V:World},¬FootOk l n->Ext w V->∃b,Value.bool false=.bool b/\(b=true↔FootOk l n)/\Ext w V:=fun h e=>⟨false,rfl,⟨fun h=>(by cases h),fun h'=>absurd h' h⟩,e⟩
 have r0:=Ch.refl (fun _=>False) w
 refine F173_ok t n w _ (IfB.dec (fun h1=>no (fun k=>by have:=k.n0;omega) r0) fun h1=>IfB.dec (fun h2=>no (fun k=>by have:=k.n3;omega) r0) fun h2=>IfB.dec (fun h4=>no (fun k=>by have:=k.l4;omega) r0) fun h4=>⟨fun m x W=>∃i:Nat,i<=l.length/\m+i=l.length/\x=(i:Int)/\(∀s∈l.take i,KeyOk s.1 n/\KeyOk s.2.1 n)/\Ext w W,⟨l.length,0,Nat.zero_le _,rfl,rfl,by simp,r0⟩,?_⟩)
 rintro m _ W g ⟨i,hi,hm,rfl,ha,e⟩
 unfold F173j1
 refine IfB.dec (fun hlt=>?_) fun hge=>?_
 ·have hi':i<l.length:=by omega
  have hx:l[i]? =some l[i]:=List.getElem?_eq_getElem hi'
  have hxm:l[i]∈l:=List.getElem_mem hi'
  have htk:=take_succ_get hx
  generalize l[i]=y at hx hxm htk
  obtain⟨b,o,hp,hc⟩:=(h.ext e).elem (i:=i) (by omega) (by omega) (flatGet spTC_len hx)
  have hc1:CellsAt W b (o+i*5) (keyC y.1++(keyC y.2.1++[.bool y.2.2])):=hc
  refine⟨b,o,hp,⟨by omega,by omega⟩,y.1,by rw[Int.toNat_natCast];exact hc1.left,(c219 y.1 n W).use ?_⟩
  rintro _ w12 ⟨r,rfl,hr,e12⟩
  refine⟨r,rfl,IfB.intro (fun h5=>no (fun k=>?_) (e.trans e12)) fun h5=>?_⟩
  ·have h5:r=false:=by simpa using h5
   rw[hr.2 (k.all _ hxm).1] at h5;cases h5
  have h5:r=true:=by simpa using h5
  have e':Ext w w12:=e.trans e12
  obtain⟨b2,o2,hp2,hc2⟩:=(h.ext e').elem (i:=i) (by omega) (by omega) (flatGet spTC_len hx)
  have hc2:CellsAt w12 b2 (o2+i*5) (keyC y.1++(keyC y.2.1++[.bool y.2.2])):=hc2
  refine⟨b2,o2,hp2,⟨by omega,by omega⟩,y.2.1,by rw[Int.toNat_natCast];exact hc2.right.left,(c219 y.2.1 n w12).use ?_⟩
  rintro _ w18 ⟨r2,rfl,hr2,e18⟩
  refine⟨r2,rfl,IfB.intro (fun h6=>no (fun k=>?_) (e'.trans e18)) fun h6=>⟨rfl,m-1,by omega,i+1,hi',by omega,by rw[wrap_of (by omega) (by omega)];rfl,?_,e'.trans e18⟩⟩
  ·have h6:r2=false:=by simpa using h6
   rw[hr2.2 (k.all _ hxm).2] at h6;cases h6
  ·have h6:r2=true:=by simpa using h6
   rw[htk];intro z hz
   rcases List.mem_append.1 hz with hz|hz
   ·exact ha z hz
   ·rw[List.mem_singleton.1 hz];exact⟨hr.1 h5,hr2.1 h6⟩
 ·have hi':i=l.length:=by omega
  subst hi'
  rw[List.take_length] at ha
  exact⟨true,rfl,⟨fun _=>⟨by omega,by omega,by omega,ha⟩,fun _=>rfl⟩,e⟩
theorem c115{w:World}{v:ClsV}{x:ClsD}(h:ClsM w v x):Cw 115 #[clV v] w fun v w'=>∃r,v=.bool r/\(r=true↔ClsOk x)/\Ext w w':=by
 refine F115_ok v w _ fun b1 w2 a2=>?_
 have e2:Ext w w2:=a2.ch _
 have q:=fun{W:World} (o:Nat) (e:Ext w2 W)=>boxAt (cs:=clsC v) a2.new o e
 have r2:=Ch.refl (fun _=>False) w2
 have hsn:=h.st.n
 have hcn:=h.co.n
 have hnm:=h.nm
 have har:=h.ar
 have no:∀ {V:World},¬ClsOk x->Ext w2 V->∃r,Value.bool false=.bool r/\(r=true↔ClsOk x)/\Ext w V:=fun h e=>⟨false,rfl,⟨fun h=>(by cases h),fun h'=>absurd h' h⟩,e2.trans e⟩
 refine⟨_,q 2 r2,_,q 0 r2,IfB.dec (fun c1=>no (fun k=>?_) r2) fun c1=>⟨_,q 0 r2,IfB.dec (fun c2=>no (fun k=>?_) r2) fun c2=>⟨_,q 1 r2,IfB.dec (fun c3=>no (fun k=>?_) r2) fun c3=>⟨_,q 1 r2,IfB.dec (fun c4=>no (fun k=>?_) r2) fun c4=>IfB.dec (fun c5=>no (fun k=>?_) r2) fun c5=>IfB.dec (fun c6=>no (fun k=>?_) r2) fun c6=>⟨_,q 3 r2,IfB.intro (fun c7=>no (fun k=>?_) r2) fun c7=>?_⟩⟩⟩⟩⟩
 ·have:=k.s1;rw[hnm] at c1;omega
 ·have:=k.s16;rw[hnm] at c2;omega
 ·have:=k.a0;rw[har] at c3;omega
 ·have:=k.a3;rw[har] at c4;omega
 ·have:=k.l1;have c5:(v.2.2.1.n:Int)<1:=c5;omega
 ·have:=k.l4;have c6:4<(v.2.2.1.n:Int):=c6;omega
 ·have:=k.cl
  have c7:(v.2.2.2.1.n:Int)≠(v.2.2.1.n:Int):=by simpa using c7
  omega
 have c5:¬(v.2.2.1.n:Int)<1:=c5
 have c6:¬4<(v.2.2.1.n:Int):=c6
 have c7:(v.2.2.2.1.n:Int)=(v.2.2.1.n:Int):=by simpa using c7
 have qn:∀ {V:World},Ext w2 V->V.cell? ⟨b1,0+1,none⟩=some (iv x.2.1):=fun e=>by rw[<-har];exact q 1 e
 let Ok:Nat->Prop:=fun n=>∀i,i<n->∀s c,x.2.2.1[i]? =some s->x.2.2.2.1[i]? =some c->CodeOk s.1 x.2.1/\FootOk s.2 x.2.1/\CompOk c x.2.1
 refine⟨fun m y W=>∃i:Nat,i<=x.2.2.1.length/\m+i=x.2.2.1.length/\y=(i:Int)/\Ok i/\Ext w2 W,⟨_,0,Nat.zero_le _,rfl,rfl,fun i hi=>absurd hi (Nat.not_lt_zero _),r2⟩,?_⟩
 rintro m _ W g ⟨i,hi,hm,rfl,hOk,e⟩
 unfold F115j1
 have hcl:x.2.2.2.1.length=x.2.2.1.length:=by omega
 refine IfB.dec (fun hlt=>?_) fun hge=>?_
 ·have hlt:(i:Int)<(v.2.2.1.n:Int):=hlt
  have hi1:i<x.2.2.1.length:=by omega
  have hi2:i<x.2.2.2.1.length:=by omega
  have hx1:x.2.2.1[i]? =some x.2.2.1[i]:=List.getElem?_eq_getElem hi1
  have hx2:x.2.2.2.1[i]? =some x.2.2.2.1[i]:=List.getElem?_eq_getElem hi2
  have hm1:x.2.2.1[i]∈x.2.2.1:=List.getElem_mem hi1
  have hm2:x.2.2.2.1[i]∈x.2.2.2.1:=List.getElem_mem hi2
  generalize x.2.2.1[i]=s1 at hx1 hm1
  generalize x.2.2.2.1[i]=s2 at hx2 hm2
  have ed:=extDrew W
  have eD:Ext w2 W.drew:=e.trans ed
  have G1:=fun{V:World} (e':Ext w2 V)=>StsR.at (SlR.ext h.st (e2.trans e')) hx1
  have G2:=fun{V:World} (e':Ext w2 V)=>StsR.at (SlR.ext h.co (e2.trans e')) hx2
  unfold F115k1
  obtain⟨b3,o3,t3,hp3,hc3,hS3⟩:=G1 eD
  refine⟨_,q 2 eD,b3,o3,hp3,⟨by omega,hlt⟩,t3.1,by rw[Int.toNat_natCast];exact hc3 0 _ rfl,_,qn eD,(c172 hS3.code _).use ?_⟩
  rintro _ w22 ⟨q1,rfl,hq1,e22⟩
  have E22:=eD.trans e22
  refine⟨q1,rfl,IfB.intro (fun h1=>no (fun k=>?_) E22) fun h1=>?_⟩
  ·have h1:q1=false:=by simpa using h1
   rw[hq1.2 (k.st _ hm1).1] at h1;cases h1
  have k1:=hq1.1 (by simpa using h1)
  obtain⟨b4,o4,t4,hp4,hc4,hS4⟩:=G1 E22
  refine⟨_,q 2 E22,b4,o4,hp4,⟨by omega,hlt⟩,t4.2,by rw[Int.toNat_natCast];exact hc4 1 _ rfl,_,qn E22,(c173 hS4.foot _).use ?_⟩
  rintro _ w30 ⟨q2,rfl,hq2,e30⟩
  have E30:=E22.trans e30
  refine⟨q2,rfl,IfB.intro (fun h2=>no (fun k=>?_) E30) fun h2=>?_⟩
  ·have h2:q2=false:=by simpa using h2
   rw[hq2.2 (k.st _ hm1).2] at h2;cases h2
  have k2:=hq2.1 (by simpa using h2)
  have hlt':(i:Int)<(v.2.2.2.1.n:Int):=by omega
  obtain⟨b5,o5,t5,hp5,hc5,hS5⟩:=G2 E30
  refine⟨_,q 3 E30,b5,o5,hp5,⟨by omega,hlt'⟩,t5.2,by rw[Int.toNat_natCast];exact hc5 1 _ rfl,_,qn E30,(c173 hS5.foot _).use ?_⟩
  rintro _ w38 ⟨q3,rfl,hq3,e38⟩
  have E38:=E30.trans e38
  refine⟨q3,rfl,IfB.intro (fun h3=>no (fun k=>?_) E38) fun h3=>?_⟩
  ·have h3:q3=false:=by simpa using h3
   rw[hq3.2 (k.co _ hm2).2] at h3;cases h3
  have k3:=hq3.1 (by simpa using h3)
  obtain⟨b6,o6,t6,hp6,hc6,hS6⟩:=G2 E38
  have fin:∀ {V:World},Ext w2 V->(s2.1=[]\/CodeOk s2.1 x.2.1/\∀y∈s2.1,y.1<6)->([]:List Nat)=[]/\∃b,b<m/\∃i':Nat,i'<=x.2.2.1.length/\b+i'=x.2.2.1.length/\IntKind.i64.wrap ((i:Int)+1)=(i':Int)/\Ok i'/\Ext w2 V:=fun eV hC=>⟨rfl,m-1,by omega,i+1,hi1,by omega,by rw[wrap_of (by omega) (by omega)];rfl,fun j hj s c hs hc=>by
   rcases Nat.lt_or_ge j i with h'|h'
   ·exact hOk j h' s c hs hc
   ·have:j=i:=by omega
    subst this
    rw[hx1] at hs;rw[hx2] at hc
    cases hs;cases hc
    exact⟨k1,k2,hC,k3⟩,eV⟩
  have h6n:=hS6.cn
  refine⟨_,q 3 E38,b6,o6,hp6,⟨by omega,hlt'⟩,t6.1,by rw[Int.toNat_natCast];exact hc6 0 _ rfl,IfB.dec (fun h4=>?_) fun h4=>?_⟩
  ·refine⟨_,qn E38,(c172 hS6.code _).use ?_⟩
   rintro _ w46 ⟨q4,rfl,hq4,e46⟩
   have E46:=E38.trans e46
   have hne:s2.1≠[]:=fun h=>by rw[h] at h6n;simp at h6n;omega
   refine⟨q4,rfl,IfB.intro (fun h5=>no (fun k=>?_) E46) fun h5=>?_⟩
   ·have h5:q4=false:=by simpa using h5
    rw[hq4.2 ((k.co _ hm2).1.resolve_left hne).1] at h5;cases h5
   have k4:=hq4.1 (by simpa using h5)
   refine⟨fun m' y V=>∃k:Nat,k<=s2.1.length/\m'+k=s2.1.length/\y=(k:Int)/\(∀z∈s2.1.take k,z.1<6)/\Ext w46 V,⟨_,0,Nat.zero_le _,rfl,rfl,by simp,Ch.refl _ _⟩,?_⟩
   rintro m' _ V g' ⟨k,hk,hmk,rfl,hz,eV⟩
   have EV:Ext w2 V:=E46.trans eV
   have k48:=k4.l8
   unfold F115j2
   refine IfB.dec (fun hl=>?_) fun hg=>?_
   ·have hk':k<s2.1.length:=by omega
    have hx:s2.1[k]? =some s2.1[k]:=List.getElem?_eq_getElem hk'
    have hxm:s2.1[k]∈s2.1:=List.getElem_mem hk'
    have htk:=take_succ_get hx
    generalize s2.1[k]=y at hx hxm htk
    obtain⟨b,o,hp,hc⟩:=((hS6.code.ext e46).ext eV).elem (i:=k) (by omega) (by omega) (flatGet insC_len hx)
    refine⟨b,o,hp,⟨by omega,by omega⟩,y.1,by rw[Int.toNat_natCast];exact hc 0 _ rfl,IfB.dec (fun h7=>no (fun kk=>?_) EV) fun h7=>⟨rfl,m'-1,by omega,k+1,hk',by omega,by rw[wrap_of (by omega) (by omega)];rfl,?_,eV⟩⟩
    ·have:=((kk.co _ hm2).1.resolve_left hne).2 y hxm;omega
    ·rw[htk];intro z hz'
     rcases List.mem_append.1 hz' with hz'|hz'
     ·exact hz z hz'
     ·rw[List.mem_singleton.1 hz'];omega
   ·have hk':k=s2.1.length:=by omega
    subst hk'
    rw[List.take_length] at hz
    exact fin EV (.inr ⟨k4,hz⟩)
  ·have hnil:s2.1=[]:=List.eq_nil_of_length_eq_zero (by omega)
   refine⟨fun m' y V=>y=0/\V=w38,⟨0,rfl,rfl⟩,?_⟩
   rintro m' _ _ g' ⟨rfl,rfl⟩
   unfold F115j3
   refine IfB.dec (fun hl=>by omega) fun hg=>fin E38 (.inl hnil)
 ·have hge:¬(i:Int)<(v.2.2.1.n:Int):=hge
  have hii:i=x.2.2.1.length:=by omega
  subst hii
  refine⟨true,rfl,⟨fun _=>⟨by rw[<-hnm];omega,by rw[<-hnm];omega,by rw[<-har];omega,by rw[<-har];omega,by omega,by omega,hcl,fun s hs=>?_,fun c hc=>?_⟩,fun _=>rfl⟩,e2.trans e⟩
  ·obtain⟨j,hj,rfl⟩:=List.getElem_of_mem hs
   have:=hOk j hj _ _ (List.getElem?_eq_getElem hj) (List.getElem?_eq_getElem (show j<x.2.2.2.1.length by omega))
   exact⟨this.1,this.2.1⟩
  ·obtain⟨j,hj,rfl⟩:=List.getElem_of_mem hc
   exact(hOk j (by omega) _ _ (List.getElem?_eq_getElem (by omega)) (List.getElem?_eq_getElem hj)).2.2
theorem c53{w:World}{v:CatV}{x:CatD}(h:CatM w v x):Cw 53 #[cxV v] w fun r w'=>∃b,r=.bool b/\(b=true↔CatOk x)/\Ext w w':=by
 have hn:=cat_cl h
 refine F53_ok v w _ fun b1 w2 a2=>?_
 have e2:Ext w w2:=a2.ch _
 have r2:=Ch.refl (fun _=>False) w2
 have q:=fun{W:World} (e:Ext w2 W)=>boxAt (cs:=cxC v) a2.new 0 e
 have no:∀ {V:World},¬CatOk x->Ext w2 V->∃r,Value.bool false=.bool r/\(r=true↔CatOk x)/\Ext w V:=fun h e=>⟨false,rfl,⟨fun h=>(by cases h),fun h'=>absurd h' h⟩,e2.trans e⟩
 have G:=fun{V:World} {i:Nat} {y:ClsD} (e':Ext w2 V) (hx:x.1[i]? =some y)=>ClsR.at (SlR.ext h.cl (e2.trans e')) hx
 refine⟨_,q r2,IfB.dec (fun h1=>no (fun k=>by have:=k.n1;omega) r2) fun h1=>IfB.dec (fun h2=>no (fun k=>by have:=k.n4;omega) r2) fun h2=>⟨fun m z W=>∃i:Nat,i<=x.1.length/\m+i=x.1.length/\z=(i:Int)/\(∀y∈x.1.take i,ClsOk y)/\(∀(j k:Nat)(a b:ClsD),k<j->j<i->x.1[j]? =some a->x.1[k]? =some b->a.1.toList≠b.1.toList)/\Ext w2 W,⟨_,0,Nat.zero_le _,rfl,rfl,by simp,fun j k a b _ hj=>absurd hj (Nat.not_lt_zero _),r2⟩,?_⟩⟩
 rintro m _ W g ⟨i,hi,hm,rfl,hO,hN,e⟩
 unfold F53j1
 refine IfB.dec (fun hlt=>?_) fun hge=>?_
 ·have hi':i<x.1.length:=by omega
  have hx:x.1[i]? =some x.1[i]:=List.getElem?_eq_getElem hi'
  have hxm:x.1[i]∈x.1:=List.getElem_mem hi'
  have htk:=take_succ_get hx
  generalize x.1[i]=y at hx hxm htk
  obtain⟨b,o,cv,hp,hc,hM⟩:=G e hx
  refine⟨_,q e,b,o,hp,⟨by omega,hlt⟩,cv,by rw[Int.toNat_natCast];exact hc,(c115 hM).use ?_⟩
  rintro _ w16 ⟨r,rfl,hr,e16⟩
  have E16:=e.trans e16
  refine⟨r,rfl,IfB.intro (fun h3=>no (fun k=>?_) E16) fun h3=>?_⟩
  ·have h3:r=false:=by simpa using h3
   rw[hr.2 (k.cls _ hxm)] at h3;cases h3
  have k3:=hr.1 (by simpa using h3)
  refine⟨fun m' z V=>∃k:Nat,k<=i/\m'+k=i/\z=(k:Int)/\(∀(k':Nat) b,k'<k->x.1[k']? =some b->y.1.toList≠b.1.toList)/\Ext w2 V,⟨_,0,Nat.zero_le _,rfl,rfl,fun k' b hk=>absurd hk (Nat.not_lt_zero _),E16⟩,?_⟩
  rintro m' _ V g' ⟨k,hk,hmk,rfl,hD,eV⟩
  unfold F53j2
  refine IfB.dec (fun hl=>?_) fun hg=>?_
  ·have hk':k<x.1.length:=by omega
   have hy:x.1[k]? =some x.1[k]:=List.getElem?_eq_getElem hk'
   generalize x.1[k]=y' at hy
   have eD:Ext w2 V.drew:=eV.trans (extDrew V)
   obtain⟨b3,o3,cv3,hp3,hc3,hM3⟩:=G eD hy
   obtain⟨b4,o4,cv4,hp4,hc4,hM4⟩:=G eD hx
   have n3:=hM3.nm
   have n4:=hM4.nm
   refine⟨_,q eD,b3,o3,hp3,⟨by omega,by show (k:Int)<(v.1.n:Int);omega⟩,cv3.1,by rw[Int.toNat_natCast];exact hc3 0 _ rfl,_,q eD,b4,o4,hp4,⟨by omega,hlt⟩,cv4.1,by rw[Int.toNat_natCast];exact hc4 0 _ rfl,IfB.intro (fun h5=>no (fun kk=>?_) eD) fun h5=>⟨rfl,m'-1,by omega,k+1,by omega,by omega,by rw[wrap_of (by omega) (by omega)];rfl,fun k' b hk2 hb=>?_,eD⟩⟩
   ·rw[n3,n4,beq_iff_eq] at h5
    exact kk.names i k y y' (by omega) hx hy h5.symm
   ·rcases Nat.lt_or_ge k' k with h'|h'
    ·exact hD k' b h' hb
    ·have:k'=k:=by omega
     subst this
     rw[hy] at hb;cases hb
     rw[n3,n4,beq_eq_false_iff_ne] at h5
     exact fun h=>h5 h.symm
  ·have hk':k=i:=by omega
   subst hk'
   refine⟨rfl,m-1,by omega,k+1,hi',by omega,by rw[wrap_of (by omega) (by omega)];rfl,fun z hz=>?_,fun j k2 a b hk2 hj ha hb=>?_,eV⟩
   ·rw[htk] at hz
    rcases List.mem_append.1 hz with hz|hz
    ·exact hO z hz
    ·rw[List.mem_singleton.1 hz];exact k3
   ·rcases Nat.lt_or_ge j k with h'|h'
    ·exact hN j k2 a b hk2 h' ha hb
    ·have:j=k:=by omega
     subst this
     rw[hx] at ha;cases ha
     exact hD k2 b hk2 hb
 ·have hi':i=x.1.length:=by omega
  subst hi'
  rw[List.take_length] at hO
  have hN':∀(j k:Nat)(a b:ClsD),k<j->x.1[j]? =some a->x.1[k]? =some b->a.1.toList≠b.1.toList:=fun j k a b hkj ha hb=>hN j k a b hkj (List.getElem?_eq_some_iff.1 ha).1 ha hb
  refine⟨fun m z W=>∃i:Nat,i<=4/\m+i=4/\z=(i:Int)/\(∀c d,c<i->d<4->0<=brk x c d/\brk x c d<topB x c d)/\Ext w2 W,⟨4,0,Nat.zero_le _,rfl,rfl,fun c d hc=>absurd hc (Nat.not_lt_zero _),e⟩,?_⟩
  rintro m _ W g ⟨c,hc4,hm,rfl,hB,e⟩
  refine IfB.dec (fun hlt=>?_) fun hge=>⟨true,rfl,⟨fun _=>⟨by omega,by omega,hO,hN',fun c' d hc' hd=>hB c' d (by omega) hd⟩,fun _=>rfl⟩,e2.trans e⟩
  refine⟨fun m z W=>∃i:Nat,i<=4/\m+i=4/\z=(i:Int)/\(∀d,d<i->0<=brk x c d/\brk x c d<topB x c d)/\Ext w2 W,⟨4,0,Nat.zero_le _,rfl,rfl,fun d hd=>absurd hd (Nat.not_lt_zero _),e⟩,?_⟩
  rintro m' _ W g ⟨d,hd4,hm',rfl,hB',e⟩
  unfold F53j4
  have fin:∀ {V:World},Ext w2 V->d<4->0<=brk x c d/\brk x c d<topB x c d->([]:List Nat)=[]/\∃b,b<m'/\∃i':Nat,i'<=4/\b+i'=4/\IntKind.i64.wrap ((d:Int)+1)=(i':Int)/\(∀d,d<i'->0<=brk x c d/\brk x c d<topB x c d)/\Ext w2 V:=fun eV hd hb=>⟨rfl,m'-1,by omega,d+1,hd,by omega,by rw[wrap_of (by omega) (by omega)];rfl,fun d' hd'=>by
   rcases Nat.lt_or_ge d' d with h'|h'
   ·exact hB' d' h'
   ·have:d'=d:=by omega
    subst this;exact hb,eV⟩
  have qb:∀ {V:World},Ext w2 V->d<4->V.cell? ⟨b1,0+1+(c:Int).toNat*4+(d:Int).toNat,none⟩=some (iv (brk x c d)):=fun eV hd=>by
   rw[Int.toNat_natCast,Int.toNat_natCast];exact brk_box h a2.new eV (by omega) hd
  refine IfB.dec (fun hl=>?_) fun hg=>⟨rfl,m-1,by omega,c+1,by omega,by omega,by rw[wrap_of (by omega) (by omega)];rfl,fun c' d' hc' hd'=>?_,e⟩
  ·have hd':d<4:=by omega
   have k1:¬(c<x.1.length/\d<x.1.length)->F53k1 (c:Int) (d:Int) W b1 (fun r w'=>∃b,r=.bool b/\(b=true↔CatOk x)/\Ext w w') m' (fun m z W=>∃i:Nat,i<=4/\m+i=4/\z=(i:Int)/\(∀d,d<i->0<=brk x c d/\brk x c d<topB x c d)/\Ext w2 W):=fun hno=>by
    have ht:topB x c d=1:=by unfold topB;rw[if_neg hno]
    refine⟨⟨by omega,by omega⟩,⟨by omega,by omega⟩,_,qb e hd',IfB.dec (fun g1=>no (fun k=>?_) e) fun g1=>⟨⟨by omega,by omega⟩,⟨by omega,by omega⟩,_,qb e hd',IfB.dec (fun g2=>no (fun k=>?_) e) fun g2=>fin e hd' ⟨by omega,by omega⟩⟩⟩
    ·have:=(k.br c d (by omega) hd').1;omega
    ·have:=(k.br c d (by omega) hd').2;omega
   refine IfB.dec (fun g1=>IfB.dec (fun g2=>?_) fun g2=>k1 fun k=>by omega) fun g1=>k1 fun k=>by omega
   have hcl:c<x.1.length:=by omega
   have hdl:d<x.1.length:=by omega
   have hx:x.1[c]? =some x.1[c]:=List.getElem?_eq_getElem hcl
   have hxm:x.1[c]∈x.1:=List.getElem_mem hcl
   generalize x.1[c]=y at hx hxm
   have hns:=nSt_of hx
   have hy1:=(hO y hxm).l1
   have hy4:=(hO y hxm).l4
   have ht:topB x c d=2^(nSt x c-1):=by unfold topB;rw[if_pos ⟨hcl,hdl⟩]
   refine⟨fun m z W=>∃k:Nat,1<=k/\k<=nSt x c/\m+k=nSt x c/\z=((2:Int)^(k-1),(k:Int))/\Ext w2 W,⟨nSt x c-1,1,Nat.le_refl _,by omega,by omega,rfl,e⟩,?_⟩
   rintro m3 _ V g3 ⟨k,hk1,hkn,hm3,rfl,eV⟩
   unfold F53j5
   obtain⟨b5,o5,cv5,hp5,hc5,hM5⟩:=G eV hx
   have hsn:=hM5.st.n
   have hpw:=pow_range (show k-1<=3 by omega)
   refine⟨_,q eV,b5,o5,hp5,⟨by omega,by show (c:Int)<(v.1.n:Int);omega⟩,cv5.2.2.1,by rw[Int.toNat_natCast];exact hc5 2 _ rfl,IfB.dec (fun g5=>?_) fun g5=>?_⟩
   ·dsimp only at g5
    refine⟨rfl,m3-1,by omega,k+1,by omega,by omega,by omega,?_,eV⟩
    dsimp only
    rw[wrap_of (by omega) (by omega),wrap_of (by omega) (by omega),show k+1-1=(k-1)+1 by omega,Int.pow_succ,Int.mul_comm];rfl
   ·dsimp only at g5
    have hkk:k=nSt x c:=by omega
    rw[hkk,<-ht] at hpw
    refine⟨⟨by omega,by omega⟩,⟨by omega,by omega⟩,_,qb eV hd',IfB.dec (fun g1=>no (fun k=>?_) eV) fun g1=>⟨⟨by omega,by omega⟩,⟨by omega,by omega⟩,_,qb eV hd',IfB.dec (fun g2=>no (fun k=>?_) eV) fun g2=>fin eV hd' ⟨by omega,?_⟩⟩⟩
    ·have:=(k.br c d (by omega) hd').1;omega
    ·dsimp only at g2
     rw[hkk,<-ht] at g2
     have:=(k.br c d (by omega) hd').2;omega
    ·dsimp only at g2
     rw[hkk,<-ht] at g2
     omega
  ·have hd':d=4:=by omega
   subst hd'
   rcases Nat.lt_or_ge c' c with h'|h'
   ·exact hB c' d' h' hd'
   ·have:c'=c:=by omega
    subst this;exact hB' d' hd'
set_option maxRecDepth 100000
theorem F149_ok(t0:Sl×List Value)(t1:Int)(w:World)(R:RV)(h:AllocP w (Obj.cells { toList:=Qy t0.fst::t0.2 } 26) fun b1 w2=>IfB (decide (0<=t1)) (Qs w2 b1 (0+0) fun s3=>IfB (decide (t1<(s3.n:Int))) (R (Value.bool (decide (t1<4))) w2) (R (Value.bool false) w2)) (R (Value.bool false) w2)):Cw 149 #[Value.agg { toList:=Qy t0.fst::t0.2 },Qz t1] w R:=
 ckF Tryz.func149 .nil h (by kernel_rfl) (by kernel_rfl)
def F136k1(w55:World)(b1:Nat)(t1:Int)(t2:Int)(n54:Int)(R:RV)(n22:Int)(b53:Nat)(y51:Nat->Int->World->Prop):Prop:=∃(x62:Sl×List Value),CellsN w55 b1 0 17 (Qy x62.fst::x62.2)/\Qv' 185 #[Value.agg { toList:=Qy x62.fst::x62.2 },Qz t1,Qz t2,Qz n54] w55 fun t67 w66=>IfB t67 (R (Value.tuple #[Qz n22,Qz n54,Value.bool true]) w66) (Qn y51 b53 (IntKind.i64.wrap (n54+1)) w66)
def F136j2(t1:Int)(t2:Int)(R:RV)(b1:Nat)(n22:Int)(y32:Nat->Int->World->Prop)(b34:Nat)(n35:Int)(w36:World):Prop:=Qs w36 b1 (0+0) fun s39=>Qx s39.1 t1 (s39.2:Int) fun b40 b41=>Qs w36 b40 (b41+t1.toNat*5+2) fun s42=>IfB (decide (IntKind.i64.wrap (n35+1)<(s42.n:Int))) (F136k1 w36 b1 t1 t2 n35 R n22 b34 y32) (R (Value.tuple #[Qz n22,Qz n35,Value.bool true]) w36)
def F136j3(t1:Int)(t2:Int)(R:RV)(b1:Nat)(n22:Int)(y51:Nat->Int->World->Prop)(b53:Nat)(n54:Int)(w55:World):Prop:=Qs w55 b1 (0+0) fun s58=>Qx s58.1 t1 (s58.2:Int) fun b59 b60=>Qs w55 b59 (b60+t1.toNat*5+2) fun s61=>IfB (decide (IntKind.i64.wrap (n54+1)<(s61.n:Int))) (F136k1 w55 b1 t1 t2 n54 R n22 b53 y51) (R (Value.tuple #[Qz n22,Qz n54,Value.bool true]) w55)
def F136j1(t1:Int)(t2:Int)(t3:Int)(R:RV)(b1:Nat)(y19:Nat->Int->World->Prop)(b21:Nat)(n22:Int)(w23:World):Prop:=IfB (decide (0<n22)) (∃(x26:Sl×List Value),CellsN w23 b1 0 17 (Qy x26.fst::x26.2)/\Qv' 185 #[Value.agg { toList:=Qy x26.fst::x26.2 },Qz t1,Qz t2,Qz (IntKind.i64.wrap (n22-1))] w23 fun t31 w30=>IfB t31 (Ql (α:=Int) t3 w30 fun y32 b34 n35 w36=>(F136j2 t1 t2 R b1 n22 y32 b34 n35 w36)) (Qn y19 b21 (IntKind.i64.wrap (n22-1)) w30)) (Ql (α:=Int) t3 w23 fun y51 b53 n54 w55=>(F136j3 t1 t2 R b1 n22 y51 b53 n54 w55))
theorem F136_ok(t0:Sl×List Value)(t1:Int)(t2:Int)(t3:Int)(w:World)(R:RV)(h:AllocP w (Obj.cells { toList:=Qy t0.fst::t0.2 } 26) fun b1 w2=>∃(x3:Sl×List Value),CellsN w2 b1 0 17 (Qy x3.fst::x3.2)/\Qv' 149 #[Value.agg { toList:=Qy x3.fst::x3.2 },Qz t1] w2 fun t8 w7=>IfB (!t8) (R (Value.tuple #[Qz 0,Qz 0,Value.bool false]) w7) (∃(x9:Sl×List Value),CellsN w7 b1 0 17 (Qy x9.fst::x9.2)/\Qv' 149 #[Value.agg { toList:=Qy x9.fst::x9.2 },Qz t2] w7 fun t14 w13=>IfB (!t14) (R (Value.tuple #[Qz 0,Qz 0,Value.bool false]) w13) (IfB (decide (t3<0)) (R (Value.tuple #[Qz 0,Qz 0,Value.bool false]) w13) (Qs w13 b1 (0+0) fun s15=>Qx s15.1 t1 (s15.2:Int) fun b16 b17=>Qs w13 b16 (b17+t1.toNat*5+2) fun s18=>IfB (decide ((s18.n:Int)<=t3)) (R (Value.tuple #[Qz 0,Qz 0,Value.bool false]) w13) (Ql (α:=Int) t3 w13 fun y19 b21 n22 w23=>(F136j1 t1 t2 t3 R b1 y19 b21 n22 w23)))))):Cw 136 #[Value.agg { toList:=Qy t0.fst::t0.2 },Qz t1,Qz t2,Qz t3] w R:=
 ckF Tryz.func136 (nd (nd (nd (nd (.node (.loop [(11,oi)] (rg [11,11,40,49]) .nil) (nd (.node (.loop [(12,oi)] (rg [12,12,50,66]) .nil) .nil))))))) h (by kernel_rfl) (by kernel_rfl)
theorem F150_ok(t0:Sl)(w:World)(R:RV)(h:IfB (decide ((t0.n:Int)<=40)) (Cx 199 #[Qy t0,Value.func (Fn.func 200) #[] #[]] w fun v1 w2=>∃t3:Bool,v1=Value.bool t3/\R (Value.bool !t3) w2) (R (Value.bool false) w)):Cw 150 #[Qy t0] w R:=
 ckF Tryz.func150 .nil h (by kernel_rfl) (by kernel_rfl)
theorem F200_ok(t0:Int×Int)(w:World)(R:RV)(h:AllocP w (Obj.cells #[Qz t0.1,Qz t0.2] 101) fun b1 w2=>∃(x3:Int×Int),CellsAt w2 b1 0 [Qz x3.1,Qz x3.2]/\Qv' 201 #[Value.agg #[Qz x3.1,Qz x3.2]] w2 fun t6 w5=>R (Value.bool !t6) w5):Cw 200 #[Value.agg #[Qz t0.1,Qz t0.2]] w R:=
 ckF Tryz.func200 .nil h (by kernel_rfl) (by kernel_rfl)
def F151k1(t0:Sl)(w2:World)(b1:Nat)(R:RV)(t2:Int):Prop:=Qx t0.1 (IntKind.i64.wrap ((t0.2:Int)-1)) (t0.2:Int) fun b5 b6=>∃(x7:Int×Int×Int×Bool×Sl×Sl),CellsAt w2 b5 (b6+(IntKind.i64.wrap ((t0.2:Int)-1)).toNat*6) (lC53 x7)/\AllocP w2 (Obj.cells #[Qz 0,Qz 0,Qz 0,Value.bool false,Value.slice none 0 0,Value.slice none 0 0] 53) fun b8 w9=>(lC53 x7).toArray.size=6/\StoreP w9 b8 0 (lC53 x7) fun w10=>Qi w10 b1 (0+1) fun n11=>Qi w10 b8 (0+1) fun n12=>IfB (n11 != n12) (R (Value.bool false) w10) (Qb w10 b1 (0+3) fun t13=>IfB (!t13) (Qb w10 b8 (0+3) fun t14=>IfB (!t14) (Qi w10 b1 (0+2) fun n15=>Qi w10 b8 (0+2) fun n16=>IfB (n15 == IntKind.i64.wrap (n16+1)) (Qi w10 b1 (0+2) fun n17=>R (Value.bool (decide (n17<t2))) w10) (R (Value.bool false) w10)) (R (Value.bool false) w10)) (Qb w10 b8 (0+3) fun t18=>IfB (!t18) (Qi w10 b1 (0+2) fun n19=>Qi w10 b8 (0+2) fun n20=>R (Value.bool (n19 == n20)) w10) (Qi w10 b1 (0+2) fun n21=>Qi w10 b8 (0+2) fun n22=>R (Value.bool (n21 == IntKind.i64.wrap (n22-1))) w10)))
theorem F151_ok(t0:Sl)(t1:Int×Int×Int×Bool×Sl×Sl)(t2:Int)(w:World)(R:RV)(h:AllocP w (Obj.cells (lC53 t1).toArray 53) fun b1 w2=>IfB ((t0.2:Int) == 0) (Qb w2 b1 (0+3) fun t3=>IfB (!t3) (Qi w2 b1 (0+2) fun n4=>R (Value.bool (n4 == 0)) w2) (R (Value.bool false) w2)) (F151k1 t0 w2 b1 R t2)):Cw 151 #[Qy t0,(.agg (lC53 t1).toArray),Qz t2] w R:=
 ckF Tryz.func151 .nil h (by kernel_rfl) (by kernel_rfl)
def F84k1(w52:World)(b21:Nat)(b9:Nat)(b13:Nat)(y11:Nat->Int->World->Prop)(n14:Int):Prop:=Qi w52.drew b21 (0+0) fun n54=>Qi w52.drew b21 (0+0) fun n55=>∃(x56:Int×Int×Int×Bool×Sl×Sl),CellsAt w52.drew b21 0 (lC53 x56)/\(MapGetP (TypeDesc.int IntKind.i64) w52.drew (Value.map (some b9)) (Qz n55) (Value.slice none 0 0) fun(v57:Value) (t58:Bool)=>∃s59:Sl,v57=Qy s59/\CellsAt w52.drew b21 0 (lC53 x56)/\w52.drew.cell? ⟨b21,0+0,none⟩=some (Qz n54)/\1*6<=16777216/\AllocP w52.drew (Obj.cells (lC53 x56).toArray 53) fun b60 w61=>w61.cell? ⟨b21,0+0,none⟩=some (Qz n54)/\∃(l62:List Value),ReadC w61 (some ⟨b60,0,none⟩) (1*6) l62/\AppendP tt53 53 w61 s59.1 s59.2 s59.3 1 l62 fun s63 w64=>w64.cell? ⟨b21,0+0,none⟩=some (Qz n54)/\MapSetP (TypeDesc.int IntKind.i64) w64 (Value.map (some b9)) (Qz n54) (Qy s63) fun w65=>Qn y11 b13 (IntKind.i64.wrap (n14+1)) w65)/\1*6<=16777216/\AllocP w52.drew (Obj.cells (lC53 x56).toArray 53) fun b67 w68=>w68.cell? ⟨b21,0+0,none⟩=some (Qz n55)/\w68.cell? ⟨b21,0+0,none⟩=some (Qz n54)/\MapGetP (TypeDesc.int IntKind.i64) w68 (Value.map (some b9)) (Qz n55) (Value.slice none 0 0) fun(v69:Value) (t70:Bool)=>∃s71:Sl,v69=Qy s71/\w68.cell? ⟨b21,0+0,none⟩=some (Qz n54)/\∃(l72:List Value),ReadC w68 (some ⟨b67,0,none⟩) (1*6) l72/\AppendP tt53 53 w68 s71.1 s71.2 s71.3 1 l72 fun s73 w74=>w74.cell? ⟨b21,0+0,none⟩=some (Qz n54)/\MapSetP (TypeDesc.int IntKind.i64) w74 (Value.map (some b9)) (Qz n54) (Qy s73) fun w75=>Qn y11 b13 (IntKind.i64.wrap (n14+1)) w75
def F84k2(w30:World)(b21:Nat)(R:RV)(b1:Nat)(b9:Nat)(b13:Nat)(y11:Nat->Int->World->Prop)(n14:Int):Prop:=Qs w30 b21 (0+4) fun s33=>Qv' 150 #[Qy s33] w30 fun t36 w35=>IfB (!t36) (R (Value.bool false) w35) (Qs w35 b21 (0+5) fun s37=>Qv' 150 #[Qy s37] w35 fun t40 w39=>IfB (!t40) (R (Value.bool false) w39) (Qi w39 b21 (0+0) fun n41=>∃(x42:Int×Int×Int×Bool×Sl×Sl),CellsAt w39 b21 0 (lC53 x42)/\Qs w39 b1 (0+0) fun s43=>Qi w39 b21 (0+1) fun n44=>Qx s43.1 n44 (s43.2:Int) fun b45 b46=>Qs w39 b45 (b46+n44.toNat*5+2) fun s47=>MapGetP (TypeDesc.int IntKind.i64) w39 (Value.map (some b9)) (Qz n41) (Value.slice none 0 0) fun(v48:Value) (t49:Bool)=>∃s50:Sl,v48=Qy s50/\w39.cell? ⟨b45,b46+n44.toNat*5+2,none⟩=some (Qy s47)/\w39.cell? ⟨b21,0+1,none⟩=some (Qz n44)/\w39.cell? ⟨b1,0+0,none⟩=some (Qy s43)/\CellsAt w39 b21 0 (lC53 x42)/\Qv' 151 #[Qy s50,Value.agg (lC53 x42).toArray,Qz (s47.2:Int)] w39 fun t53 w52=>IfB (!t53) (R (Value.bool false) w52) (F84k1 w52 b21 b9 b13 y11 n14)))
def F84j1(t1:Sl)(R:RV)(b1:Nat)(b9:Nat)(y11:Nat->Int->World->Prop)(b13:Nat)(n14:Int)(w15:World):Prop:=IfB (decide (n14<(t1.n:Int))) (Qx t1.1 n14 (t1.2:Int) fun b18 b19=>∃(x20:Int×Int×Int×Bool×Sl×Sl),CellsAt w15 b18 (b19+n14.toNat*6) (lC53 x20)/\AllocP w15 (Obj.cells #[Qz 0,Qz 0,Qz 0,Value.bool false,Value.slice none 0 0,Value.slice none 0 0] 53) fun b21 w22=>(lC53 x20).toArray.size=6/\StoreP w22 b21 0 (lC53 x20) fun w23=>Qi w23.drew b21 (0+0) fun n24=>IfB (decide (n24<0)) (R (Value.bool false) w23.drew) (∃(x25:Sl×List Value),CellsN w23.drew b1 0 17 (Qy x25.fst::x25.2)/\Qi w23.drew b21 (0+1) fun n28=>Qv' 149 #[Value.agg { toList:=Qy x25.fst::x25.2 },Qz n28] w23.drew fun t31 w30=>IfB (!t31) (R (Value.bool false) w30) (Qi w30 b21 (0+2) fun n32=>IfB (decide (n32<0)) (R (Value.bool false) w30) (F84k2 w30 b21 R b1 b9 b13 y11 n14)))) (R (Value.bool true) w15)
theorem F84_ok(t0:Sl×List Value)(t1:Sl)(w:World)(R:RV)(h:AllocP w (Obj.cells { toList:=Qy t0.fst::t0.2 } 26) fun b1 w2=>∃(x3:Sl×List Value),CellsN w2 b1 0 17 (Qy x3.fst::x3.2)/\Qv' 75 #[Value.agg { toList:=Qy x3.fst::x3.2 }] w2 fun t8 w7=>IfB (!t8) (R (Value.bool false) w7) (IfB (decide (100<(t1.n:Int))) (R (Value.bool false) w7) (AllocP w7 (Obj.map #[] 0) fun b9 w10=>Ql (α:=Int) 0 w10 fun y11 b13 n14 w15=>(F84j1 t1 R b1 b9 y11 b13 n14 w15)))):Cw 84 #[Value.agg { toList:=Qy t0.fst::t0.2 },Qy t1] w R:=
 ckF Tryz.func84 (nd (nd (nd (.node (nd (.loop [(19,oi)] (rg [4,4,7,7,19,77]) (nd (nd (.node (nd (.node (.node (.draw (sts [0,1,2,3,4,5,6] (.ac 7 [] (sts [8,9,10,11,12,13,14,15,16,17] (.ac 18 [] (sts [19,20,21,22,23] (.ac 24 [] (sts [25,26,27,28,29,30,32,33,34,35,36,37,38,39,40] (.ac 31 (rg [32,40]) (.ac 41 [] (sts [42,43] .fin) .non) .non)) .non)) .non)) .non))) .nil) (.draw (sts [0,1,2,3,4,5,7] (.ac 6 [7,2,1,0] (.ac 8 [2,1,0] (.ac 9 [2,1,0] (.ac 10 [] .fin .non) .non) .non) (.ac 8 (rg [0,5]) (.ac 6 [2,1,0] (.ac 9 [2,1,0] (.ac 10 [] .fin .non) .non) .non) .non)))))) .nil))))) .nil)))) h (by kernel_rfl) (by kernel_rfl)
theorem F199_ok(t0:Sl)(t1:Nat×Array Value)(w:World)(R:RV)(h:Cx 241 #[Qy t0,Value.func (Fn.func t1.1) #[] t1.2] w fun v1 w2=>∃n3:Int,v1=Qz n3/\R (Value.bool (decide (0<=n3))) w2):Cw 199 #[Qy t0,Value.func (Fn.func t1.1) #[] t1.2] w R:=
 ckF Tryz.func199 .nil h (by kernel_rfl) (by kernel_rfl)
theorem cxN{w W:World}{v:CatV}{x:CatD}{b:Nat}{T:TypeId}(h:CatM w v x)(hb:W.heap[b]? =some (.cells (cxC v).toArray T (0,0))){W':World}(e:Ext W W'):CellsN W' b 0 17 (cxC v):=
 CellsN.mk (by simp[h.br,h.b16]) (boxAll (cs:=cxC v) hb e)
theorem c149{w:World}{v:CatV}{x:CatD}(h:CatM w v x)(c:Int):Cw 149 #[cxV v,iv c] w fun r w'=>r=.bool (decide (0<=c/\c<(x.1.length:Int)/\c<4))/\Ext w w':=by
 have hn:=cat_cl h
 refine F149_ok v c w _ fun b1 w2 a2=>?_
 have e2:Ext w w2:=a2.ch _
 refine IfB.dec (fun h1=>⟨v.1,boxAt (cs:=cxC v) a2.new 0 (Ch.refl _ _),IfB.dec (fun h2=>⟨?_,e2⟩) fun h2=>⟨?_,e2⟩⟩) fun h1=>⟨by rw[decide_eq_false (by omega)],e2⟩
 ·congr 1;rw[Bool.eq_iff_iff,decide_eq_true_eq,decide_eq_true_eq];omega
 ·rw[decide_eq_false (by omega)]
theorem steps_at{w W:World}{v:CatV}{x:CatD}(h:CatM w v x){c:Nat}{y:ClsD}(hx:x.1[c]? =some y)(e:Ext w W):∃b o s,v.1.p=some ⟨b,o,none⟩/\W.cell? ⟨b,o+c*5+2,none⟩=some (slV s)/\s.n=y.2.2.1.length/\StsR W s y.2.2.1:=by
 obtain⟨b,o,cv,hp,hc,hM⟩:=ClsR.at (SlR.ext h.cl e) hx
 exact⟨b,o,cv.2.2.1,hp,hc 2 _ rfl,hM.st.n,hM.st⟩
def BndOk(x:CatD)(c d i:Int):Prop:=(0<=c/\c<(x.1.length:Int))/\(0<=d/\d<(x.1.length:Int))/\0<=i/\i<(nSt x c.toNat:Int)
theorem c136{w:World}{v:CatV}{x:CatD}(h:CatM w v x)(hk:CatOk x)(c d i:Int):
  Cw 136 #[cxV v,iv c,iv d,iv i] w fun r w'=>∃lo hi b,r=.tuple #[iv lo,iv hi,.bool b]/\(b=true↔BndOk x c d i)/\(b=true->∃l u:Nat,lo=l/\hi=u/\BndP x c.toNat d.toNat i.toNat l u)/\Ext w w':=by
 have hn:=cat_cl h
 have h4:=hk.n4
 refine F136_ok v c d i w _ fun b1 w2 a2=>?_
 have e2:Ext w w2:=a2.ch _
 have no:∀ {V:World},¬BndOk x c d i->Ext w V->∃lo hi b,Value.tuple #[.int .i64 0,.int .i64 0,.bool false]=.tuple #[iv lo,iv hi,.bool b]/\(b=true↔BndOk x c d i)/\(b=true->∃l u:Nat,lo=l/\hi=u/\BndP x c.toNat d.toNat i.toNat l u)/\Ext w V:=fun h e=>⟨0,0,false,rfl,⟨fun h=>(by cases h),fun h'=>absurd h' h⟩,fun h=>(by cases h),e⟩
 refine⟨v,cxN h a2.new (Ch.refl _ _),(c149 (h.ext e2) c).use ?_⟩
 rintro _ w7 ⟨rfl,e7⟩
 have e27:=e2.trans e7
 refine⟨_,rfl,IfB.intro (fun h1=>no (fun k=>?_) e27) fun h1=>⟨v,cxN h a2.new e7,(c149 (h.ext e27) d).use ?_⟩⟩
 ·rw[decide_eq_true (show 0<=c/\c<(x.1.length:Int)/\c<4 by have:=k.1;omega)] at h1;cases h1
 have hc:0<=c/\c<(x.1.length:Int):=by
  have:=(by simpa using h1:0<=c/\c<(x.1.length:Int)/\c<4);omega
 rintro _ w13 ⟨rfl,e13⟩
 have e213:=e27.trans e13
 have x213:Ext w2 w13:=e7.trans e13
 refine⟨_,rfl,IfB.intro (fun h2=>no (fun k=>?_) e213) fun h2=>IfB.dec (fun h3=>no (fun k=>by have:=k.2.2;omega) e213) fun h3=>?_⟩
 ·rw[decide_eq_true (show 0<=d/\d<(x.1.length:Int)/\d<4 by have:=k.2.1;omega)] at h2;cases h2
 have hd:0<=d/\d<(x.1.length:Int):=by
  have:=(by simpa using h2:0<=d/\d<(x.1.length:Int)/\d<4);omega
 obtain⟨C,rfl⟩:=Int.eq_ofNat_of_zero_le hc.1
 obtain⟨D,rfl⟩:=Int.eq_ofNat_of_zero_le hd.1
 obtain⟨I,rfl⟩:=Int.eq_ofNat_of_zero_le (show 0<=i by omega)
 have hC:C<x.1.length:=by omega
 have hD:D<x.1.length:=by omega
 have hx:x.1[C]? =some x.1[C]:=List.getElem?_eq_getElem hC
 have hxm:x.1[C]∈x.1:=List.getElem_mem hC
 generalize x.1[C]=y at hx hxm
 have hns:=nSt_of hx
 have hy4:=(hk.cls y hxm).l4
 have q0:∀ {W:World},Ext w2 W->W.cell? ⟨b1,0+0,none⟩=some (slV v.1):=fun e=>boxAt (cs:=cxC v) a2.new 0 e
 have st:=fun{W:World} (e:Ext w W)=>steps_at h hx e
 obtain⟨p1,o1,s1,hp1,hc1,hs1,_⟩:=st e213
 refine⟨v.1,q0 x213,p1,o1,hp1,⟨by omega,by omega⟩,s1,by rw[Int.toNat_natCast];exact hc1,IfB.dec (fun h5=>no (fun k=>?_) e213) fun h5=>?_⟩
 ·have:=k.2.2.2;rw[Int.toNat_natCast] at this;omega
 have hI:I<nSt x C:=by omega
 have hbo:BndOk x (C:Int) (D:Int) (I:Int):=⟨hc,hd,by omega,by rw[Int.toNat_natCast];omega⟩
 have tail:∀(lo:Nat)(W:World),lo<=I->(∀m,lo<=m->m<I->brkB x C D m=false)->(lo=0\/brkB x C D (lo-1)=true)->Ext w2 W->Ext w W->
   ∃(y51:Nat->Int->World->Prop),(∃b52:Nat,y51 b52 (I:Int) W)/\∀(b53:Nat)(n54:Int)(w55:World)(y56:Nat->Value),y51 b53 n54 w55->
    (F136j3 (C:Int) (D:Int) (fun r w'=>∃lo hi b,r=.tuple #[iv lo,iv hi,.bool b]/\(b=true↔BndOk x (C:Int) (D:Int) (I:Int))/\(b=true->∃l u:Nat,lo=l/\hi=u/\BndP x (C:Int).toNat (D:Int).toNat (I:Int).toNat l u)/\Ext w w') b1 (lo:Int) y51 b53 n54 w55):=by
  intro lo W hlo hno hbl x0 X0
  refine⟨fun m n V=>∃hi:Nat,I<=hi/\hi<nSt x C/\m+hi=nSt x C/\n=(hi:Int)/\(∀m,lo<=m->m<hi->brkB x C D m=false)/\Ext w2 V/\Ext w V,⟨nSt x C-I,I,Nat.le_refl _,hI,by omega,rfl,hno,x0,X0⟩,?_⟩
  rintro m _ V g ⟨hi,h1,h2,hm,rfl,hno',xV,XV⟩
  have fin:∀ {V':World},(hi+1=nSt x C\/brkB x C D hi=true)->Ext w V'->∃lo' hi' b,Value.tuple #[.int .i64 (lo:Int),.int .i64 (hi:Int),.bool true]=.tuple #[iv lo',iv hi',.bool b]/\(b=true↔BndOk x (C:Int) (D:Int) (I:Int))/\(b=true->∃l u:Nat,lo'=l/\hi'=u/\BndP x (C:Int).toNat (D:Int).toNat (I:Int).toNat l u)/\Ext w V':=fun hb e=>⟨lo,hi,true,rfl,⟨fun _=>hbo,fun _=>rfl⟩,fun _=>⟨lo,hi,rfl,rfl,hlo,h1,h2,hno',hbl,hb⟩,e⟩
  unfold F136j3
  obtain⟨p2,o2,s2,hp2,hc2,hs2,_⟩:=st XV
  refine⟨v.1,q0 xV,p2,o2,hp2,⟨by omega,by omega⟩,s2,by rw[Int.toNat_natCast];exact hc2,?_⟩
  rw[wrap_of (by omega) (by omega)]
  refine IfB.dec (fun h6=>?_) fun h6=>fin (.inl (by omega)) XV
  refine⟨v,cxN h a2.new xV,(c185 (h.ext XV) hk hC hD (hi:Int)).use ?_⟩
  rintro _ w66 ⟨rfl,e66⟩
  rw[Int.toNat_natCast,decide_eq_true (show (0:Int)<=(hi:Int) by omega),Bool.true_and]
  refine⟨_,rfl,IfB.intro (fun h7=>fin (.inr h7) (XV.trans e66)) fun h7=>⟨rfl,m-1,by omega,hi+1,by omega,by omega,by omega,by rw[wrap_of (by omega) (by omega)];rfl,fun m h8 h9=>?_,xV.trans e66,XV.trans e66⟩⟩
  rcases Nat.lt_or_ge m hi with h'|h'
  ·exact hno' m h8 h'
  ·rw[show m=hi by omega];exact h7
 refine⟨fun m n V=>∃lo:Nat,m=lo/\lo<=I/\n=(lo:Int)/\(∀m,lo<=m->m<I->brkB x C D m=false)/\Ext w2 V/\Ext w V,⟨I,I,rfl,Nat.le_refl _,rfl,fun m h1 h2=>by omega,x213,e213⟩,?_⟩
 rintro m _ V g ⟨lo,rfl,hlo,rfl,hno,xV,XV⟩
 unfold F136j1
 refine IfB.dec (fun h6=>⟨v,cxN h a2.new xV,?_⟩) fun h6=>tail m V hlo hno (.inl (by omega)) xV XV
 rw[wrap_of (n:=(m:Int)-1) (by omega) (by omega),show (m:Int)-1=((m-1:Nat):Int) by omega]
 refine(c185 (h.ext XV) hk hC hD ((m-1:Nat):Int)).use ?_
 rintro _ w30 ⟨rfl,e30⟩
 rw[Int.toNat_natCast,decide_eq_true (show (0:Int)<=((m-1:Nat):Int) by omega),Bool.true_and]
 refine⟨_,rfl,IfB.intro (fun h7=>tail m w30 hlo hno (.inr h7) (xV.trans e30) (XV.trans e30)) fun h7=>⟨rfl,m-1,by omega,m-1,rfl,by omega,rfl,fun k h8 h9=>?_,xV.trans e30,XV.trans e30⟩⟩
 rcases Nat.lt_or_ge k m with h'|h'
 ·rw[show k=m-1 by omega];exact h7
 ·exact hno k h' h9
def bothS(x y:Spn):Spn:=(if x.1<y.1 then y.1 else x.1,if y.2<x.2 then y.2 else x.2)
def meetRow(x:Spn)(bs:List Spn):List Spn:=(bs.map (bothS x)).filter fun s=>decide (s.1<=s.2)
def meetL(ls bs:List Spn):List Spn:=ls.flatMap fun x=>meetRow x bs
theorem meetRow_take{x y:Spn}{bs:List Spn}{j:Nat}(h:bs[j]? =some y):meetRow x (bs.take (j+1))=meetRow x (bs.take j)++if (bothS x y).1<=(bothS x y).2 then [bothS x y] else []:=by
 unfold meetRow
 rw[take_succ_get h,List.map_append,List.filter_append]
 congr 1
 by_cases hc:(bothS x y).1<=(bothS x y).2<;>simp[hc]
theorem meetL_take{ls bs:List Spn}{i:Nat}{x:Spn}(h:ls[i]? =some x):meetL (ls.take (i+1)) bs=meetL (ls.take i) bs++meetRow x bs:=by
 unfold meetL;rw[take_succ_get h,List.flatMap_append];simp
structure InvM(b1 b3:Nat)(sa sb:Sl)(ls bs:List Spn)(W:World):Prop where
 a:∃T,W.heap[b1]? =some (.cells #[slV sa] T (0,0))
 b:∃T,W.heap[b3]? =some (.cells #[slV sb] T (0,0))
 ra:Rd W sa 2 (ls.flatMap sv)
 rb:Rd W sb 2 (bs.flatMap sv)
theorem InvM.stb{n b1 b3:Nat}{sa sb:Sl}{ls bs:List Spn}{W W':World}(h:InvM b1 b3 sa sb ls bs W)(hS:Stb n W W'):InvM b1 b3 sa sb ls bs W':=by
 obtain⟨⟨T,h1⟩,⟨T',h2⟩,h3,h4⟩:=h
 exact⟨⟨T,hS.keep _ _ h1 rfl⟩,⟨T',hS.keep _ _ h2 rfl⟩,rd_stb h3 hS,rd_stb h4 hS⟩
abbrev spA(x:Spn):Array Value:=#[spV x]
theorem itM(b1 b3:Nat)(sa sb:Sl)(ls bs:List Spn)(hla:ls.length<=1000000)(hlb:bs.length<=1000000):
  IterU Tryz.prog 229 #[.pointer (some ⟨b1,0,none⟩),.pointer (some ⟨b3,0,none⟩)] spA false (fun pre x=>∃post,pre++x::post=meetL ls bs) (fun xs=>xs=meetL ls bs) (InvM b1 b3 sa sb ls bs):=by
 refine⟨en229,fun l J Jx U W hJ hJx hInv hSz _ hU hU1 hstep h0=>?_⟩
 have hI0:=hInv _ _ h0
 have han:=rdN sv_len (by omega) hI0.ra
 have hbn:=rdN sv_len (by omega) hI0.rb
 obtain⟨T1,hT1⟩:=hI0.a
 refine F229_ok l b1 b3 W _ ⟨sa,by rw[cell_of hT1];rfl,fun n x w6=>∃i:Nat,i<=ls.length/\n+i=ls.length/\x=(i:Int)/\J (meetL (ls.take i) bs) w6,⟨ls.length,0,Nat.zero_le _,rfl,rfl,h0⟩,?_⟩
 rintro n _ w6 g ⟨i,hi,hni,rfl,hj⟩
 have hw6:=hSz _ _ hj
 unfold F229j1
 refine IfB.dec (fun hlt=>?_) fun hge=>?_
 ·have hi':i<ls.length:=by omega
  have hx:ls[i]? =some ls[i]:=List.getElem?_eq_getElem hi'
  have hmt:=meetL_take (bs:=bs) hx
  have hsplit:∀(q:List Spn),(∃r,q++r=meetRow ls[i] bs)->∃r,meetL (ls.take i) bs++q++r=meetL ls bs:=fun q ⟨r,hr⟩=>by
   refine⟨r++meetL (ls.drop (i+1)) bs,?_⟩
   have:meetL ls bs=meetL (ls.take (i+1)) bs++meetL (ls.drop (i+1)) bs:=by
    unfold meetL;rw[<-List.flatMap_append,List.take_append_drop]
   rw[this,hmt,<-hr];simp
  generalize ls[i]=x at hx hmt hsplit
  obtain⟨a,o,hp,hc⟩:=(hInv _ _ hj).ra.elem (i:=i) (by omega) (by omega) (flatGet sv_len hx)
  refine⟨a,o,hp,⟨by omega,hlt⟩,x,by rw[Int.toNat_natCast];exact hc,boxSp rfl fun b12 w14 hb12 hs14 h14 e14 hS14=>?_⟩
  have hj14:=hJ _ _ _ hj (hS14 _ hw6)
  have hI14:=hInv _ _ hj14
  obtain⟨T2,hT2⟩:=hI14.b
  have hn12:¬U w14 b12:=fun h=>by
   have:=hU1 _ _ hj _ (hU _ _ (hS14 _ hw6) _ h)
   omega
  refine⟨sb,by rw[cell_of hT2];rfl,fun m y w20=>∃j:Nat,j<=bs.length/\m+j=bs.length/\y=(j:Int)/\J (meetL (ls.take i) bs++meetRow x (bs.take j)) w20/\(∃T,w20.heap[b12]? =some (.cells #[.int .i64 x.1,.int .i64 x.2] T (0,0)))/\¬U w20 b12,
   ⟨bs.length,0,Nat.zero_le _,rfl,rfl,by simpa [meetRow] using hj14,⟨_,h14⟩,hn12⟩,?_⟩
  rintro m _ w20 g ⟨j,hj1,hmj,rfl,hJ20,⟨T3,h20⟩,hn20⟩
  have hw20:=hSz _ _ hJ20
  unfold F229j2
  refine IfB.dec (fun hlt2=>?_) fun hge2=>?_
  ·have hj':j<bs.length:=by omega
   have hy:bs[j]? =some bs[j]:=List.getElem?_eq_getElem hj'
   have hmr:=meetRow_take (x:=x) hy
   have hrest:∃r,meetRow x (bs.take (j+1))++r=meetRow x bs:=⟨meetRow x (bs.drop (j+1)),by
    unfold meetRow;rw[<-List.filter_append,<-List.map_append,List.take_append_drop]⟩
   generalize bs[j]=y at hy hmr
   obtain⟨a2,o2,hp2,hc2⟩:=(hInv _ _ hJ20).rb.elem (i:=j) (by omega) (by omega) (flatGet sv_len hy)
   have hi1:IntKind.i64.wrap ((j:Int)+1)=((j+1:Nat):Int):=by rw[wrap_of (by omega) (by omega)];rfl
   have hlt12:=heap_lt h20
   refine⟨a2,o2,hp2,⟨by omega,hlt2⟩,y,by rw[Int.toNat_natCast];exact hc2,boxSp rfl fun b26 w28 hb26 hs28 h28 e28 hS28=>?_⟩
   have k28:=e28.at h20
   refine⟨x.1,by rw[cell_of k28];rfl,y.1,by rw[cell_of h28];rfl,x.2,by rw[cell_of k28];rfl,y.2,by rw[cell_of h28];rfl,boxSp (x:=bothS x y) rfl fun b33 w35 hb33 hs35 h35 e35 hS35=>?_⟩
   have hS:∀n,n<=w20.heap.size->Stb n w20 w35:=fun n hn=>(hS28 n hn).trans (hS35 n (by omega))
   have hJ35:=hJ _ _ _ hJ20 (hS _ hw20)
   have k35:=e35.at k28
   have hn35:¬U w35 b12:=fun h=>hn20 (hU _ _ (hS _ hw20) _ h)
   refine⟨(bothS x y).1,by rw[cell_of h35];rfl,(bothS x y).2,by rw[cell_of h35];rfl,IfB.dec (fun hne=>?_) fun hne=>?_⟩
   ·rw[if_pos hne] at hmr
    refine⟨bothS x y,cellsAt_of h35 fun i v hv=>by simpa using hv,(hstep _ (bothS x y) w35 hJ35 ?_).mono fun t w40 ht=>?_⟩
    ·obtain⟨r,hr⟩:=hsplit _ hrest
     exact⟨r,by rw[<-hr,hmr];simp⟩
    ·cases t with
     | false=>exact IfB.yes rfl (.inr ⟨_,ht⟩)
     | true=>
      obtain⟨hJ40,_,hK⟩:=ht
      refine IfB.no rfl ⟨rfl,m-1,by omega,j+1,hj',by omega,hi1,?_,⟨T3,?_⟩,fun h=>?_⟩
      ·rw[hmr,<-List.append_assoc];exact hJ40
      ·rw[hK.at' b12 (by omega) (by omega) hn35];exact k35
      ·rcases hK.own _ h with h|h
       ·exact hn35 h
       ·omega
   ·rw[if_neg hne,List.append_nil] at hmr
    exact⟨rfl,m-1,by omega,j+1,hj',by omega,hi1,by rw[hmr];exact hJ35,⟨T3,k35⟩,hn35⟩
  ·have hj':j=bs.length:=by omega
   subst hj'
   rw[List.take_length] at hJ20
   exact⟨rfl,n-1,by omega,i+1,hi',by omega,by rw[wrap_of (by omega) (by omega)];rfl,by rw[hmt];exact hJ20⟩
 ·have hi':i=ls.length:=by omega
  subst hi'
  rw[List.take_length] at hj
  exact .inl ⟨_,rfl,hj⟩
theorem c188(sa sb:Sl)(w:World):Cw 188 #[slV sa,slV sb] w fun v w'=>∃b1 b3,v=.func (.func 229) #[] #[.pointer (some ⟨b1,0,none⟩),.pointer (some ⟨b3,0,none⟩)]/\
  (∃T,w'.heap[b1]? =some (.cells #[slV sa] T (0,0)))/\(∃T,w'.heap[b3]? =some (.cells #[slV sb] T (0,0)))/\w.heap.size<=b1/\w.heap.size<=b3/\Ext w w':=
 F188_ok sa sb w _ fun b1 w2 h2 b3 w4 h4=>⟨b1,b3,rfl,⟨_,h4.at h2.new⟩,⟨_,h4.new⟩,Nat.le_of_eq h2.here.symm,by rw[h4.here,h2.size];omega,(h2.ch _).trans (h4.ch _)⟩
theorem meetL_iff{ls bs:List Spn}(ha:∀x∈ls,mayS x)(hb:∀x∈bs,mayS x):meetL ls bs≠[]↔∃k,hasS ls k/\hasS bs k:=by
 constructor
 ·intro h
  obtain⟨s,hs⟩:=List.exists_mem_of_ne_nil _ h
  obtain⟨x,hx,hs⟩:=List.mem_flatMap.1 hs
  obtain⟨hs,hd⟩:=List.mem_filter.1 hs
  obtain⟨y,hy,rfl⟩:=List.mem_map.1 hs
  have hd:(bothS x y).1<=(bothS x y).2:=by simpa using hd
  refine⟨(bothS x y).1,⟨x,hx,ha x hx,?_⟩,⟨y,hy,hb y hy,?_⟩⟩
  ·unfold bothS at hd ⊢;dsimp only at hd ⊢;split<;>split at hd<;>omega
  ·unfold bothS at hd ⊢;dsimp only at hd ⊢;split<;>split at hd<;>omega
 ·rintro⟨k,⟨x,hx,_,h1,h2⟩,⟨y,hy,_,h3,h4⟩⟩ he
  have:bothS x y∈meetL ls bs:=by
   refine List.mem_flatMap.2 ⟨x,hx,List.mem_filter.2 ⟨List.mem_map.2 ⟨y,hy,rfl⟩,?_⟩⟩
   simp only[decide_eq_true_eq]
   unfold bothS;dsimp only;split<;>split<;>omega
  rw[he] at this
  cases this
theorem sumS_one(s:Sl)(l:List Spn):sumS [(s,l)]=l.length:=by simp[sumS]
theorem plain1{w:World}{s:Sl}{xs:List Spn}(h:Rd w s 2 (xs.flatMap sv))(hl:xs.length<=1000000){K:RV}
  (hK:∀t' os w',NormS os->(∀k,hasS os k↔hasS xs k)->OwS w' t' 2 (os.flatMap sv)->os.length<=xs.length->Ext w w'->(∀j∈blk t',w.heap.size<=j)->K (slV t') w'){T:TypeId}:
  AllocP w (.cells #[slV s] T) fun b w2=>Cx 189 #[.slice (some ⟨b,0,none⟩) 1 1] w2 K:=by
 intro b w2 h2
 have e2:Ext w w2:=h2.ch _
 have hR:Rd w2 ⟨some ⟨b,0,none⟩,1,1⟩ 1 ([(s,xs)].map hS):=(OwS.new (cs:=[slV s]) (n:=1) (sz:=1) h2 rfl).rd
 refine(c189 hR (fun x hx=>by rw[List.mem_singleton.1 hx];exact h.ext e2) (by rw[sumS_one];exact hl) (by simp)).use ?_
 rintro _ w' ⟨t',os,rfl,h1,h3,h4,h5,h6,h7⟩
 rw[sumS_one] at h5
 simp only[List.flatMap_cons,List.flatMap_nil,List.append_nil] at h3
 exact hK t' os w' h1 h3 h4 h5 (e2.trans h6) fun j hj=>by have:=h7 j hj;have:=e2.size;omega
theorem c138{w:World}{s t:Sl}{xs ys:List Spn}(hs:Rd w s 2 (xs.flatMap sv))(ht:Rd w t 2 (ys.flatMap sv))(hxl:xs.length<=1000000)(hyl:ys.length<=1000000):
  Cw 138 #[slV s,slV t] w fun v w'=>∃r,v=.bool r/\(r=true↔∃k,hasS xs k/\hasS ys k)/\Ext w w':=by
 refine F138_ok s t w _ fun b1 w2 h2=>⟨by decide,?_⟩
 have e2:Ext w w2:=h2.ch _
 refine plain1 (hs.ext e2) hxl fun s7 os1 w6 hN1 hk1 ho1 hl1 e6 hb7=>⟨s7,rfl,by decide,?_⟩
 refine plain1 (ht.ext (e2.trans e6)) hyl fun s12 os2 w11 hN2 hk2 ho2 hl2 e11 hb12=>⟨s12,rfl,?_⟩
 refine(c188 s7 s12 w11).use ?_
 rintro _ w14 ⟨p1,p3,rfl,hp1,hp3,hp1',hp3',e14⟩
 have hiff:=meetL_iff hN1.2 hN2.2
 have hall:meetL os1 os2≠[]↔∃k,hasS xs k/\hasS ys k:=by
  rw[hiff];exact exists_congr fun k=>and_congr (hk1 k) (hk2 k)
 refine⟨(229,#[.pointer (some ⟨p1,0,none⟩),.pointer (some ⟨p3,0,none⟩)]),rfl,fun g=>?_⟩
 have E14:Ext w w14:=((e2.trans e6).trans e11).trans e14
 have H1:w14.heap[b1]? =some (.cells #[.bool false] 4 (0,0)):=e14.at (e11.at (e6.at h2.new))
 have hI:InvM p1 p3 s7 s12 os1 os2 w14:=⟨hp1,hp3,((ho1.ext e11).ext e14).rd,(ho2.ext e14).rd⟩
 have hb1:b1<w14.heap.size:=heap_lt H1
 have hb1':w.heap.size=b1:=h2.here.symm
 refine range_noneU tbOk mixed (gf:=229) (lb:=#[.pointer (some ⟨p1,0,none⟩),.pointer (some ⟨p3,0,none⟩)]) rfl (itM p1 p3 s7 s12 os1 os2 (by omega) (by omega)) R138_0ok1 R138_0ok2 R138_0okp (fun _=>rfl)
  (fun _ _=>False) (fun _ _ _ _ h=>h)
  (fun pre W=>pre=[]/\InvM p1 p3 s7 s12 os1 os2 W/\W.heap[b1]? =some (.cells #[.bool false] 4 (0,0))/\Ch (fun i=>w.heap.size<=i) w W)
  (fun c pre W=>c=.ret/\meetL os1 os2≠[]/\W.heap[b1]? =some (.cells #[.bool true] 4 (0,0))/\Ch (fun i=>w.heap.size<=i) w W) ?_ ?_ ?_ (fun h=>by cases h) (fun _ _ _ _ h=>h.elim) ?_ ?_ ?_ ?_
 ·rintro pre A B ⟨h1,h2,h3,h4⟩ hS
  exact⟨h1,h2.stb hS,hS.keep _ _ h3 rfl,h4.then (.ofStb hS) fun i _ hi=>by omega⟩
 ·rintro c pre A B ⟨h1,h2,h3,h4⟩ hS
  exact⟨h1,h2,hS.keep _ _ h3 rfl,h4.then (.ofStb hS) fun i _ hi=>by omega⟩
 ·rintro pre W ⟨_,h,_⟩;exact h
 ·exact⟨rfl,hI,H1,E14.mono fun _ _ h=>h.elim⟩
 ·rintro pre x W ⟨rfl,hM,hB,hC⟩ hx hW
  refine F138b0_ok b1 (229,#[.pointer (some ⟨p1,0,none⟩),.pointer (some ⟨p3,0,none⟩)]) (spV x) _ _ _ _ _ W ?_
  refine⟨rfl,⟨rfl,rfl⟩,fun w9 hS _ _=>⟨rfl,store_one (hS.keep _ _ hB rfl) (by simp) rfl fun w16 h16=>?_⟩⟩
  refine⟨⟨h16.old _ (by omega),h16.old _ (by omega)⟩,rfl,?_,h16.new,(hC.then (.ofStb hS) fun i _ hi=>by omega).then h16.ch fun i _ e=>by omega⟩
  obtain⟨post,hp⟩:=hx
  rw[<-hp];simp
 ·rintro xs' W rfl ⟨hnil,_,hB,hC⟩ hD
  refine⟨rfl,store_one hB (by simp) rfl fun w19 h19=>?_⟩
  refine marks_one (h19.at hD (by omega)) fun w' hu=>⟨false,?_,false,rfl,?_,?_⟩
  ·rw[cell_of (hu.at h19.new (by omega))];rfl
  ·rw[<-hall,hnil];simp
  ·have h:=(hC.then h19.ch fun i _ e=>(by omega:w.heap.size<=i)).then hu.ch fun i _ e=>(by omega:w.heap.size<=i)
   exact h.mono fun i hi h=>by omega
 ·rintro c pre W ⟨rfl,hne,hB,hC⟩ hD
  refine marks_one hD fun w' hu=>⟨true,?_,true,rfl,?_,?_⟩
  ·rw[cell_of (hu.at hB (by omega))];rfl
  ·rw[<-hall];simp[hne]
  ·have h:=hC.then hu.ch fun i _ e=>(by omega:w.heap.size<=i)
   exact h.mono fun i hi h=>by omega
theorem F165_ok(t0:Int×Int×Int×Bool×Sl×Sl)(t1:Int×Int×Int×Bool×Sl×Sl)(w:World)(R:RV)(h:AllocP w (Obj.cells (lC53 t0).toArray 53) fun b1 w2=>AllocP w2 (Obj.cells (lC53 t1).toArray 53) fun b3 w4=>Qi w4 b1 (0+0) fun n5=>Qi w4 b3 (0+0) fun n6=>IfB (n5 != n6) (Qs w4 b1 (0+5) fun s7=>Qs w4 b3 (0+4) fun s8=>Qv' 138 #[Qy s7,Qy s8] w4 fun t11 w10=>IfB t11 (R (Value.bool true) w10) (Qs w10 b1 (0+5) fun s12=>Qs w10 b3 (0+5) fun s13=>Qv' 138 #[Qy s12,Qy s13] w10 fun t16 w15=>IfB t16 (R (Value.bool true) w15) (Qs w15 b1 (0+4) fun s17=>Qs w15 b3 (0+5) fun s18=>Qv' 138 #[Qy s17,Qy s18] w15 fun t21 w20=>R (Value.bool t21) w20))) (R (Value.bool false) w4)):Cw 165 #[(.agg (lC53 t0).toArray),(.agg (lC53 t1).toArray)] w R:=
 ckF Tryz.func165 .nil h (by kernel_rfl) (by kernel_rfl)
theorem F160_ok(t0:Int×Int×Int×Bool×Sl×Sl)(t1:Int×Int×Int×Bool×Sl×Sl)(w:World)(R:RV)(h:AllocP w (Obj.cells (lC53 t0).toArray 53) fun b1 w2=>AllocP w2 (Obj.cells (lC53 t1).toArray 53) fun b3 w4=>Qi w4 b1 (0+0) fun n5=>Qi w4 b3 (0+0) fun n6=>IfB (n5 == n6) (R (Value.bool true) w4) (∃(x7:Int×Int×Int×Bool×Sl×Sl),CellsAt w4 b1 0 (lC53 x7)/\∃(x8:Int×Int×Int×Bool×Sl×Sl),CellsAt w4 b3 0 (lC53 x8)/\Qv' 165 #[Value.agg (lC53 x7).toArray,Value.agg (lC53 x8).toArray] w4 fun t11 w10=>R (Value.bool t11) w10)):Cw 160 #[(.agg (lC53 t0).toArray),(.agg (lC53 t1).toArray)] w R:=
 ckF Tryz.func160 .nil h (by kernel_rfl) (by kernel_rfl)
noncomputable def R152_0:Code:=codeAt [1,1,1,0,1,0] (bodyOf Tryz.f152)
def R152_0a:An:=.node (.join [(27,ob)] (rg [19,27]) .nil .nil) (nd (nd (.loop [(36,oi)] (rg [12,12,36,43]) .nil)))
theorem R152_0ok1:okC tb Tryz.f152.ntmps (rA R152_0) .nil=true:=by kernel_rfl
theorem R152_0ok2:okC tb Tryz.f152.ntmps (rB R152_0) R152_0a=true:=by kernel_rfl
theorem R152_0okp:(rP R152_0).toList.all (fun p=>Nat.blt p Tryz.f152.ntmps)=true:=by kernel_rfl
theorem F152_ok(t0:Sl)(t1:Sl)(t2:Int×Int×Int×Bool×Sl×Sl)(w:World)(R:RV)(h:AllocP w (Obj.cells #[Qy t0] 102) fun b1 w2=>AllocP w2 (Obj.cells (lC53 t2).toArray 53) fun b3 w4=>AllocP w4 (Obj.map #[] 0) fun b5 w6=>AllocP w6 (Obj.cells #[Value.map none] 149) fun b7 w8=>#[Value.map (some b5)].size=1/\StoreP w8 b7 0 [Value.map (some b5)] fun w9=>AllocP w9 (Obj.cells #[Value.nilFunc] 223) fun b10 w11=>#[Value.func (Fn.func 202) #[] #[Value.pointer (some ⟨b7,0,none⟩)]].size=1/\StoreP w11 b10 0 [Value.func (Fn.func 202) #[] #[Value.pointer (some ⟨b7,0,none⟩)]] fun w12=>Cx 153 #[Qy t1] w12 fun v13 w14=>∃(x15:Nat×Array Value),v13=Value.func (Fn.func x15.1) #[] x15.2/\∀(y16:Nat->Value),RangeP Tryz.prog tb (nat_lit 47) none R152_0a (rG R152_0) (rP R152_0) (rA R152_0) (rB R152_0) (frC y16 [(3,Value.pointer (some ⟨b1,0,none⟩)),(5,Value.pointer (some ⟨b3,0,none⟩)),(6,Value.slice none 0 0),(7,Value.pointer (some ⟨b7,0,none⟩)),(8,Value.pointer (some ⟨b10,0,none⟩)),(16,Value.func (Fn.func x15.1) #[] x15.2)]) [] w14 (fun(l17:List Nat) (w18:World)=>∃(p19:Option Nat),w18.cell? ⟨b7,0,none⟩=some (Value.map p19)/\Cx 124 #[Value.map p19] w18 fun v20 w21=>∃(x22:Nat×Array Value),v20=Value.func (Fn.func x22.1) #[] x22.2/\Qu' 123 #[Value.func (Fn.func x22.1) #[] x22.2] w21 fun s25 w24=>marksP w24 l17 fun w26=>R (Qy s25) w26) (fun(l27:List Nat) (w28:World)=>marksP w28 l27 fun w29=>R (Value.slice none 0 0) w29) fun(b30:Nat) (l31:List Nat) (w32:World)=>match b30.beq 0 with|true=>∃(p34:Option Nat),w32.cell? ⟨b7,0,none⟩=some (Value.map p34)/\Cx 124 #[Value.map p34] w32 fun v35 w36=>∃(x37:Nat×Array Value),v35=Value.func (Fn.func x37.1) #[] x37.2/\Qu' 123 #[Value.func (Fn.func x37.1) #[] x37.2] w36 fun s40 w39=>marksP w39 l31 fun w41=>R (Qy s40) w41|false=>False):Cw 152 #[Qy t0,Qy t1,(.agg (lC53 t2).toArray)] w R:=
 ckF Tryz.func152 (nd (nd (nd (.node (nd (.rng [(3,.one (.box)),(5,.one (.box)),(6,.one (.sl)),(7,.one (.box)),(8,.one (.box)),(16,.one (.clo))] (.node (.join [(27,ob)] (rg [19,27]) .nil .nil) (nd (nd (.loop [(36,oi)] (rg [12,12,36,43]) .nil)))))) .nil)))) h (by kernel_rfl) (by kernel_rfl)
def F152b0j2(t8:Nat)(Jn:World->Prop)(w12:World)(s48:Sl)(y49:Nat->Int->World->Prop)(b51:Nat)(n52:Int)(w53:World)(l:Nat)(D:Nat):Prop:=IfB (decide (n52<(s48.n:Int))) (Qx s48.1 n52 (s48.2:Int) fun b56 b57=>Qi w53 b56 (b57+n52.toNat) fun n58=>∃(x59:Nat×Array Value),w53.cell? ⟨t8,0,none⟩=some (Value.func (Fn.func x59.1) #[] x59.2)/\Cx x59.1 { toList:=Qz n58::x59.snd.1 } w53 fun v60 w61=>∃y62:Unit,v60=Value.tuple #[]/\Qn y49 b51 (IntKind.i64.wrap (n52+1)) w61) ((w53.1[l]? =w12.1[l]? /\w53.1[D]? =w12.1[D]?)/\Jn w53)
def F152b0j1(t3:Nat)(t8:Nat)(x17:Int)(Jn:World->Prop)(w12:World)(t29:Bool)(w30:World)(l:Nat)(D:Nat):Prop:=IfB t29 ((w30.1[l]? =w12.1[l]? /\w30.1[D]? =w12.1[D]?)/\Jn w30) (∃(x41:Nat×Array Value),w30.cell? ⟨t8,0,none⟩=some (Value.func (Fn.func x41.1) #[] x41.2)/\Cx x41.1 { toList:=Qz x17::x41.snd.1 } w30 fun v42 w43=>∃y44:Unit,v42=Value.tuple #[]/\∃s45:Sl,w43.cell? ⟨t3,0,none⟩=some (Qy s45)/\Qx s45.1 x17 (s45.2:Int) fun b46 b47=>Qs w43 b46 (b47+x17.toNat) fun s48=>Ql (α:=Int) 0 w43 fun y49 b51 n52 w53=>(F152b0j2 t8 Jn w12 s48 y49 b51 n52 w53 l D))
theorem F152b0_ok(t3:Nat)(t5:Nat)(t6:Sl)(t7:Nat)(t8:Nat)(t16:Nat×Array Value)(x17:Int)(x18:Int×Int×Int×Bool×Sl×Sl)(l D n₀:Nat)(Jn:World->Prop)(Jx:Code->World->Prop)(W:World){g:Nat->Value}(h:AllocP W (Obj.cells #[Qz 0,Qz 0,Qz 0,Value.bool false,Value.slice none 0 0,Value.slice none 0 0] 53) fun b1 w2=>(lC53 x18).toArray.size=6/\StoreP w2 b1 0 (lC53 x18) fun w3=>([]:List Nat)=[]/\(w3.1[l]? =W.1[l]? /\w3.1[D]? =W.1[D]?)/\∀(w12:World),Stb n₀ w3 w12->Its w3 w12->(∃y15:Loop,w12.1[l]? =some (Obj.loop y15))->∃(y19:Bool->World->Prop),(∃(p20:Option Nat),w12.cell? ⟨t7,0,none⟩=some (Value.map p20)/\MapGetP (TypeDesc.int IntKind.i64) w12 (Value.map p20) (Qz x17) (Value.bool false) fun(v21:Value) (t22:Bool)=>∃t23:Bool,v21=Value.bool t23/\IfB t23 (([]:List Nat)=[]/\y19 true w12) (∃(x24:Int×Int×Int×Bool×Sl×Sl),CellsAt w12 t5 0 (lC53 x24)/\∃(x25:Int×Int×Int×Bool×Sl×Sl),CellsAt w12 b1 0 (lC53 x25)/\Qv' 160 #[Value.agg (lC53 x24).toArray,Value.agg (lC53 x25).toArray] w12 fun t28 w27=>([]:List Nat)=[]/\y19 (!t28) w27))/\∀(t29:Bool)(w30:World)(y31:Nat->Value),y19 t29 w30->(F152b0j1 t3 t8 x17 Jn w12 t29 w30 l D)):
  BodyP Tryz.prog tb Tryz.f152.ntmps l D n₀ R152_0a (rP R152_0) (rA R152_0) (rB R152_0) (frC g [(3,Value.pointer (some ⟨t3,0,none⟩)),(5,Value.pointer (some ⟨t5,0,none⟩)),(6,Value.slice t6.1 t6.2 t6.3),(7,Value.pointer (some ⟨t7,0,none⟩)),(8,Value.pointer (some ⟨t8,0,none⟩)),(16,Value.func (Fn.func t16.1) #[] t16.2)]) Jn Jx [Value.int IntKind.i64 x17,(.agg (lC53 x18).toArray)] W:=
 Eq.mp (by kernel_rfl) h
theorem F202_ok(t0:Int)(t1:Nat)(w:World)(R:RV)(h:∃(p1:Option Nat),w.cell? ⟨t1,0,none⟩=some (Value.map p1)/\MapSetP (TypeDesc.int IntKind.i64) w (Value.map p1) (Qz t0) (Value.bool true) fun w2=>R (Value.tuple #[]) w2):Cw 202 #[Qz t0,Value.pointer (some ⟨t1,0,none⟩)] w R:=
 ckF Tryz.func202 .nil h (by kernel_rfl) (by kernel_rfl)
theorem F153_ok(t0:Sl)(w:World)(R:RV)(h:AllocP w (Obj.cells #[Qy t0] 39) fun b1 w2=>R (Value.func (Fn.func 203) #[] #[Value.pointer (some ⟨b1,0,none⟩)]) w2):Cw 153 #[Qy t0] w R:=
 ckF Tryz.func153 .nil h (by kernel_rfl) (by kernel_rfl)
def F203j1(t0:Nat)(t1:Nat)(R:RV)(y2:Nat->Int->World->Prop)(b4:Nat)(n5:Int)(w6:World):Prop:=IfB (decide (0<=n5)) (∃s9:Sl,w6.cell? ⟨t1,0,none⟩=some (Qy s9)/\Qx s9.1 n5 (s9.2:Int) fun b10 b11=>∃(x12:Int×Int×Int×Bool×Sl×Sl),CellsAt w6 b10 (b11+n5.toNat*6) (lC53 x12)/\YW Tryz.prog t0 #[Qz n5,Value.agg (lC53 x12).toArray] w6 fun(t13:Bool) (w14:World)=>IfB (!t13) (R (Value.tuple #[]) w14) (Qn y2 b4 (IntKind.i64.wrap (n5-1)) w14)) (R (Value.tuple #[]) w6)
theorem F203_ok(t0:Nat)(t1:Nat)(w:World)(R:RV)(h:∃s1:Sl,w.cell? ⟨t1,0,none⟩=some (Qy s1)/\Ql (α:=Int) (IntKind.i64.wrap ((s1.2:Int)-1)) w fun y2 b4 n5 w6=>(F203j1 t0 t1 R y2 b4 n5 w6)):Cw 203 #[Value.func (Fn.yield t0) #[] #[],Value.pointer (some ⟨t1,0,none⟩)] w R:=
 ckF Tryz.func203 (nd (.loop [(3,oi)] (rg [3,3,7,18]) .nil)) h (by kernel_rfl) (by kernel_rfl)
def F85j1(t0:Sl)(R:RV)(y1:Nat->Sl×Int->World->Prop)(b3:Nat)(x4:Sl×Int)(w5:World):Prop:=IfB (decide (x4.snd<(t0.n:Int))) (Qx t0.1 x4.2 (t0.2:Int) fun b8 b9=>∃(x10:Int×Int×Int×Bool×Sl×Sl),CellsAt w5 b8 (b9+x4.2.toNat*6) (lC53 x10)/\AllocP w5 (Obj.cells #[Qz 0,Qz 0,Qz 0,Value.bool false,Value.slice none 0 0,Value.slice none 0 0] 53) fun b11 w12=>(lC53 x10).toArray.size=6/\StoreP w12 b11 0 (lC53 x10) fun w13=>(0<=x4.2/\x4.2<=(t0.3:Int))/\∃(x14:Int×Int×Int×Bool×Sl×Sl),CellsAt w13.drew b11 0 (lC53 x14)/\Qu' 152 #[Qy x4.fst,Value.slice (slAddr t0.1 t0.3 0 6) x4.2.toNat t0.3,Value.agg (lC53 x14).toArray] w13.drew fun s17 w16=>1*1<=16777216/\AllocP w16 (Obj.cells #[Qy s17] 30) fun b18 w19=>∃(l20:List Value),ReadC w19 (some ⟨b18,0,none⟩) (1*1) l20/\AppendP tt30 30 w19 x4.fst.1 x4.fst.2 x4.fst.3 1 l20 fun s21 w22=>Qn y1 b3 ({ p:=s21.1,n:=s21.2,c:=s21.3 },IntKind.i64.wrap (x4.2+1)) w22) (R (Qy x4.fst) w5)
theorem F85_ok(t0:Sl)(w:World)(R:RV)(h:Ql (α:=Sl×Int) ({ p:=none,n:=0,c:=0 },0) w fun y1 b3 x4 w5=>(F85j1 t0 R y1 b3 x4 w5)):Cw 85 #[Qy t0] w R:=
 ckF Tryz.func85 (nd (nd (.node (nd (.loop [(3,.one (.sl)),(8,oi)] (rg [3,5,8,22]) (nd (nd (.node (nd (.draw (sts [0,1,2,3,4,5] (.ac 6 [0] (.ac 7 [0] (.ac 8 [] (.st 9 .fin) .non) .non) .non)))) .nil))))) .nil))) h (by kernel_rfl) (by kernel_rfl)
def F118j1(t1:Sl)(R:RV)(b1:Nat)(s5:Sl)(y6:Nat->Sl×Int->World->Prop)(b8:Nat)(x9:Sl×Int)(w10:World):Prop:=IfB (decide (x9.snd<(s5.n:Int))) (Qx s5.1 x9.2 (s5.2:Int) fun b13 b14=>Qs w10 b13 (b14+x9.2.toNat) fun s15=>Qu' 111 #[Qy s15] w10 fun s18 w17=>1*1<=16777216/\AllocP w17 (Obj.cells #[Qy s18] 30) fun b19 w20=>∃(l21:List Value),ReadC w20 (some ⟨b19,0,none⟩) (1*1) l21/\AppendP tt30 30 w20 x9.fst.1 x9.fst.2 x9.fst.3 1 l21 fun s22 w23=>Qn y6 b8 ({ p:=s22.1,n:=s22.2,c:=s22.3 },IntKind.i64.wrap (x9.2+1)) w23) (∃(x25:Int×Int×Int×Bool×Sl×Sl),CellsAt w10 b1 0 (lC53 x25)/\Qu' 152 #[Qy s5,Qy t1,Value.agg (lC53 x25).toArray] w10 fun s28 w27=>1*1<=16777216/\AllocP w27 (Obj.cells #[Qy s28] 30) fun b29 w30=>∃(l31:List Value),ReadC w30 (some ⟨b29,0,none⟩) (1*1) l31/\AppendP tt30 30 w30 x9.fst.1 x9.fst.2 x9.fst.3 1 l31 fun s32 w33=>R (Qy s32) w33)
def F118j2(t0:Sl)(t1:Sl)(R:RV)(b1:Nat)(y34:Nat->Sl×Int->World->Prop)(b36:Nat)(x37:Sl×Int)(w38:World):Prop:=IfB (decide (x37.snd<(t0.n:Int))) (Qx t0.1 x37.2 (t0.2:Int) fun b41 b42=>Qs w38 b41 (b42+x37.2.toNat) fun s43=>Qu' 111 #[Qy s43] w38 fun s46 w45=>1*1<=16777216/\AllocP w45 (Obj.cells #[Qy s46] 30) fun b47 w48=>∃(l49:List Value),ReadC w48 (some ⟨b47,0,none⟩) (1*1) l49/\AppendP tt30 30 w48 x37.fst.1 x37.fst.2 x37.fst.3 1 l49 fun s50 w51=>Qn y34 b36 ({ p:=s50.1,n:=s50.2,c:=s50.3 },IntKind.i64.wrap (x37.2+1)) w51) (∃(x53:Int×Int×Int×Bool×Sl×Sl),CellsAt w38 b1 0 (lC53 x53)/\Qu' 152 #[Qy t0,Qy t1,Value.agg (lC53 x53).toArray] w38 fun s56 w55=>1*1<=16777216/\AllocP w55 (Obj.cells #[Qy s56] 30) fun b57 w58=>∃(l59:List Value),ReadC w58 (some ⟨b57,0,none⟩) (1*1) l59/\AppendP tt30 30 w58 x37.fst.1 x37.fst.2 x37.fst.3 1 l59 fun s60 w61=>R (Qy s60) w61)
theorem F118_ok(t0:Sl)(t1:Sl)(t2:Int×Int×Int×Bool×Sl×Sl)(w:World)(R:RV)(h:AllocP w (Obj.cells (lC53 t2).toArray 53) fun b1 w2=>IfB ((t0.2:Int) != (t1.2:Int)) (Qu' 85 #[Qy t1] w2 fun s5 w4=>Ql (α:=Sl×Int) ({ p:=none,n:=0,c:=0 },0) w4 fun y6 b8 x9 w10=>(F118j1 t1 R b1 s5 y6 b8 x9 w10)) (Ql (α:=Sl×Int) ({ p:=none,n:=0,c:=0 },0) w2 fun y34 b36 x37 w38=>(F118j2 t0 t1 R b1 y34 b36 x37 w38))):Cw 118 #[Qy t0,Qy t1,(.agg (lC53 t2).toArray)] w R:=
 ckF Tryz.func118 (nd (nd (nd (.node (nd (.loop [(7,.one (.sl)),(19,oi)] (rg [7,7,9,9,19,28]) .nil)) .nil)))) h (by kernel_rfl) (by kernel_rfl)
theorem F124_ok(t0:Option Nat)(w:World)(R:RV)(h:AllocP w (Obj.cells #[Value.map t0] 149) fun b1 w2=>R (Value.func (Fn.func 180) #[] #[Value.pointer (some ⟨b1,0,none⟩)]) w2):Cw 124 #[Value.map t0] w R:=
 ckF Tryz.func124 .nil h (by kernel_rfl) (by kernel_rfl)
def F180(t0:Nat)(t1:Nat)(w:World)(R:RV):Prop:=∃(p1:Option Nat),w.cell? ⟨t1,0,none⟩=some (Value.map p1)/\MapItP w (Value.map p1) fun b2 w3=>Ql (α:=Unit) PUnit.unit w3 fun y4 b6 y7 w8=>NextP w8 b2 (fun w11=>R (Value.tuple #[]) w11) fun(v12 v13:Value) (w14:World)=>EntryP w14 b2 fun(v15 v16:Value)=>YW Tryz.prog t0 #[v15] w14 fun(t17:Bool) (w18:World)=>IfB (!t17) (R (Value.tuple #[]) w18) (Qn y4 b6 PUnit.unit w18)
theorem F180_ok(t0:Nat)(t1:Nat)(w:World)(R:RV)(h:F180 t0 t1 w R):Cw 180 #[Value.func (Fn.yield t0) #[] #[],Value.pointer (some ⟨t1,0,none⟩)] w R:=
 ckF Tryz.func180 (nd (.loop [] (rg [3,3,6,13]) .nil)) h (by kernel_rfl) (by kernel_rfl)
theorem F180_eq(l b:Nat)(W:World)(R:RV):F180 l b W R=KeysF Tryz.prog l b W R:=rfl
theorem it180{w:World}{b1:Nat}{mo:MO}{ks:List Int}(hI:KeysI b1 mo w)(hks:KeysE mo ks)(hl:ks.length<=1000000):IntIt 180 #[.pointer (some ⟨b1,0,none⟩)] w fun xs=>xs.Perm ks:=
 keysIt en180 (fun l W R h=>F180_ok l b1 W R (by rw[F180_eq];exact h)) hI hks hl
section
variable {β:Type} {enc:β->Value}
end
abbrev NdV:=Int×Int×Int×Bool×Sl×Sl
abbrev nC(x:NdV):List Value:=[.int .i64 x.1,.int .i64 x.2.1,.int .i64 x.2.2.1,.bool x.2.2.2.1,.slice x.2.2.2.2.1.1 x.2.2.2.2.1.2 x.2.2.2.2.1.3,.slice x.2.2.2.2.2.1 x.2.2.2.2.2.2 x.2.2.2.2.2.3]
abbrev ndV(x:NdV):Value:=.agg #[.int .i64 x.1,.int .i64 x.2.1,.int .i64 x.2.2.1,.bool x.2.2.2.1,.slice x.2.2.2.2.1.1 x.2.2.2.2.1.2 x.2.2.2.2.1.3,.slice x.2.2.2.2.2.1 x.2.2.2.2.2.2 x.2.2.2.2.2.3]
theorem nC_len(x:NdV):(nC x).length=6:=rfl
theorem nC_one(x:NdV):One (nC x):=by intro v hv;simp at hv;rcases hv with rfl|rfl|rfl|rfl|rfl|rfl<;>rfl
structure Nd where
 v:NdV
 rs:List Spn
 ws:List Spn
abbrev nL(x:Nd):List Value:=nC x.v
theorem nL_len(x:Nd):(nL x).length=6:=rfl
theorem nL_one(x:Nd):One (nL x):=nC_one x.v
structure NdOk(w:World)(n:Nd):Prop where
 rs:Rd w n.v.2.2.2.2.1 2 (n.rs.flatMap sv)
 ws:Rd w n.v.2.2.2.2.2 2 (n.ws.flatMap sv)
 rl:n.rs.length<=1000000
 wl:n.ws.length<=1000000
theorem NdOk.ext{w w':World}{n:Nd}(h:NdOk w n)(e:Ext w w'):NdOk w' n:=⟨h.rs.ext e,h.ws.ext e,h.rl,h.wl⟩
theorem boxNd{w:World}{x:NdV}{z:Array Value}{T:TypeId}(hz:z.size=6){K:Nat->World->Prop}(hK:∀b w',w.heap.size=b->w'.heap.size=b+1->w'.heap[b]? =some (.cells (nC x).toArray T (0,0))->Ext w w'->(∀n,n<=w.heap.size->Stb n w w')->K b w'):
  AllocP w (.cells z T) fun b w2=>#[Value.int .i64 x.1,.int .i64 x.2.1,.int .i64 x.2.2.1,.bool x.2.2.2.1,.slice x.2.2.2.2.1.1 x.2.2.2.2.1.2 x.2.2.2.2.1.3,.slice x.2.2.2.2.2.1 x.2.2.2.2.2.2 x.2.2.2.2.2.3].size=6/\StoreP w2 b 0 (nC x) (K b):=
 boxCells (vs:=nC x) rfl (nC_one x) hz hK
def mtP(xs ys:List Spn):Prop:=∃k,hasS xs k/\hasS ys k
def cnfP(a b:Nd):Prop:=a.v.1≠b.v.1/\(mtP a.ws b.rs\/mtP a.ws b.ws\/mtP a.rs b.ws)
def dirP(a b:Nd):Prop:=a.v.1=b.v.1\/cnfP a b
theorem c165{w:World}{a b:Nd}(ha:NdOk w a)(hb:NdOk w b):
  Cw 165 #[ndV a.v,ndV b.v] w fun v w'=>∃r,v=.bool r/\(r=true↔cnfP a b)/\Ext w w':=by
 refine F165_ok a.v b.v w _ fun b1 w2 h2 b3 w4 h4=>?_
 have e4:Ext w w4:=(h2.ch _).trans (h4.ch _)
 have H1:=h4.at h2.new
 have H3:=h4.new
 have q1:∀ {W:World}(o:Nat),Ext w4 W->W.cell? ⟨b1,0+o,none⟩=(nC a.v)[o]? :=fun o e=>by rw[cell_of (e.at H1),Nat.zero_add];exact List.getElem?_toArray ..
 have q3:∀ {W:World}(o:Nat),Ext w4 W->W.cell? ⟨b3,0+o,none⟩=(nC b.v)[o]? :=fun o e=>by rw[cell_of (e.at H3),Nat.zero_add];exact List.getElem?_toArray ..
 refine⟨_,q1 0 (Ch.refl _ _),_,q3 0 (Ch.refl _ _),IfB.intro (fun hne=>?_) fun he=>?_⟩
 ·have hne:a.v.1≠b.v.1:=by simpa using hne
  refine⟨_,q1 5 (Ch.refl _ _),_,q3 4 (Ch.refl _ _),(c138 (ha.ws.ext e4) (hb.rs.ext e4) ha.wl hb.rl).use ?_⟩
  rintro _ w10 ⟨r1,rfl,hr1,e10⟩
  refine⟨r1,rfl,IfB.intro (fun h=>⟨true,rfl,?_,e4.trans e10⟩) fun h=>?_⟩
  ·exact⟨fun _=>⟨hne,.inl (hr1.1 h)⟩,fun _=>rfl⟩
  have n1:¬mtP a.ws b.rs:=fun h'=>by rw[hr1.2 h'] at h;cases h
  have e410:=e4.trans e10
  refine⟨_,q1 5 e10,_,q3 5 e10,(c138 (ha.ws.ext e410) (hb.ws.ext e410) ha.wl hb.wl).use ?_⟩
  rintro _ w15 ⟨r2,rfl,hr2,e15⟩
  refine⟨r2,rfl,IfB.intro (fun h=>⟨true,rfl,?_,e410.trans e15⟩) fun h=>?_⟩
  ·exact⟨fun _=>⟨hne,.inr (.inl (hr2.1 h))⟩,fun _=>rfl⟩
  have n2:¬mtP a.ws b.ws:=fun h'=>by rw[hr2.2 h'] at h;cases h
  have e415:=e410.trans e15
  refine⟨_,q1 4 (e10.trans e15),_,q3 5 (e10.trans e15),(c138 (ha.rs.ext e415) (hb.ws.ext e415) ha.rl hb.wl).use ?_⟩
  rintro _ w20 ⟨r3,rfl,hr3,e20⟩
  refine⟨r3,rfl,r3,rfl,?_,e415.trans e20⟩
  rw[hr3]
  exact⟨fun h=>⟨hne,.inr (.inr h)⟩,fun h=>by
   rcases h.2 with h|h|h
   ·exact absurd h n1
   ·exact absurd h n2
   ·exact h⟩
 ·have he:a.v.1=b.v.1:=by simpa using he
  exact⟨false,rfl,⟨fun h=>(by cases h),fun h=>absurd he h.1⟩,e4⟩
theorem c160{w:World}{a b:Nd}(ha:NdOk w a)(hb:NdOk w b):
  Cw 160 #[ndV a.v,ndV b.v] w fun v w'=>∃r,v=.bool r/\(r=true↔dirP a b)/\Ext w w':=by
 refine F160_ok a.v b.v w _ fun b1 w2 h2 b3 w4 h4=>?_
 have e4:Ext w w4:=(h2.ch _).trans (h4.ch _)
 have H1:=h4.at h2.new
 have H3:=h4.new
 refine⟨a.v.1,by rw[cell_of H1];rfl,b.v.1,by rw[cell_of H3];rfl,IfB.intro (fun he=>?_) fun hne=>?_⟩
 ·have he:a.v.1=b.v.1:=by simpa using he
  exact⟨true,rfl,⟨fun _=>.inl he,fun _=>rfl⟩,e4⟩
 ·have hne:a.v.1≠b.v.1:=by simpa using hne
  refine⟨a.v,cellsAt_of H1 fun i v hv=>by simpa using hv,b.v,cellsAt_of H3 fun i v hv=>by simpa using hv,(c165 (ha.ext e4) (hb.ext e4)).use ?_⟩
  rintro _ w10 ⟨r,rfl,hr,e10⟩
  exact⟨r,rfl,r,rfl,hr.trans ⟨.inr,fun h=>h.resolve_left hne⟩,e4.trans e10⟩
structure Hst(w:World)(t:Sl)(hs:List Nd):Prop where
 rd:Rd w t 6 (hs.flatMap nL)
 ok:∀n∈hs,NdOk w n
 len:hs.length<=1000000
 cap:t.n<=t.c
theorem Hst.ext{w w':World}{t:Sl}{hs:List Nd}(h:Hst w t hs)(e:Ext w w'):Hst w' t hs:=⟨h.rd.ext e,fun n hn=>(h.ok n hn).ext e,h.len,h.cap⟩
theorem Hst.n{w:World}{t:Sl}{hs:List Nd}(h:Hst w t hs):t.n=hs.length:=rdN nL_len (by omega) h.rd
theorem Hst.at{w:World}{t:Sl}{hs:List Nd}(h:Hst w t hs){i:Nat}{x:Nd}(hx:hs[i]? =some x):∃b o,t.p=some ⟨b,o,none⟩/\CellsAt w b (o+i*6) (nC x.v):=
 h.rd.elem (i:=i) (by have:=h.n;have:=(List.getElem?_eq_some_iff.1 hx).1;omega) (by omega) (flatGet nL_len hx)
theorem Hst.get{w:World}{t:Sl}{hs:List Nd}(h:Hst w t hs){i:Nat}{x:Nd}(hx:hs[i]? =some x):NdOk w x:=h.ok x (List.mem_of_getElem? hx)
theorem Hst.cut{w:World}{t:Sl}{hs:List Nd}(h:Hst w t hs){k:Nat}(hk:k<=hs.length):Hst w ⟨t.p,k,t.c⟩ (hs.take k):=by
 refine⟨?_,fun n hn=>h.ok n (List.mem_of_mem_take hn),by rw[List.length_take];have:=h.len;omega,by have:=h.cap;have:=h.n;dsimp only;omega⟩
 have:=h.rd.cut (k:=k) (by have:=h.n;omega)
 rw[flatTake nL_len] at this
 exact this
def EdP(hs:List Nd)(i k:Nat):Prop:=k<i/\∃a b,hs[i]? =some a/\hs[k]? =some b/\dirP a b
abbrev bkA(x:Int×NdV):Array Value:=#[iv x.1,ndV x.2]
structure InvB(b:Nat)(t:Sl)(vs:List NdV)(W:World):Prop where
 box:∃T,W.heap[b]? =some (.cells #[slV t] T (0,0))
 rd:Rd W t 6 (vs.flatMap nC)
theorem InvB.stb{n b:Nat}{t:Sl}{vs:List NdV}{W W':World}(h:InvB b t vs W)(hS:Stb n W W'):InvB b t vs W':=by
 obtain⟨⟨T,h1⟩,h2⟩:=h
 exact⟨⟨T,hS.keep _ _ h1 rfl⟩,rd_stb h2 hS⟩
theorem itB(b:Nat)(t:Sl)(vs:List NdV)(hl:vs.length<=1000000):
  Iter Tryz.prog 203 #[.pointer (some ⟨b,0,none⟩)] bkA false (fun pre x=>∃i:Nat,pre.length+i+1=vs.length/\x.1=(i:Int)/\vs[i]? =some x.2) (fun xs=>xs.length=vs.length) (InvB b t vs):=by
 refine⟨en203,fun l J Jx W hJ hJx hInv hSz _ hstep h0=>?_⟩
 have hI0:=hInv _ _ h0
 have hn:=rdN nC_len (by omega) hI0.rd
 obtain⟨T1,hT1⟩:=hI0.box
 refine F203_ok l b W _ ⟨t,by rw[cell_of hT1];rfl,fun n x w6=>∃pre:List (Int×NdV),pre.length<=vs.length/\n+pre.length=vs.length/\x=(vs.length:Int)-1-(pre.length:Int)/\J pre w6,⟨vs.length,[],Nat.zero_le _,rfl,?_,h0⟩,?_⟩
 ·rw[wrap_of (by omega) (by omega),hn];simp
 rintro n _ w6 g ⟨pre,hp,hnp,rfl,hj⟩
 have hI:=hInv _ _ hj
 obtain⟨T2,hT2⟩:=hI.box
 unfold F203j1
 refine IfB.dec (fun hge=>?_) fun hlt=>?_
 ·obtain⟨i,hi⟩:∃i:Nat,pre.length+i+1=vs.length:=⟨vs.length-1-pre.length,by omega⟩
  have hx:vs[i]? =some vs[i]:=List.getElem?_eq_getElem (by omega)
  generalize vs[i]=x at hx
  have hie:(vs.length:Int)-1-(pre.length:Int)=(i:Int):=by omega
  rw[hie]
  obtain⟨a,o,ha,hc⟩:=hI.rd.elem (i:=i) (by omega) (by omega) (flatGet nC_len hx)
  refine⟨t,by rw[cell_of hT2];rfl,a,o,ha,(⟨by omega,by omega⟩:(0:Int)<=(i:Int)/\(i:Int)<(t.n:Int)),x,by rw[Int.toNat_natCast];exact hc,(hstep pre ((i:Int),x) w6 hj ⟨i,hi,rfl,hx⟩).mono fun r w14 hr=>?_⟩
  cases r with
  | false=>exact IfB.yes rfl (.inr ⟨_,hr⟩)
  | true=>
   refine IfB.no rfl ⟨rfl,n-1,by omega,pre++[((i:Int),x)],by simp;omega,by simp;omega,?_,hr.1⟩
   rw[wrap_of (by omega) (by omega)]
   simp
   omega
 ·exact .inl ⟨pre,by omega,hj⟩
theorem c153(t:Sl)(w:World):Cw 153 #[slV t] w fun v w'=>∃b T,v=.func (.func 203) #[] #[.pointer (some ⟨b,0,none⟩)]/\IsAlloc w (.cells #[slV t] T (0,0)) b w':=
 F153_ok t w _ fun b w' a=>⟨b,_,rfl,a⟩
def encB(b:Bool):Value:=.bool b
theorem c202{w:World}{b r:Nat}{f:List (Int×Bool)}(k:Int)(hb:∃T,w.heap[b]? =some (.cells #[.map (some r)] T (0,0)))(hM:Mp encB w r f):
  Cw 202 #[iv k,.pointer (some ⟨b,0,none⟩)] w fun v w'=>v=.tuple #[]/\∃f',(∀k',getM f' k'=if k=k' then some true else getM f k')/\Mp encB w' r f'/\Ch (fun i=>i=r) w w':=by
 obtain⟨T,hT⟩:=hb
 refine F202_ok k b w _ ⟨some r,by rw[cell_of hT];rfl,Mp.set (enc:=encB) (v:=true) hM fun f' w' h1 h2 h3=>⟨rfl,f',h1,h2,h3⟩⟩
def dOf(n:Nd):Int×Int×Int×Bool×List Spn×List Spn:=(n.v.1,n.v.2.1,n.v.2.2.1,n.v.2.2.2.1,n.rs,n.ws)
def ownL(hs:List Nd)(sa:Int):List Nd:=hs.filter fun n=>n.v.1 == sa
theorem ownL_len(hs:List Nd)(sa:Int):(ownL hs sa).length<=hs.length:=List.length_filter_le _ _
def SpsOk(l:List Spn):Prop:=l.length<=40/\∀s∈l,mayS s
def nextP(o:Option Nd)(n:Nd)(steps:Int):Prop:=match o with
 | none=>n.v.2.2.2.1=false/\n.v.2.2.1=0
 | some m=>n.v.2.1=m.v.2.1/\match n.v.2.2.2.1,m.v.2.2.2.1 with
  | false,false=>n.v.2.2.1=m.v.2.2.1+1/\n.v.2.2.1<steps
  | false,true=>False
  | true,false=>n.v.2.2.1=m.v.2.2.1
  | true,true=>n.v.2.2.1=m.v.2.2.1-1
structure NodeOk(x:CatD)(o:Option Nd)(n:Nd):Prop where
 s0:0<=n.v.1
 c0:0<=n.v.2.1
 cn:n.v.2.1<(x.1.length:Int)
 st0:0<=n.v.2.2.1
 rs:SpsOk n.rs
 ws:SpsOk n.ws
 nx:nextP o n (nSt x n.v.2.1.toNat)
def lastOwn(hs:List Nd)(i:Nat)(s:Int):Option Nd:=(ownL (hs.take i) s).getLast?
structure HMay(x:CatD)(hs:List Nd):Prop where
 cat:CatOk x
 len:hs.length<=100
 ok:∀(i:Nat) n,hs[i]? =some n->NodeOk x (lastOwn hs i n.v.1) n
theorem c199{w:World}{t:Sl}{xs:List Spn}{t1:Nat×Array Value}{q:Spn->Bool}(h:Rd w t 2 (xs.flatMap sv))(hl:xs.length<=1000000)
  (hq:∀(x:Spn)(W:World),x∈xs->Ext w W->∀R':RV,(∀w',Ext W w'->R' (.bool (q x)) w')->Cx t1.1 { toList:=spV x::t1.2.toList } W R'):
  Cw 199 #[slV t,.func (.func t1.1) #[] t1.2] w fun v w'=>v=.bool (xs.any q)/\Ext w w':=
 F199_ok t t1 w _ ((c241 h hl hq).use fun v w' ⟨hv,e⟩=>⟨_,hv,by rw[any_idx],e⟩)
theorem c200(x:Spn)(w:World):Cw 200 #[spV x] w fun v w'=>v=.bool (bq (¬mayS x))/\Ext w w':=by
 refine F200_ok x w _ fun b1 w2 a2=>⟨x,boxAll (cs:=sv x) a2.new (Ch.refl _ _),(c201 x w2).use ?_⟩
 rintro _ w5 ⟨rfl,e5⟩
 exact⟨_,rfl,by rw[bq_neg decide_eq_true_iff],Ch.trans (a2.ch _) e5⟩
theorem c150{w:World}{t:Sl}{l:List Spn}(h:Rd w t 2 (l.flatMap sv)):Cw 150 #[slV t] w fun v w'=>∃r,v=.bool r/\(r=true↔SpsOk l)/\Ext w w':=by
 have hn:=rdN sv_len (by omega) h
 refine F150_ok t w _ (IfB.dec (fun h1=>?_) fun h1=>⟨false,rfl,⟨fun h=>(by cases h),fun h=>absurd h.1 (by omega)⟩,Ch.refl _ _⟩)
 refine(c199 (t1:=(200,#[])) (q:=fun x=>bq (¬mayS x)) h (by omega) fun x W _ e R' hR=>(c200 x W).use fun v w' ⟨hv,e'⟩=>hv ▸ hR w' e').use ?_
 rintro _ w2 ⟨rfl,e2⟩
 refine⟨_,rfl,_,rfl,?_,e2⟩
 rw[Bool.not_eq_true',any_bq]
 exact⟨fun h=>⟨by omega,h⟩,fun h=>h.2⟩
theorem c151{w:World}{t:Sl}{os:List Nd}(h:Rd w t 6 (os.flatMap nL))(hl:os.length<=1000)(n:Nd)(steps:Int)(hr:∀m∈os,0<=m.v.2.2.1/\m.v.2.2.1<=1000):
  Cw 151 #[slV t,ndV n.v,iv steps] w fun v w'=>∃r,v=.bool r/\(r=true↔nextP os.getLast? n steps)/\Ext w w':=by
 have hn:=rdN nL_len (by omega) h
 refine F151_ok t n.v steps w _ fun b1 w2 a2=>?_
 have e2:Ext w w2:=a2.ch _
 have q:=fun{W:World} (o:Nat) (e:Ext w2 W)=>boxAt (cs:=nC n.v) a2.new o e
 have r2:=Ch.refl (fun _=>False) w2
 refine IfB.intro (fun h0=>?_) fun h0=>?_
 ·have h0:t.n=0:=by
   have:(t.n:Int)=0:=by simpa using h0
   omega
  have:os=[]:=List.eq_nil_of_length_eq_zero (by omega)
  subst this
  refine⟨_,q 3 r2,IfB.intro (fun h1=>⟨_,q 2 r2,_,rfl,?_,e2⟩) fun h1=>⟨false,rfl,⟨fun h=>(by cases h),fun h=>?_⟩,e2⟩⟩
  ·have h1:n.v.2.2.2.1=false:=by simpa using h1
   rw[beq_iff_eq];exact⟨fun h=>⟨h1,h⟩,fun h=>h.2⟩
  ·have h1:n.v.2.2.2.1=true:=by simpa using h1
   have:=h.1;rw[h1] at this;cases this
 ·have h0:0<os.length:=by
   have:¬(t.n:Int)=0:=by simpa using h0
   omega
  have hx:os[os.length-1]? =some (os[os.length-1]'(by omega)):=List.getElem?_eq_getElem _
  have hlast:os.getLast?=some (os[os.length-1]'(by omega)):=by rw[List.getLast?_eq_getElem?];exact hx
  rw[hlast]
  have hm:=hr _ (List.getElem_mem (show os.length-1<os.length by omega))
  generalize os[os.length-1]'_=m at hx hm
  clear hlast
  have hw:IntKind.i64.wrap ((t.n:Int)-1)=((os.length-1:Nat):Int):=by rw[wrap_of (by omega) (by omega)];omega
  unfold F151k1
  rw[hw]
  obtain⟨b,o,hp,hc⟩:=(h.ext e2).elem (i:=os.length-1) (by omega) (by omega) (flatGet nL_len hx)
  refine⟨b,o,hp,⟨by omega,by omega⟩,m.v,by rw[Int.toNat_natCast];exact hc,fun b8 w9 a9=>⟨rfl,store_all (vs:=nC m.v) a9.new rfl (nC_one m.v) fun w10 u10=>?_⟩⟩
  have e10:Ext w2 w10:=Ext.fresh a9 u10
  have E10:Ext w w10:=e2.trans e10
  have p:=fun(o:Nat)=>boxAt (cs:=nC m.v) u10.new o (Ch.refl _ _)
  have w1:IntKind.i64.wrap (m.v.2.2.1+1)=m.v.2.2.1+1:=wrap_of (by omega) (by omega)
  have w0:IntKind.i64.wrap (m.v.2.2.1-1)=m.v.2.2.1-1:=wrap_of (by omega) (by omega)
  have no:¬nextP (some m) n steps->∃r,Value.bool false=.bool r/\(r=true↔nextP (some m) n steps)/\Ext w w10:=fun h=>⟨false,rfl,⟨fun h=>(by cases h),fun h'=>absurd h' h⟩,E10⟩
  refine⟨_,q 1 e10,_,p 1,IfB.intro (fun h1=>no fun h=>?_) fun h1=>?_⟩
  ·have h1:n.v.2.1≠m.v.2.1:=by simpa using h1
   exact h1 h.1
  have h1:n.v.2.1=m.v.2.1:=by simpa using h1
  refine⟨_,q 3 e10,IfB.intro (fun h2=>?_) fun h2=>?_⟩
  ·have h2:n.v.2.2.2.1=false:=by simpa using h2
   refine⟨_,p 3,IfB.intro (fun h3=>?_) fun h3=>no fun h=>?_⟩
   ·have h3:m.v.2.2.2.1=false:=by simpa using h3
    refine⟨_,q 2 e10,_,p 2,?_⟩
    try dsimp only
    rw[w1]
    refine IfB.intro (fun h4=>⟨_,q 2 e10,_,rfl,?_,E10⟩) fun h4=>no fun h=>?_
    ·have h4:n.v.2.2.1=m.v.2.2.1+1:=by simpa using h4
     rw[decide_eq_true_eq]
     simp only[nextP,h2,h3]
     exact⟨fun h=>⟨h1,h4,h⟩,fun h=>h.2.2⟩
    ·have h4:¬n.v.2.2.1=m.v.2.2.1+1:=by simpa using h4
     simp only[nextP,h2,h3] at h
     exact h4 h.2.1
   ·have h3:m.v.2.2.2.1=true:=by simpa using h3
    simp only[nextP,h2,h3] at h
    exact h.2
  ·have h2:n.v.2.2.2.1=true:=by simpa using h2
   refine⟨_,p 3,IfB.intro (fun h3=>⟨_,q 2 e10,_,p 2,_,rfl,?_,E10⟩) fun h3=>⟨_,q 2 e10,_,p 2,_,rfl,?_,E10⟩⟩
   ·have h3:m.v.2.2.2.1=false:=by simpa using h3
    simp only[nextP,h2,h3,beq_iff_eq]
    exact⟨fun h=>⟨h1,h⟩,fun h=>h.2⟩
   ·have h3:m.v.2.2.2.1=true:=by simpa using h3
    simp only[nextP,h2,h3,w0,beq_iff_eq]
    exact⟨fun h=>⟨h1,h⟩,fun h=>h.2⟩
def slE(t:Sl):Value:=slV t
def ownT(f:List (Int×Sl))(s:Int):Sl:=(getM f s).getD ⟨none,0,0⟩
structure OwM(W:World)(r lo:Nat)(hs:List Nd)(f:List (Int×Sl)):Prop where
 mp:Mp slE W r f
 ow:∀s,OwS W (ownT f s) 6 ((ownL hs s).flatMap nL)
 lo:∀s,∀j∈blk (ownT f s),lo<=j/\j≠r
 dj:∀s s',s≠s'->∀j∈blk (ownT f s),j∉blk (ownT f s')
theorem OwM.ext{W W':World}{r lo:Nat}{hs:List Nd}{f:List (Int×Sl)}(h:OwM W r lo hs f)(e:Ext W W'):OwM W' r lo hs f:=⟨h.mp.ext e,fun s=>(h.ow s).ext e,h.lo,h.dj⟩
theorem OwM.get{W:World}{r lo:Nat}{hs:List Nd}{f:List (Int×Sl)}(h:OwM W r lo hs f)(s:Int){K:Value->Bool->Prop}(hK:∀t,K (slV (ownT f s)) t):MapGetP (.int .i64) W (.map (some r)) (.int .i64 s) (.slice none 0 0) K:=by
 refine h.mp.get ?_
 have:=hK
 unfold ownT at this
 cases hg:getM f s with
 | none=>rw[hg] at this;exact this false
 | some t=>rw[hg] at this;exact this true
theorem OwM.add{W W1:World}{r lo bl:Nat}{hs:List Nd}{f:List (Int×Sl)}(h:OwM W r lo hs f)(hlo:lo<=W.heap.size)(hl:hs.length<=1000){n:Nd}{T:TypeId}(e1:Ext W W1)(hb:W1.heap[bl]? =some (.cells (nC n.v).toArray T (0,0)))(hbl:W.heap.size<=bl){K:World->Prop}
  (hK:∀W' f',OwM W' r lo (hs++[n]) f'->Ch (fun i=>lo<=i/\i<W.heap.size) W1 W'->K W'){b21:Nat}{cs21:List Value}{T21:TypeId}(h21:W.heap[b21]? =some (.cells cs21.toArray T21 (0,0)))(h21n:∀s,b21∉blk (ownT f s))(h21r:b21≠r)(hr:lo<=r):
  ∃l,ReadC W1 (some ⟨bl,0,none⟩) (1*6) l/\AppendP tt53 53 W1 (ownT f n.v.1).1 (ownT f n.v.1).2 (ownT f n.v.1).3 1 l fun s W2=>W2.cell? ⟨b21,0+0,none⟩=cs21[0]? /\MapSetP (.int .i64) W2 (.map (some r)) (.int .i64 n.v.1) (slV s) K:=by
 have hr0:=h.mp.lt
 have h1:=h.ext e1
 have hon:=owsN nL_len (by omega) (h.ow n.v.1)
 have hol:=ownL_len hs n.v.1
 have zz:=e1.size
 refine(h1.ow n.v.1).lit (new:=nC n.v) hb rfl (nC_one n.v) rfl rfl (by omega) (by decide) fun sx W2 ho' hn' hC' hbk=>⟨?_,?_⟩
 ·have k1:=e1.at h21
  rw[cell_of (hC'.at k1 (h21n n.v.1)),Nat.zero_add];exact List.getElem?_toArray ..
 have hM2:Mp slE W2 r f:=h1.mp.ch hC' fun hi=>(h1.lo n.v.1 r hi).2 rfl
 refine Mp.set (enc:=slE) (v:=sx) hM2 fun f' W3 hf' hM3 hC3=>hK W3 f' ⟨hM3,fun s=>?_,fun s j hj=>?_,fun s s' hne j hj=>?_⟩ ?_
 ·have hb':∀j∈blk sx,j≠r:=fun j hj e=>(hbk j hj).elim (fun h'=>(h1.lo _ j h').2 e) fun h'=>by omega
  by_cases hsa:n.v.1=s
  ·have:ownT f' s=sx:=by unfold ownT;rw[hf',if_pos hsa];rfl
   rw[this]
   have e2:ownL (hs++[n]) s=ownL hs s++[n]:=by unfold ownL;rw[List.filter_append];simp[hsa]
   rw[e2,List.flatMap_append,List.flatMap_singleton,<-hsa]
   exact ho'.ch hC3 fun j hj=>hb' j hj
  ·have:ownT f' s=ownT f s:=by unfold ownT;rw[hf',if_neg hsa]
   rw[this]
   have e2:ownL (hs++[n]) s=ownL hs s:=by unfold ownL;rw[List.filter_append];simp[hsa]
   rw[e2]
   exact((h1.ow s).ch hC' fun j hj hi=>h1.dj s n.v.1 (fun e=>hsa e.symm) j hj hi).ch hC3 fun j hj=>(h1.lo s j hj).2
 ·by_cases hsa:n.v.1=s
  ·have:ownT f' s=sx:=by unfold ownT;rw[hf',if_pos hsa];rfl
   rw[this] at hj
   rcases hbk j hj with h'|h'
   ·exact h1.lo _ j h'
   ·exact⟨by omega,by omega⟩
  ·have:ownT f' s=ownT f s:=by unfold ownT;rw[hf',if_neg hsa]
   rw[this] at hj;exact h1.lo s j hj
 ·have up:∀q,n.v.1≠q->∀j∈blk sx,j∉blk (ownT f q):=fun q hq j hj hi=>(hbk j hj).elim (fun h'=>h1.dj _ _ hq j h' hi) fun h'=>by have:=(h.ow q).lt j hi;omega
  by_cases h1':n.v.1=s
  ·have a1:ownT f' s=sx:=by unfold ownT;rw[hf',if_pos h1'];rfl
   have h2':¬n.v.1=s':=fun e=>hne (h1'.symm.trans e)
   have a2:ownT f' s'=ownT f s':=by unfold ownT;rw[hf',if_neg h2']
   rw[a1] at hj;rw[a2];exact up s' h2' j hj
  ·have a1:ownT f' s=ownT f s:=by unfold ownT;rw[hf',if_neg h1']
   rw[a1] at hj
   by_cases h2':n.v.1=s'
   ·have a2:ownT f' s'=sx:=by unfold ownT;rw[hf',if_pos h2'];rfl
    rw[a2];exact fun hi=>up s h1' j hi hj
   ·have a2:ownT f' s'=ownT f s':=by unfold ownT;rw[hf',if_neg h2']
    rw[a2];exact h1.dj s s' hne j hj
 ·exact(hC'.mono fun j hj1 hj=>⟨(h1.lo _ j hj).1,(h.ow _).lt j hj⟩).trans (hC3.mono fun j _ e=>by subst e;exact⟨hr,hr0⟩)
theorem lastOwn_at{hs:List Nd}{i:Nat}{s:Int}{m:Nd}(h:lastOwn hs i s=some m):∃j,j<i/\hs[j]? =some m/\m.v.1=s:=by
 have hm:=List.mem_of_getLast? h
 obtain⟨h1,h2⟩:=List.mem_filter.1 hm
 obtain⟨j,hj,rfl⟩:=List.getElem_of_mem h1
 rw[List.length_take] at hj
 refine⟨j,by omega,?_,by simpa using h2⟩
 rw[List.getElem_take];exact List.getElem?_eq_getElem _
def MayT(x:CatD)(hs:List Nd)(i:Nat):Prop:=∀(k:Nat) n,k<i->hs[k]? =some n->NodeOk x (lastOwn hs k n.v.1) n
theorem MayT.step{x:CatD}{hs:List Nd}{i:Nat}(hk:CatOk x)(h:MayT x hs i):∀(k:Nat) n,k<i->hs[k]? =some n->n.v.2.2.1<(nSt x n.v.2.1.toNat:Int):=by
 intro k
 induction k using Nat.strongRecOn with
 | ind k ih=>
  intro n hki hn
  have hN:=h k n hki hn
  have hc:n.v.2.1.toNat<x.1.length:=by have:=hN.c0;have:=hN.cn;omega
  have hx:x.1[n.v.2.1.toNat]? =some x.1[n.v.2.1.toNat]:=List.getElem?_eq_getElem hc
  have hl:=(hk.cls _ (List.getElem_mem hc)).l1
  have hns:=nSt_of hx
  have hnx:=hN.nx
  cases hl':lastOwn hs k n.v.1 with
  | none=>
   rw[hl'] at hnx
   have:=hnx.2
   omega
  | some m=>
   rw[hl'] at hnx
   obtain⟨j,hj,hm,_⟩:=lastOwn_at hl'
   have hmj:=ih j hj m (by omega) hm
   obtain⟨h1,h2⟩:=hnx
   rw[h1]
   cases hb:n.v.2.2.2.1<;>cases hb':m.v.2.2.2.1<;>simp only[hb,hb'] at h2
   ·rw[<-h1];exact h2.2
   ·omega
   ·omega
theorem steps_le{x:CatD}(hk:CatOk x)(c:Nat):nSt x c<=4:=by
 unfold nSt
 split
 ·rename_i y hy;exact(hk.cls y (List.mem_of_getElem? hy)).l4
 ·omega
theorem c84{w:World}{v:CatV}{x:CatD}{t:Sl}{hs:List Nd}(h:CatM w v x)(hH:Hst w t hs):
  Cw 84 #[cxV v,slV t] w fun r w'=>∃b,r=.bool b/\(b=true↔HMay x hs)/\Ext w w':=by
 have htn:=hH.n
 refine F84_ok v t w _ fun b1 w2 a2=>?_
 have e2:Ext w w2:=a2.ch _
 have no:∀ {V:World},¬HMay x hs->Ext w V->∃b,Value.bool false=.bool b/\(b=true↔HMay x hs)/\Ext w V:=fun h e=>⟨false,rfl,⟨fun h=>(by cases h),fun h'=>absurd h' h⟩,e⟩
 refine⟨v,cxN h a2.new (Ch.refl _ _),(c75 (h.ext e2)).use ?_⟩
 rintro _ w7 ⟨r,rfl,hr,e7⟩
 have e27:=e2.trans e7
 refine⟨r,rfl,IfB.intro (fun h1=>no (fun k=>?_) e27) fun h1=>IfB.dec (fun h2=>no (fun k=>by have:=k.len;omega) e27) fun h2=>?_⟩
 ·have h1:r=false:=by simpa using h1
  rw[hr.2 k.cat] at h1;cases h1
 have hk:=hr.1 (by simpa using h1)
 have h4:=hk.n4
 have hn:=cat_cl h
 intro b9 w10 a10
 have p10:=a10.here;have z10:=a10.size
 have E10:Ext w w10:=e27.trans (a10.ch _)
 have x10:Ext w2 w10:=Ch.trans e7 (a10.ch _)
 have zz2:=e2.size;have zz7:=e7.size
 refine⟨fun m n W=>∃(i:Nat)(f:List (Int×Sl)),i<=hs.length/\m+i=hs.length/\n=(i:Int)/\MayT x hs i/\OwM W b9 b9 (hs.take i) f/\Ext w2 W/\Ext w W/\b9<W.heap.size,
  ⟨hs.length,0,[],Nat.zero_le _,rfl,rfl,fun k n hk=>by omega,⟨.new a10,fun s=>.nil _ _,fun s j hj=>by simp[ownT,getM_nil,blk] at hj,fun s s' _ j hj=>by simp[ownT,getM_nil,blk] at hj⟩,x10,E10,by omega⟩,?_⟩
 rintro m _ W g ⟨i,f,hi,hmi,rfl,hT,hO,xW,XW,hbW⟩
 unfold F84j1
 refine IfB.dec (fun hlt=>?_) fun hge=>?_
 case refine_2=>
  have hi':i=hs.length:=by omega
  subst hi'
  exact⟨true,rfl,⟨fun _=>⟨hk,by omega,fun k n hn=>hT k n (List.getElem?_eq_some_iff.1 hn).1 hn⟩,fun _=>rfl⟩,XW⟩
 have hi':i<hs.length:=by omega
 have hx:hs[i]? =some hs[i]:=List.getElem?_eq_getElem hi'
 have htk:=take_succ_get hx
 generalize hs[i]=n at hx htk
 have noN:∀ {V:World},¬NodeOk x (lastOwn hs i n.v.1) n->Ext w V->∃b,Value.bool false=.bool b/\(b=true↔HMay x hs)/\Ext w V:=fun h e=>no (fun k=>h (k.ok i n hx)) e
 obtain⟨b18,o18,hp18,hc18⟩:=(hH.ext XW).at hx
 refine⟨b18,o18,hp18,⟨by omega,by omega⟩,n.v,by rw[Int.toNat_natCast];exact hc18,fun b21 w22 a22=>⟨rfl,store_all (vs:=nC n.v) a22.new rfl (nC_one n.v) fun w23 u23=>?_⟩⟩
 have p22:=a22.here
 have e23:Ext W w23:=Ext.fresh a22 u23
 have ed:=extDrew w23
 have e23d:Ext W w23.drew:=e23.trans ed
 have B21:=u23.new
 have q:=fun{V:World} (o:Nat) (e:Ext w23 V)=>boxAt (cs:=nC n.v) B21 o e
 refine⟨_,q 0 ed,IfB.dec (fun h1=>noN (fun k=>by have:=k.s0;omega) (XW.trans e23d)) fun h1=>⟨v,cxN h a2.new (xW.trans e23d),_,q 1 ed,(c149 (h.ext (XW.trans e23d)) n.v.2.1).use ?_⟩⟩
 rintro _ w30 ⟨rfl,e30⟩
 have f30:Ext w23 w30:=ed.trans e30
 have E30:Ext W w30:=e23.trans f30
 refine⟨_,rfl,IfB.intro (fun h2=>noN (fun k=>?_) (XW.trans E30)) fun h2=>⟨_,q 2 f30,IfB.dec (fun h3=>noN (fun k=>by have:=k.st0;omega) (XW.trans E30)) fun h3=>?_⟩⟩
 ·rw[decide_eq_true (show 0<=n.v.2.1/\n.v.2.1<(x.1.length:Int)/\n.v.2.1<4 by have:=k.c0;have:=k.cn;omega)] at h2;cases h2
 have hcl:0<=n.v.2.1/\n.v.2.1<(x.1.length:Int):=by
  have:=(by simpa using h2:0<=n.v.2.1/\n.v.2.1<(x.1.length:Int)/\n.v.2.1<4);omega
 unfold F84k2
 have hnd:=fun{V:World} (e:Ext w V)=>(hH.ext e).get hx
 refine⟨_,q 4 f30,(c150 (hnd (XW.trans E30)).rs).use ?_⟩
 rintro _ w35 ⟨r1,rfl,hr1,e35⟩
 have f35:=f30.trans e35
 have E35:Ext W w35:=E30.trans e35
 refine⟨r1,rfl,IfB.intro (fun h5=>noN (fun k=>?_) (XW.trans E35)) fun h5=>⟨_,q 5 f35,(c150 (hnd (XW.trans E35)).ws).use ?_⟩⟩
 ·have h5:r1=false:=by simpa using h5
  rw[hr1.2 k.rs] at h5;cases h5
 rintro _ w39 ⟨r2,rfl,hr2,e39⟩
 have f39:=f35.trans e39
 have E39:Ext W w39:=E35.trans e39
 refine⟨r2,rfl,IfB.intro (fun h6=>noN (fun k=>?_) (XW.trans E39)) fun h6=>?_⟩
 ·have h6:r2=false:=by simpa using h6
  rw[hr2.2 k.ws] at h6;cases h6
 have k1:=hr1.1 (by simpa using h5)
 have k2:=hr2.1 (by simpa using h6)
 obtain⟨C,hC⟩:=Int.eq_ofNat_of_zero_le hcl.1
 have hCl:C<x.1.length:=by omega
 have hxc:x.1[C]? =some x.1[C]:=List.getElem?_eq_getElem hCl
 generalize x.1[C]=y at hxc
 have hns:=nSt_of hxc
 obtain⟨pb,ob,sb,hpb,hcb,hsb,_⟩:=steps_at h hxc (XW.trans E39)
 have q1:w39.cell? ⟨b1,0+0,none⟩=some (slV v.1):=boxAt (cs:=cxC v) a2.new 0 (xW.trans E39)
 have n44:w39.cell? ⟨b21,0+1,none⟩=some (.int .i64 n.v.2.1):=q 1 f39
 have hcb':w39.cell? ⟨pb,ob+n.v.2.1.toNat*5+2,none⟩=some (slV sb):=by rw[hC,Int.toNat_natCast];exact hcb
 have nb:=boxAll (cs:=nC n.v) B21 f39
 have hO39:=hO.ext E39
 refine⟨_,q 0 f39,n.v,nb,v.1,q1,_,n44,pb,ob,hpb,⟨by omega,by omega⟩,sb,hcb',hO39.get n.v.1 fun _=>⟨ownT f n.v.1,rfl,hcb',n44,q1,nb,?_⟩⟩
 have hol:=ownL_len (hs.take i) n.v.1
 rw[List.length_take] at hol
 have hst:∀mm∈ownL (hs.take i) n.v.1,0<=mm.v.2.2.1/\mm.v.2.2.1<=1000:=fun mm hmm=>by
  obtain⟨g1,g2⟩:=List.mem_filter.1 hmm
  obtain⟨j,hj,rfl⟩:=List.getElem_of_mem g1
  rw[List.length_take] at hj
  have hj':hs[j]? =some (hs.take i)[j]:=by rw[List.getElem_take];exact List.getElem?_eq_getElem _
  have l1:=(hT j _ (by omega) hj').st0
  have l2:=MayT.step hk hT j _ (by omega) hj'
  have l3:=steps_le hk ((hs.take i)[j].v.2.1.toNat)
  omega
 refine(c151 (hO39.ow n.v.1).rd (by omega) n (sb.n:Int) hst).use ?_
 rintro _ w52 ⟨r3,rfl,hr3,e52⟩
 have f52:=f39.trans e52
 have E52:Ext W w52:=E39.trans e52
 have hsteps:(sb.n:Int)=(nSt x n.v.2.1.toNat:Int):=by rw[hC,Int.toNat_natCast,hns,hsb]
 rw[hsteps] at hr3
 refine⟨r3,rfl,IfB.intro (fun h7=>noN (fun k=>?_) (XW.trans E52)) fun h7=>?_⟩
 ·have h7:r3=false:=by simpa using h7
  rw[hr3.2 k.nx] at h7;cases h7
 have hNode:NodeOk x (lastOwn hs i n.v.1) n:=⟨by omega,hcl.1,hcl.2,by omega,k1,k2,hr3.1 (by simpa using h7)⟩
 have ed52:=extDrew w52
 have E52d:Ext W w52.drew:=E52.trans ed52
 have f52d:Ext w23 w52.drew:=f52.trans ed52
 have hOd:=hO.ext E52d
 have zE:=E52d.size;have zf:=f52d.size
 have z23:=e23.size
 have B21d:=f52d.at B21
 have h21n:∀s,b21∉blk (ownT f s):=fun s hj=>by have:=(hO.ow s).lt _ hj;omega
 have fin:∀ {W1:World},Ext w52.drew W1->∀(W':World)(f':List (Int×Sl)),OwM W' b9 b9 (hs.take i++[n]) f'->Ch (fun j=>b9<=j/\j<w52.drew.heap.size) W1 W'->
   ([]:List Nat)=[]/\∃b,b<m/\∃(i':Nat)(f:List (Int×Sl)),i'<=hs.length/\b+i'=hs.length/\IntKind.i64.wrap ((i:Int)+1)=(i':Int)/\MayT x hs i'/\OwM W' b9 b9 (hs.take i') f/\Ext w2 W'/\Ext w W'/\b9<W'.heap.size:=fun{W1} e1 W' f' hO' hC'=>by
  refine⟨rfl,m-1,by omega,i+1,f',hi',by omega,by rw[wrap_of (by omega) (by omega)];rfl,fun k n' hk' hn'=>?_,by rw[htk];exact hO',((xW.trans E52d).trans e1).chN hC' fun j hj=>by omega,((XW.trans E52d).trans e1).chN hC' fun j hj=>by omega,?_⟩
  ·rcases Nat.lt_or_ge k i with h'|h'
   ·exact hT k n' h' hn'
   ·have:k=i:=by omega
    subst this
    rw[hx] at hn';cases hn';exact hNode
  ·have:=hC'.size;have:=e1.size;omega
 have hsl:(hs.take i).length<=1000:=by rw[List.length_take];omega
 unfold F84k1
 refine⟨_,q 0 f52d,_,q 0 f52d,n.v,boxAll (cs:=nC n.v) B21 f52d,?_,by decide,fun b67 w68 a68=>?_⟩
 ·refine hOd.get n.v.1 fun _=>⟨ownT f n.v.1,rfl,boxAll (cs:=nC n.v) B21 f52d,q 0 f52d,by decide,fun b60 w61 a61=>⟨q 0 (f52d.trans (a61.ch _)),?_⟩⟩
  have p61:=a61.here
  exact hOd.add (by omega) hsl (a61.ch _) a61.new (by omega) (fun W' f' hO' hC'=>fin (a61.ch _) W' f' hO' hC') (b21:=b21) (cs21:=nC n.v) B21d h21n (by omega) (Nat.le_refl _)
 ·have p68:=a68.here
  have e68:Ext w52.drew w68:=a68.ch _
  refine⟨q 0 (f52d.trans e68),q 0 (f52d.trans e68),(hOd.ext e68).get n.v.1 fun _=>⟨ownT f n.v.1,rfl,q 0 (f52d.trans e68),?_⟩⟩
  exact hOd.add (by omega) hsl e68 a68.new (by omega) (fun W' f' hO' hC'=>fin e68 W' f' hO' hC') (b21:=b21) (cs21:=nC n.v) B21d h21n (by omega) (Nat.le_refl _)
def uN(x:CatD)(c d:Int)(k:Nat):Nat:=if 0<=c/\0<=d then unitN x c.toNat d.toNat k else 0
theorem lastOwn_succ{hs:List Nd}{k:Nat}{y:Nd}(hx:hs[k]? =some y)(s:Int):lastOwn hs (k+1) s=if y.v.1=s then some y else lastOwn hs k s:=by
 unfold lastOwn ownL
 rw[take_succ_get hx,List.filter_append]
 by_cases h:y.v.1=s<;>simp[h]
def InP(x:CatD)(hs:List Nd)(i k:Nat)(d:Int):Prop:=i=k\/∃a b,hs[i]? =some a/\hs[k]? =some b/\a.v.1=b.v.1/\a.v.2.2.2.1=false/\b.v.2.2.2.1=false/\uN x a.v.2.1 d a.v.2.2.1.toNat=uN x a.v.2.1 d b.v.2.2.1.toNat
theorem HMay.step{x:CatD}{hs:List Nd}(h:HMay x hs){i:Nat}{n:Nd}(hn:hs[i]? =some n):0<=n.v.2.2.1/\n.v.2.2.1<(nSt x n.v.2.1.toNat:Int)/\n.v.2.2.1<4:=by
 have h1:=(h.ok i n hn).st0
 have h2:=MayT.step h.cat (i:=hs.length) (fun k' n' _ hn'=>h.ok k' n' hn') i n (List.getElem?_eq_some_iff.1 hn).1 hn
 have h3:=steps_le h.cat n.v.2.1.toNat
 exact⟨h1,h2,by omega⟩
abbrev Dp(hs:List Nd):Nat->Nat->Prop:=TC (EdP hs)
theorem Dp_lt{hs:List Nd}{i k:Nat}(h:Dp hs i k):k<i:=by
 induction h with
 | one h=>exact h.1
 | more _ h ih=>exact Nat.lt_trans h.1 ih
structure RowOf(hs:List Nd)(i:Nat)(xs:List Int):Prop where
 srt:xs.Pairwise (· < ·)
 mem:∀k:Int,k∈xs↔∃k':Nat,k=(k':Int)/\Dp hs i k'
theorem sorted_nodup{xs:List Int}(h:xs.Pairwise (· < ·)):xs.Nodup:=h.imp fun h e=>by omega
theorem RowOf.len{hs:List Nd}{i:Nat}{xs:List Int}(h:RowOf hs i xs):xs.length<=i:=by
 have:=nodup_le (a:=xs) (b:=(List.range i).map fun k:Nat=>(k:Int)) (sorted_nodup h.srt) fun k hk=>by
  obtain⟨k',rfl,hd⟩:=(h.mem k).1 hk
  exact List.mem_map.2 ⟨k',List.mem_range.2 (Dp_lt hd),rfl⟩
 simpa using this
def FsP(hs:List Nd)(len j:Nat)(k:Int):Prop:=∃m k':Nat,k=(k':Int)/\j<=m/\EdP hs len m/\(k'=m\/Dp hs m k')
theorem FsP_top{hs:List Nd}{len:Nat}(k:Int):¬FsP hs len len k:=fun⟨m,_,_,h,h2,_⟩=>by have:=h2.1;omega
theorem FsP_zero{hs:List Nd}{len:Nat}(k:Int):FsP hs len 0 k↔∃k':Nat,k=(k':Int)/\Dp hs len k':=by
 constructor
 ·rintro⟨m,k',rfl,_,h,rfl|h'⟩
  ·exact⟨_,rfl,.one h⟩
  ·exact⟨_,rfl,(TC.one h).trans h'⟩
 ·rintro⟨k',rfl,h⟩
  obtain⟨c,hc,h⟩:=h.first
  exact⟨c,k',rfl,Nat.zero_le _,hc,h.imp Eq.symm id⟩
theorem FsP_mono{hs:List Nd}{len j:Nat}{k:Int}(h:FsP hs len (j+1) k):FsP hs len j k:=by
 obtain⟨m,k',h1,h2,h3⟩:=h
 exact⟨m,k',h1,by omega,h3⟩
theorem FsP_found{hs:List Nd}{len j:Nat}(h:FsP hs len (j+1) (j:Int))(k:Int):FsP hs len j k↔FsP hs len (j+1) k:=by
 refine⟨fun⟨m,k',h1,h2,h3,h4⟩=>?_,FsP_mono⟩
 by_cases hm:m=j
 ·subst hm
  obtain⟨m0,j',e,h5,h6,h7⟩:=h
  have e:j'=m:=by omega
  subst e
  rcases h7 with h7|h7
  ·omega
  ·refine⟨m0,k',h1,h5,h6,.inr ?_⟩
   rcases h4 with rfl|h4
   ·exact h7
   ·exact h7.trans h4
 ·exact⟨m,k',h1,by omega,h3,h4⟩
theorem FsP_not{hs:List Nd}{len j:Nat}(h:¬EdP hs len j)(k:Int):FsP hs len j k↔FsP hs len (j+1) k:=by
 refine⟨fun⟨m,k',h1,h2,h3,h4⟩=>⟨m,k',h1,?_,h3,h4⟩,FsP_mono⟩
 have:m≠j:=fun e=>h (e ▸ h3)
 omega
theorem FsP_add{hs:List Nd}{len j:Nat}(h:EdP hs len j)(k:Int):FsP hs len j k↔FsP hs len (j+1) k\/k=(j:Int)\/∃k':Nat,k=(k':Int)/\Dp hs j k':=by
 constructor
 ·rintro⟨m,k',h1,h2,h3,h4⟩
  by_cases hm:m=j
  ·subst hm
   rcases h4 with rfl|h4
   ·exact .inr (.inl h1)
   ·exact .inr (.inr ⟨k',h1,h4⟩)
  ·exact .inl ⟨m,k',h1,by omega,h3,h4⟩
 ·rintro(h'|h'|⟨k',h1,h2⟩)
  ·exact FsP_mono h'
  ·exact⟨j,j,h',Nat.le_refl _,h,.inl rfl⟩
  ·exact⟨j,k',h1,Nat.le_refl _,h,.inr h2⟩
def Fnd(W:World)(r:Nat)(P:Int->Prop):Prop:=∃f:List (Int×Bool),Mp encB W r f/\∀k,(getM f k=some true/\P k)\/(getM f k=none/\¬P k)
theorem Fnd.iff{W:World}{r:Nat}{P Q:Int->Prop}(h:Fnd W r P)(hq:∀k,Q k↔P k):Fnd W r Q:=by
 obtain⟨f,h1,h2⟩:=h
 exact⟨f,h1,fun k=>(h2 k).imp (fun h=>⟨h.1,(hq k).2 h.2⟩) fun h=>⟨h.1,fun h'=>h.2 ((hq k).1 h')⟩⟩
theorem Fnd.ch{F:Nat->Prop}{W W':World}{r:Nat}{P:Int->Prop}(h:Fnd W r P)(hc:Ch F W W')(hF:¬F r):Fnd W' r P:=by
 obtain⟨f,h1,h2⟩:=h
 exact⟨f,h1.ch hc hF,h2⟩
theorem Fnd.ext{W W':World}{r:Nat}{P:Int->Prop}(h:Fnd W r P)(hc:Ext W W'):Fnd W' r P:=h.ch hc id
theorem Fnd.stb{n:Nat}{W W':World}{r:Nat}{P:Int->Prop}(h:Fnd W r P)(hc:Stb n W W'):Fnd W' r P:=by
 obtain⟨f,h1,h2⟩:=h
 exact⟨f,h1.stb hc,h2⟩
theorem Fnd.put{W:World}{r b:Nat}{P:Int->Prop}(h:Fnd W r P)(k:Int)(hb:∃T,W.heap[b]? =some (.cells #[.map (some r)] T (0,0))):
  Cw 202 #[iv k,.pointer (some ⟨b,0,none⟩)] W fun v w'=>v=.tuple #[]/\Fnd w' r (fun k'=>P k'\/k'=k)/\Ch (fun i=>i=r) W w':=by
 obtain⟨f,h1,h2⟩:=h
 refine(c202 k hb h1).mono ?_
 rintro _ w' ⟨rfl,f',hf',hM,hC⟩
 refine⟨rfl,⟨f',hM,fun k'=>?_⟩,hC⟩
 rw[hf']
 by_cases hk:k=k'
 ·rw[if_pos hk];exact .inl ⟨rfl,.inr hk.symm⟩
 ·rw[if_neg hk]
  exact(h2 k').imp (fun h=>⟨h.1,.inl h.2⟩) fun h=>⟨h.1,fun h'=>h'.elim h.2 fun e=>hk e.symm⟩
theorem mpKeys{β:Type}{enc:β->Value}{w:World}{r:Nat}{f:List (Int×β)}(h:Mp enc w r f):∃es ck,w.heap[r]? =some (.map es ck)/\KeysE (some (r,es,ck)) (f.map (·.1)):=by
 obtain⟨es,ck,h1,h2,h3,h4,h5⟩:=h
 refine⟨es,ck,h1,?_,h3,h4,h5⟩
 have:=congrArg (List.map Prod.fst) h2
 rw[List.map_map,List.map_map] at this
 rw[List.map_map];exact this
theorem pw_le_lt{xs:List Int}(h:xs.Pairwise (· <=·))(hn:xs.Nodup):xs.Pairwise (· < ·):=(h.and hn).imp fun⟨h1,h2⟩=>by omega
theorem Fnd.keysL{W:World}{r:Nat}{P:Int->Prop}{l:List Int}(h:Fnd W r P)(hP:∀k,P k->k∈l)(hn:l.length<=1000000){K:RV}
  (hK:∀(t:Sl)(xs:List Int)(w':World),xs.Pairwise (· < ·)->(∀k,k∈xs↔P k)->OwS w' t 1 (xs.map iv)->Ext W w'->(∀j∈blk t,W.heap.size<=j)->K (slV t) w'):
  Cx 124 #[.map (some r)] W fun v w1=>∃x:Nat×Array Value,v=.func (.func x.1) #[] x.2/\Cx 123 #[.func (.func x.1) #[] x.2] w1 K:=by
 obtain⟨f,h1,h2⟩:=h
 obtain⟨es,ck,hr,hks⟩:=mpKeys h1
 have hnd:(f.map (·.1)).Nodup:=hks.2.1
 have hkm:∀k,k∈f.map (·.1)↔P k:=fun k=>by
  rw[getM_key]
  rcases h2 k with ⟨e,h⟩|⟨e,h⟩
  ·simp[e,h]
  ·simp[e,h]
 have hlen:(f.map (·.1)).length<=1000000:=by
  have:=nodup_le (a:=f.map (·.1)) (b:=l) hnd fun k hk=>hP k ((hkm k).1 hk)
  simp at this
  simp;omega
 refine CW.use (F124_ok (some r) W (fun v w'=>∃b1 T,v=.func (.func 180) #[] #[.pointer (some ⟨b1,0,none⟩)]/\IsAlloc W (.cells #[.map (some r)] T (0,0)) b1 w') fun b1 w' a=>⟨b1,_,rfl,a⟩) ?_
 rintro _ w5 ⟨b1,T,rfl,a5⟩
 have e5:Ext W w5:=a5.ch _
 have hKI:KeysI b1 (some (r,es,ck)) w5:=⟨⟨T,a5.new⟩,e5.at hr⟩
 refine⟨(180,_),rfl,(sorted_of (it180 hKI hks hlen)).use ?_⟩
 rintro _ w8 ⟨t,xs,ys,rfl,hp,hp2,_,hs,ho,e8,hb⟩
 have hpp:=hp2.trans hp
 exact hK t xs w8 (pw_le_lt hs (hpp.nodup_iff.2 hnd)) (fun k=>hpp.mem_iff.trans (hkm k)) ho (e5.trans e8) fun j hj=>by have:=hb j hj;have:=e5.size;omega
theorem Fnd.keys{W:World}{r n:Nat}{P:Int->Prop}(h:Fnd W r P)(hP:∀k,P k->0<=k/\k<(n:Int))(hn:n<=1000000){K:RV}
  (hK:∀(t:Sl)(xs:List Int)(w':World),xs.Pairwise (· < ·)->(∀k,k∈xs↔P k)->OwS w' t 1 (xs.map iv)->Ext W w'->(∀j∈blk t,W.heap.size<=j)->K (slV t) w'):
  Cx 124 #[.map (some r)] W fun v w1=>∃x:Nat×Array Value,v=.func (.func x.1) #[] x.2/\Cx 123 #[.func (.func x.1) #[] x.2] w1 K:=
 h.keysL (l:=(List.range n).map fun k:Nat=>(k:Int)) (fun k hk=>by
  have:=hP k hk
  exact List.mem_map.2 ⟨k.toNat,List.mem_range.2 (by omega),by omega⟩) (by simp;exact hn) hK
abbrev RwL:=Sl×List Int
abbrev hR(x:RwL):Value:=slV x.1
structure Rws(w:World)(t:Sl)(rows:List RwL):Prop where
 rd:Rd w t 1 (rows.map hR)
 row:∀r∈rows,Rd w r.1 1 (r.2.map iv)
theorem Rws.ext{w w':World}{t:Sl}{rows:List RwL}(h:Rws w t rows)(e:Ext w w'):Rws w' t rows:=⟨h.rd.ext e,fun r hr=>(h.row r hr).ext e⟩
theorem Rws.n{w:World}{t:Sl}{rows:List RwL}(h:Rws w t rows):t.n=rows.length:=by rw[h.rd.len1,List.length_map]
theorem Rws.at{w:World}{t:Sl}{rows:List RwL}(h:Rws w t rows){i:Nat}{x:RwL}(hx:rows[i]? =some x):(∃b o,t.p=some ⟨b,o,none⟩/\w.cell? ⟨b,o+i,none⟩=some (slV x.1))/\Rd w x.1 1 (x.2.map iv)/\x.1.n=x.2.length:=by
 have hr:=h.row x (List.mem_of_getElem? hx)
 refine⟨h.rd.elem1 (i:=i) (v:=hR x) (by rw[List.getElem?_map,hx];rfl),hr,by rw[hr.len1,List.length_map]⟩
theorem c152{w:World}{tl t:Sl}{rows:List RwL}{hs:List Nd}{n:Nd}(hL:Rws w tl rows)(hH:Hst w t hs)(hn:NdOk w n)(hrl:rows.length=hs.length)(hrow:∀i x,rows[i]? =some x->RowOf (hs++[n]) i x.2):
  Cw 152 #[slV tl,slV t,ndV n.v] w fun v w'=>∃t' xs,v=slV t'/\RowOf (hs++[n]) hs.length xs/\OwS w' t' 1 (xs.map iv)/\Ext w w'/\∀j∈blk t',w.heap.size<=j:=by
 have hlen:=hH.len
 have hsn:=hH.n
 have hln:=hL.n
 have hEd:∀i x,hs[i]? =some x->(EdP (hs++[n]) hs.length i↔dirP n x):=fun i x hx=>by
  have hi:=(List.getElem?_eq_some_iff.1 hx).1
  unfold EdP
  rw[List.getElem?_append_right (Nat.le_refl _),Nat.sub_self,List.getElem?_append_left hi,hx]
  constructor
  ·rintro⟨_,a,b,ha,hb,hd⟩
   cases ha;cases hb;exact hd
  ·exact fun hd=>⟨hi,n,x,rfl,rfl,hd⟩
 refine F152_ok tl t n.v w _ fun b1 w2 a2 b3 w4 a4 b5 w6 a6 b7 w8 a8=>⟨rfl,store_one a8.new (by simp) rfl fun w9 u9 b10 w11 a11=>⟨rfl,store_one a11.new (by simp) rfl fun w12 u12=>?_⟩⟩
 have z2:=a2.size;have z4:=a4.size;have z6:=a6.size;have z8:=a8.size;have z9:=u9.size;have z11:=a11.size;have z12:=u12.size
 have p2:=a2.here;have p4:=a4.here;have p6:=a6.here;have p8:=a8.here;have p11:=a11.here
 have x8:Ext w w8:=(((a2.ch _).trans (a4.ch _)).trans (a6.ch _)).trans (a8.ch _)
 have x9:Ext w w9:=x8.chN u9.ch fun i e=>by omega
 have x12:Ext w w12:=(x9.trans (a11.ch _)).chN u12.ch fun i e=>by omega
 refine(c153 t w12).use ?_
 rintro _ w14 ⟨pb,T,rfl,a14⟩
 have p14:=a14.here;have z14:=a14.size
 have x14:Ext w w14:=x12.trans (a14.ch _)
 have c14:Ext w12 w14:=a14.ch _
 have k1:w14.heap[b1]? =some (.cells #[slV tl] 102 (0,0)):=c14.at (u12.at (a11.at (u9.at (a8.at (a6.at (a4.at a2.new))) (by omega))) (by omega))
 have k3:w14.heap[b3]? =some (.cells (nC n.v).toArray 53 (0,0)):=c14.at (u12.at (a11.at (u9.at (a8.at (a6.at a4.new)) (by omega))) (by omega))
 have k7:w14.heap[b7]? =some (.cells #[.map (some b5)] 149 (0,0)):=c14.at (u12.at (a11.at u9.new) (by omega))
 have k10:w14.heap[b10]? =some (.cells #[.func (.func 202) #[] #[.pointer (some ⟨b7,0,none⟩)]] 223 (0,0)):=c14.at u12.new
 have hF0:Fnd w14 b5 (FsP (hs++[n]) hs.length hs.length):=⟨[],((((Mp.new a6).ext (a8.ch _)).ch u9.ch (by omega)).ext (a11.ch _)).ch (u12.ch.then c14 fun _ _ h=>h.elim) (by omega),fun k=>.inr ⟨rfl,FsP_top k⟩⟩
 refine⟨(203,#[.pointer (some ⟨pb,0,none⟩)]),rfl,fun g=>?_⟩
 obtain⟨vs,hvs⟩:∃vs,vs=hs.map (·.v):=⟨_,rfl⟩
 have hvl:vs.length=hs.length:=by rw[hvs,List.length_map]
 have hvf:hs.flatMap nL=vs.flatMap nC:=by rw[hvs,List.flatMap_map]
 let G:List (Int×NdV)->World->Prop:=fun pre W=>pre.length<=hs.length/\InvB pb t vs W/\Fnd W b5 (FsP (hs++[n]) hs.length (hs.length-pre.length))/\
  (W.heap[b1]? =some (.cells #[slV tl] 102 (0,0))/\W.heap[b3]? =some (.cells (nC n.v).toArray 53 (0,0))/\W.heap[b7]? =some (.cells #[.map (some b5)] 149 (0,0))/\W.heap[b10]? =some (.cells #[.func (.func 202) #[] #[.pointer (some ⟨b7,0,none⟩)]] 223 (0,0)))/\Ext w W
 refine range_none tbOk mixed (gf:=203) (lb:=#[.pointer (some ⟨pb,0,none⟩)]) rfl (itB pb t vs (by omega)) R152_0ok1 R152_0ok2 R152_0okp (fun _=>rfl) G (fun _ _ _=>False) ?_ (fun _ _ _ _ h=>h.elim) ?_ (fun h=>by cases h) ?_ ?_ ?_ (fun _ _ _ h=>h.elim)
 ·rintro pre A B ⟨h1,h2,h3,⟨q1,q3,q7,q10⟩,h4⟩ hS
  exact⟨h1,h2.stb hS,h3.stb hS,⟨hS.keep _ _ q1 rfl,hS.keep _ _ q3 rfl,hS.keep _ _ q7 rfl,hS.keep _ _ q10 rfl⟩,h4.stbE hS (by omega)⟩
 ·rintro pre W ⟨_,h,_⟩;exact h
 ·exact⟨Nat.zero_le _,⟨⟨T,a14.new⟩,by rw[<-hvf];exact hH.rd.ext x14⟩,hF0,⟨k1,k3,k7,k10⟩,x14⟩
 ·rintro pre ⟨xi,xv⟩ W ⟨hpl,hIB,hFn,⟨q1,q3,q7,q10⟩,hX⟩ ⟨i,hi,hxi,hxv⟩ hW
  dsimp only at hxi hxv
  subst hxi
  have hi':i<hs.length:=by omega
  have hnd:hs[i]? =some hs[i]:=List.getElem?_eq_getElem hi'
  generalize hs[i]=nd at hnd
  have hxe:xv=nd.v:=by
   rw[hvs,List.getElem?_map,hnd] at hxv
   exact(Option.some.inj hxv).symm
  subst hxe
  have hj1:hs.length-pre.length=i+1:=by omega
  have hj0:hs.length-(pre++[((i:Int),nd.v)]).length=i:=by simp;omega
  rw[hj1] at hFn
  refine F152b0_ok b1 b3 ⟨none,0,0⟩ b7 b10 (203,#[.pointer (some ⟨pb,0,none⟩)]) (i:Int) nd.v _ _ _ _ _ W ?_
  refine boxNd rfl fun bb w3 hbb hs3 h3 e3 hS3=>⟨rfl,⟨e3.old _ (by omega) id,e3.old _ (by omega) id⟩,fun w12' hS hIt hL'=>?_⟩
  have zS:=hS.size
  have e12:Ext w w12':=(hX.trans e3).stbE hS (by omega)
  have r1:=hS.keep _ _ (e3.at q1) rfl
  have r3:=hS.keep _ _ (e3.at q3) rfl
  have r7:=hS.keep _ _ (e3.at q7) rfl
  have r10:=hS.keep _ _ (e3.at q10) rfl
  have rb:=hS.keep _ _ h3 rfl
  have hFn12:=(hFn.ext e3).stb hS
  have hIB12:=(hIB.stb (hS3 w14.heap.size (by omega))).stb hS
  refine⟨fun r W30=>Ext w12' W30/\(r=true->∀k,FsP (hs++[n]) hs.length i k↔FsP (hs++[n]) hs.length (i+1) k)/\(r=false->EdP (hs++[n]) hs.length i),?_,?_⟩
  ·refine⟨some b5,by rw[cell_of r7];rfl,?_⟩
   obtain⟨f,hM,hf⟩:=hFn12
   refine hM.get ?_
   rcases hf (i:Int) with ⟨hg,hP⟩|⟨hg,hP⟩
   ·rw[hg]
    exact⟨true,rfl,IfB.yes rfl ⟨rfl,Ch.refl _ _,fun _=>FsP_found hP,fun h=>by cases h⟩⟩
   ·rw[hg]
    refine⟨false,rfl,IfB.no rfl ⟨n.v,cellsAt_of r3 fun q v hv=>by simpa using hv,nd.v,cellsAt_of rb fun q v hv=>by simpa using hv,(c160 (hn.ext e12) ((hH.get hnd).ext e12)).use ?_⟩⟩
    rintro _ w27 ⟨r,rfl,hr,e27⟩
    refine⟨r,rfl,rfl,e27,fun h=>FsP_not fun hE=>?_,fun h=>(hEd i nd hnd).2 (hr.1 (by simpa using h))⟩
    rw[hr.2 ((hEd i nd hnd).1 hE)] at h
    cases h
  ·rintro r w30 g ⟨e30,hrt,hrf⟩
   have X30:=e12.trans e30
   have z30:=e30.size
   have s1:=e30.at r1
   have s3:=e30.at r3
   have s7:=e30.at r7
   have s10:=e30.at r10
   unfold F152b0j1
   have hItW:Its W w12':=(Its.ext e3).trans hIt
   refine IfB.intro (fun h=>?_) fun h=>?_
   ·refine⟨⟨e30.old _ (by omega) id,e30.old _ (by omega) id⟩,⟨by simp;omega,⟨⟨_,e30.at hIB12.box.choose_spec⟩,hIB12.rd.ext e30⟩,?_,⟨s1,s3,s7,s10⟩,X30⟩,hItW.trans (Its.ext e30)⟩
    rw[hj0]
    exact(hFn12.ext e30).iff (hrt h)
   ·have hE:=hrf h
    refine⟨(202,#[.pointer (some ⟨b7,0,none⟩)]),by rw[cell_of s10];rfl,((hFn12.ext e30).put (i:Int) ⟨_,s7⟩).use ?_⟩
    rintro _ w43 ⟨rfl,hF43,hC43⟩
    have X43:Ext w w43:=X30.chN hC43 fun j e=>by omega
    have hrw:rows[i]? =some rows[i]:=List.getElem?_eq_getElem (by omega)
    generalize rows[i]=rw' at hrw
    obtain⟨⟨ba,oa,hpa,hca⟩,hrr,hrn⟩:=(hL.ext X43).at hrw
    have hRow:=hrow i rw' hrw
    have hRl:=hRow.len
    have t1:=hC43.at s1 (by omega)
    have t3:=hC43.at s3 (by omega)
    have t7:=hC43.at s7 (by omega)
    have t10:=hC43.at s10 (by omega)
    refine⟨(),rfl,tl,by rw[cell_of t1];rfl,ba,oa,hpa,⟨by omega,by omega⟩,rw'.1,by rw[Int.toNat_natCast];exact hca,fun m x W'=>∃q:Nat,q<=rw'.2.length/\m+q=rw'.2.length/\x=(q:Int)/\Ch (fun j=>j=b5) w43 W'/\Fnd W' b5 (fun k=>(FsP (hs++[n]) hs.length (i+1) k\/k=(i:Int))\/k∈rw'.2.take q),
     ⟨rw'.2.length,0,Nat.zero_le _,rfl,rfl,Ch.refl _ _,hF43.iff fun k=>by simp⟩,?_⟩
    rintro m _ w53 g ⟨q,hq,hmq,rfl,hC53,hF53⟩
    have X53:Ext w w53:=X43.chN hC53 fun j e=>by omega
    have u1:=hC53.at t1 (by omega)
    have u3:=hC53.at t3 (by omega)
    have u7:=hC53.at t7 (by omega)
    have u10:=hC53.at t10 (by omega)
    unfold F152b0j2
    refine IfB.dec (fun hlt=>?_) fun hge=>?_
    ·have hq':q<rw'.2.length:=by omega
     have hy:rw'.2[q]? =some rw'.2[q]:=List.getElem?_eq_getElem hq'
     generalize rw'.2[q]=y at hy
     obtain⟨bc,oc,hpc,hcc⟩:=((hL.ext X53).at hrw).2.1.elem1 (i:=q) (v:=iv y) (by rw[List.getElem?_map,hy];rfl)
     refine⟨bc,oc,hpc,⟨by omega,hlt⟩,y,by rw[Int.toNat_natCast];exact hcc,(202,#[.pointer (some ⟨b7,0,none⟩)]),by rw[cell_of u10];rfl,(hF53.put y ⟨_,u7⟩).use ?_⟩
     rintro _ w61 ⟨rfl,hF61,hC61⟩
     refine⟨(),rfl,rfl,m-1,by omega,q+1,hq',by omega,by rw[wrap_of (by omega) (by omega)];rfl,hC53.trans hC61,hF61.iff fun k=>?_⟩
     rw[take_succ_get hy,List.mem_append,List.mem_singleton]
     simp only[or_assoc]
    ·have hq':q=rw'.2.length:=by omega
     subst hq'
     rw[List.take_length] at hF53
     have hA:Ch (fun j=>j=b5) w12' w53:=(((e30.mono fun _ _ h=>h.elim).trans hC43).trans hC53)
     have hb5n:∀j m s q t,j=b5->w12'.heap[j]? ≠some (.mapIter m s q t):=fun j m s q t e=>by
      subst e
      obtain⟨f,⟨es,ck,hh,_⟩,_⟩:=hFn12
      rw[hh];simp
     refine⟨⟨hA.old _ (by omega) (by omega),hA.old _ (by omega) (by omega)⟩,⟨by simp;omega,⟨⟨_,hA.at hIB12.box.choose_spec (by omega)⟩,hIB12.rd.ch0 hA ?_⟩,?_,⟨u1,u3,u7,u10⟩,X53⟩,hItW.trans (Its.ch hA fun j e m s q t=>hb5n j m s q t e)⟩
     ·intro h0 j hj e
      have:=rd_lt hH.rd (by omega) h0 j hj
      omega
     ·rw[hj0]
      refine hF53.iff fun k=>?_
      rw[FsP_add hE k,or_assoc,<-hRow.mem]
 ·rintro xs W hxs ⟨hpl,hIB,hFn,⟨q1,q3,q7,q10⟩,hX⟩ hD
  rw[hxs,hvl,Nat.sub_self] at hFn
  refine⟨some b5,by rw[cell_of q7];rfl,hFn.keys (n:=hs.length) (fun k hk=>?_) hlen fun t' ys w' h1 h2 h3 h4 h5=>⟨t',rfl,marks_one (h4.at hD) fun w'' hu=>?_⟩⟩
  ·obtain⟨m,k',rfl,_,hE,h⟩:=hk
   have:=hE.1
   rcases h with rfl|h
   ·omega
   ·have:=Dp_lt h;omega
  ·refine⟨t',ys,rfl,⟨h1,fun k=>(h2 k).trans (FsP_zero k)⟩,h3.ch hu.ch fun j hj e=>?_,(hX.trans h4).chN hu.ch fun j e=>by omega,fun j hj=>?_⟩
   ·have:=h5 j hj;have:=heap_lt hD;omega
   ·have:=h5 j hj;have:=hX.size;omega
def F111(t0:Sl)(w:World)(R:RV):Prop:=IfB t0.1.isNone (R (Value.slice none 0 0) w) (0*1<=16777216/\AllocP w (Obj.cells #[] 3) fun b1 w2=>∃(l3:List Value),ReadC w2 t0.1 (t0.2*1) l3/\AppendP tt3 3 w2 (some ⟨b1,0,none⟩) 0 0 t0.2 l3 fun s4 w5=>R (Qy s4) w5)
theorem F111_ok(t0:Sl)(w:World)(R:RV)(h:F111 t0 w R):Cw 111 #[Qy t0] w R:=
 ckF Tryz.func111 .nil h (by kernel_rfl) (by kernel_rfl)
theorem c111{w:World}{t:Sl}{xs:List Int}(h:Rd w t 1 (xs.map iv))(hl:xs.length<=1000000):Cw 111 #[slV t] w fun v w'=>∃t',v=slV t'/\OwS w' t' 1 (xs.map iv)/\Ext w w'/\∀i∈blk t',w.heap.size<=i:=by
 have hn:=rdI h
 refine F111_ok t w _ ?_
 have e:∀R,F111 t w R=CloneF tt3 3 1 t w R:=fun _=>rfl
 rw[e]
 refine CloneF_of h rfl rfl (fun v hv=>by obtain⟨x,_,rfl⟩:=List.mem_map.1 hv;rfl) ⟨by omega,?_⟩ (fun s' w' h1 h2 h3 h4=>⟨s',rfl,h1,h3,h4⟩) fun hp=>?_
 ·show 2*t.n*8<=_
  omega
 ·have h2:=h.2
  rw[hp] at h2
  have:xs.map iv=[]:=h2
  rw[hn,List.map_eq_nil_iff.1 this];rfl
theorem EdP_take{hs:List Nd}{m i k:Nat}(hi:i<m):EdP (hs.take m) i k↔EdP hs i k:=by
 unfold EdP
 constructor
 ·rintro⟨h,a,b,ha,hb,hd⟩
  rw[List.getElem?_take,if_pos hi] at ha
  rw[List.getElem?_take,if_pos (by omega)] at hb
  exact⟨h,a,b,ha,hb,hd⟩
 ·rintro⟨h,a,b,ha,hb,hd⟩
  exact⟨h,a,b,by rw[List.getElem?_take,if_pos hi];exact ha,by rw[List.getElem?_take,if_pos (by omega)];exact hb,hd⟩
theorem Dp_take{hs:List Nd}{m i k:Nat}(hi:i<m):Dp (hs.take m) i k↔Dp hs i k:=by
 constructor
 ·intro h
  induction h with
  | one h=>exact .one ((EdP_take hi).1 h)
  | more h1 h2 ih=>exact .more ih ((EdP_take (by have:=Dp_lt h1;omega)).1 h2)
 ·intro h
  induction h with
  | one h=>exact .one ((EdP_take hi).2 h)
  | more h1 h2 ih=>exact .more ih ((EdP_take (by have:=Dp_lt h1;omega)).2 h2)
theorem RowOf_take{hs:List Nd}{m i:Nat}{xs:List Int}(hi:i<m):RowOf (hs.take m) i xs↔RowOf hs i xs:=
 ⟨fun h=>⟨h.srt,fun k=>(h.mem k).trans (exists_congr fun k'=>and_congr_right fun _=>Dp_take hi)⟩,
  fun h=>⟨h.srt,fun k=>(h.mem k).trans (exists_congr fun k'=>and_congr_right fun _=>(Dp_take hi).symm)⟩⟩
structure OwR(w:World)(n:Nat)(t:Sl)(rows:List RwL):Prop where
 own:OwS w t 1 (rows.map hR)
 row:∀r∈rows,OwS w r.1 1 (r.2.map iv)
 apart:∀r∈rows,∀j∈blk r.1,j∉blk t
 new:∀j∈blk t,n<=j
 rnew:∀r∈rows,∀j∈blk r.1,n<=j
theorem OwR.ext{w w':World}{n:Nat}{t:Sl}{rows:List RwL}(h:OwR w n t rows)(e:Ext w w'):OwR w' n t rows:=⟨h.own.ext e,fun r hr=>(h.row r hr).ext e,h.apart,h.new,h.rnew⟩
theorem OwR.rws{w:World}{n:Nat}{t:Sl}{rows:List RwL}(h:OwR w n t rows):Rws w t rows:=⟨h.own.rd,fun r hr=>(h.row r hr).rd⟩
theorem OwR.n{w:World}{m:Nat}{t:Sl}{rows:List RwL}(h:OwR w m t rows):t.n=rows.length:=h.rws.n
theorem OwR.nil(w:World)(n:Nat):OwR w n ⟨none,0,0⟩ []:=⟨.nil _ _,by simp,by simp,by simp[blk],by simp⟩
theorem OwR.add{w:World}{n:Nat}{t s:Sl}{rows:List RwL}{xs:List Int}{T:TypeId}{K:Sl->World->Prop}(h:OwR w n t rows)(hs:OwS w s 1 (xs.map iv))(hnew:∀j∈blk s,n<=j)(hap:∀j∈blk s,j∉blk t)(hn:n<=w.heap.size)(hl:rows.length<=999999)
  (hK:∀s' w',OwR w' n s' (rows++[(s,xs)])->Ch (fun i=>i∈blk t) w w'->K s' w'):
  AllocP w (.cells #[slV s] T) fun b w1=>∃l,ReadC w1 (some ⟨b,0,none⟩) (1*1) l/\AppendP tt30 30 w1 t.p t.n t.c 1 l K:=by
 intro b w1 a
 have e1:Ext w w1:=a.ch _
 have htn:=h.n
 refine(h.own.ext e1).lit (new:=[slV s]) (T':=T) a.new rfl (by intro v hv;rw[List.mem_singleton.1 hv];rfl) rfl rfl (by omega) (by decide) fun s' w' ho hn' hC hb=>hK s' w' ?_ ((e1.mono fun _ _ h=>h.elim).then hC fun _ _ h=>h)
 have hz:=a.size
 have up:∀j∈blk s',j∈blk t\/w.heap.size<=j:=fun j hj=>(hb j hj).imp id fun h=>by omega
 refine⟨by rw[List.map_append];exact ho,fun r hr=>?_,fun r hr j hj hj'=>?_,fun j hj=>?_,fun r hr j hj=>?_⟩
 ·rcases List.mem_append.1 hr with hr|hr
  ·exact((h.row r hr).ext e1).ch hC fun j hj=>h.apart r hr j hj
  ·rw[List.mem_singleton.1 hr];exact(hs.ext e1).ch hC fun j hj=>hap j hj
 ·rcases List.mem_append.1 hr with hr|hr
  ·rcases up j hj' with h'|h'
   ·exact h.apart r hr j hj h'
   ·have:=(h.row r hr).lt j hj;omega
  ·rw[List.mem_singleton.1 hr] at hj
   rcases up j hj' with h'|h'
   ·exact hap j hj h'
   ·have:=hs.lt j hj;omega
 ·rcases up j hj with h'|h'
  ·exact h.new j h'
  ·omega
 ·rcases List.mem_append.1 hr with hr|hr
  ·exact h.rnew r hr j hj
  ·rw[List.mem_singleton.1 hr] at hj;exact hnew j hj
theorem c85{w:World}{t:Sl}{hs:List Nd}(hH:Hst w t hs)(hl:hs.length<=1000):
  Cw 85 #[slV t] w fun v w'=>∃t' rows,v=slV t'/\rows.length=hs.length/\(∀i x,rows[i]? =some x->RowOf hs i x.2)/\OwR w' w.heap.size t' rows/\Ext w w':=by
 have hn:=hH.n
 refine F85_ok t w _ ⟨fun m x W=>∃(i:Nat)(so:Sl)(rows:List RwL),i<=hs.length/\m+i=hs.length/\x=(so,(i:Int))/\rows.length=i/\(∀i x,rows[i]? =some x->RowOf hs i x.2)/\OwR W w.heap.size so rows/\Ext w W,
  ⟨hs.length,0,⟨none,0,0⟩,[],Nat.zero_le _,rfl,rfl,rfl,by simp,.nil _ _,Ch.refl _ _⟩,?_⟩
 rintro m _ W g ⟨i,so,rows,hi,hmi,rfl,hrl,hrow,hO,hE⟩
 unfold F85j1
 refine IfB.dec (fun hlt=>?_) fun hge=>?_
 ·have hi':i<hs.length:=by dsimp only at hlt;omega
  have hx:hs[i]? =some hs[i]:=List.getElem?_eq_getElem hi'
  have htk:=take_succ_get hx
  generalize hs[i]=nd at hx htk
  have hW:=hH.ext hE
  obtain⟨a,o,hp,hc⟩:=hW.at hx
  refine⟨a,o,hp,(⟨by omega,by omega⟩:(0:Int)<=(i:Int)/\(i:Int)<(t.n:Int)),nd.v,by rw[Int.toNat_natCast];exact hc,boxNd rfl fun b11 w13 hb hs13 h13 e13 _=>?_⟩
  have ed:=extDrew w13
  have e1:Ext W w13.drew:=e13.trans ed
  have E1:Ext w w13.drew:=hE.trans e1
  refine⟨(⟨by omega,by have:=hH.cap;omega⟩:(0:Int)<=(i:Int)/\(i:Int)<=(t.c:Int)),nd.v,cellsAt_of (ed.at h13) fun q v hv=>by simpa using hv,?_⟩
  have hcut:=(hW.ext e1).cut (k:=i) (by omega)
  dsimp only
  rw[Int.toNat_natCast,slAddr_zero]
  refine(c152 (tl:=so) (t:=⟨t.p,i,t.c⟩) (rows:=rows) (n:=nd) (hO.rws.ext e1) hcut ((hW.get hx).ext e1) (by rw[List.length_take];omega) fun j x hjx=>?_).use ?_
  ·rw[<-htk]
   have:=(List.getElem?_eq_some_iff.1 hjx).1
   exact(RowOf_take (by omega)).2 (hrow j x hjx)
  rintro _ w16 ⟨s17,xs,rfl,hxs,ho,e16,hb17⟩
  rw[<-htk,List.length_take,Nat.min_eq_left hi] at hxs
  have hxs:=(RowOf_take (by omega)).1 hxs
  have e2:=e1.trans e16
  have hO16:=hO.ext e2
  have z1:=E1.size
  have z2:=e16.size
  have z3:=e1.size
  refine⟨s17,rfl,by decide,hO16.add ho (fun j hj=>by have:=hb17 j hj;omega) (fun j hj h=>by have:=hb17 j hj;have:=hO.own.lt j h;omega) (by omega) (by omega) fun s' w' hO' hC'=>⟨rfl,m-1,by omega,i+1,s',rows++[(s17,xs)],hi',by omega,by rw[wrap_of (by omega) (by omega)];rfl,by simp[hrl],fun j x hjx=>?_,hO',(E1.trans e16).chN hC' fun j hj=>hO.new j hj⟩⟩
  by_cases hj:j<i
  ·rw[List.getElem?_append_left (by omega)] at hjx
   exact hrow j x hjx
  ·have:=(List.getElem?_eq_some_iff.1 hjx).1
   simp at this
   have hji:j=i:=by omega
   subst hji
   rw[List.getElem?_append_right (by omega),hrl,Nat.sub_self] at hjx
   cases hjx
   exact hxs
 ·have hi':i=hs.length:=by dsimp only at hge;omega
  subst hi'
  exact⟨so,rows,rfl,hrl,hrow,hO,hE⟩
theorem addRow{w:World}{m:Nat}{tl t so:Sl}{rows out:List RwL}{hs:List Nd}{n:Nd}(hL:Rws w tl rows)(hH:Hst w t hs)(hn:NdOk w n)(hrl:rows.length=hs.length)(hrow:∀i x,rows[i]? =some x->RowOf (hs++[n]) i x.2)
  (hO:OwR w m so out)(hol:out.length=hs.length)(hout:∀i x,out[i]? =some x->RowOf (hs++[n]) i x.2)(hm:m<=w.heap.size)(hl:hs.length<=1000){T:TypeId}{K:Sl->World->Prop}
  (hK:∀s' rows' w',rows'.length=hs.length+1->(∀i x,rows'[i]? =some x->RowOf (hs++[n]) i x.2)->OwR w' m s' rows'->Ch (fun i=>i∈blk so) w w'->K s' w'):
  Cx 152 #[slV tl,slV t,ndV n.v] w fun v w1=>∃s:Sl,v=slV s/\1*1<=16777216/\AllocP w1 (.cells #[slV s] T) fun b w2=>∃l,ReadC w2 (some ⟨b,0,none⟩) (1*1) l/\AppendP tt30 30 w2 so.p so.n so.c 1 l K:=by
 refine(c152 hL hH hn hrl hrow).use ?_
 rintro _ w1 ⟨s,xs,rfl,hxs,ho,e1,hb⟩
 have z1:=e1.size
 refine⟨s,rfl,by decide,(hO.ext e1).add ho (fun j hj=>by have:=hb j hj;omega) (fun j hj h=>by have:=hb j hj;have:=hO.own.lt j h;omega) (by omega) (by omega) fun s' w' hO' hC'=>hK s' _ w' (by simp[hol]) (fun i x hix=>?_) hO' ((e1.mono fun _ _ h=>h.elim).then hC' fun _ _ h=>h)⟩
 by_cases hi:i<out.length
 ·rw[List.getElem?_append_left hi] at hix
  exact hout i x hix
 ·have:=(List.getElem?_eq_some_iff.1 hix).1
  simp at this
  have hie:i=out.length:=by omega
  subst hie
  rw[List.getElem?_append_right (Nat.le_refl _),Nat.sub_self] at hix
  cases hix
  rw[hol];exact hxs
theorem c118{w:World}{tl t:Sl}{rows:List RwL}{hs:List Nd}{n:Nd}(hL:Rws w tl rows)(hH:Hst w t hs)(hn:NdOk w n)(hrl:rows.length=hs.length)(hrow:∀i x,rows[i]? =some x->RowOf hs i x.2)(hl:hs.length<=1000):
  Cw 118 #[slV tl,slV t,ndV n.v] w fun v w'=>∃t' rows',v=slV t'/\rows'.length=hs.length+1/\(∀i x,rows'[i]? =some x->RowOf (hs++[n]) i x.2)/\OwR w' w.heap.size t' rows'/\Ext w w':=by
 have htn:=hL.n
 have hhn:=hH.n
 have hrow':∀i x,rows[i]? =some x->RowOf (hs++[n]) i x.2:=fun i x hx=>by
  have hi:=(List.getElem?_eq_some_iff.1 hx).1
  have:=hrow i x hx
  rw[<-RowOf_take (hs:=hs++[n]) (m:=hs.length) (by omega),List.take_append_of_le_length (Nat.le_refl _),List.take_length]
  exact this
 refine F118_ok tl t n.v w _ fun b1 w2 a2=>IfB.no (by simp;omega) ?_
 have e2:Ext w w2:=a2.ch _
 have p2:=a2.here;have z2:=a2.size
 refine⟨fun m x W=>∃(i:Nat)(so:Sl)(out:List RwL),i<=hs.length/\m+i=hs.length/\x=(so,(i:Int))/\out.length=i/\(∀j x,out[j]? =some x->RowOf (hs++[n]) j x.2)/\OwR W w2.heap.size so out/\Ext w2 W,
  ⟨hs.length,0,⟨none,0,0⟩,[],Nat.zero_le _,rfl,rfl,rfl,by simp,.nil _ _,Ch.refl _ _⟩,?_⟩
 rintro m _ W g ⟨i,so,out,hi,hmi,rfl,hol,hout,hO,hE⟩
 have E:=e2.trans hE
 have zE:=hE.size
 unfold F118j2
 refine IfB.dec (fun hlt=>?_) fun hge=>?_
 ·have hi':i<rows.length:=by dsimp only at hlt;omega
  have hx:rows[i]? =some rows[i]:=List.getElem?_eq_getElem hi'
  generalize rows[i]=row at hx
  obtain⟨⟨b,o,hp,hc⟩,hrr,hrn⟩:=(hL.ext E).at hx
  have hR:=hrow' i row hx
  have hRl:=hR.len
  refine⟨b,o,hp,(⟨by omega,by omega⟩:(0:Int)<=(i:Int)/\(i:Int)<(tl.n:Int)),row.1,by rw[Int.toNat_natCast];exact hc,(c111 hrr (by omega)).use ?_⟩
  rintro _ w45 ⟨s,rfl,ho,e45,hb⟩
  have z45:=e45.size
  refine⟨s,rfl,by decide,(hO.ext e45).add ho (fun j hj=>by have:=hb j hj;omega) (fun j hj h=>by have:=hb j hj;have:=hO.own.lt j h;omega) (by omega) (by omega) fun s' w' hO' hC'=>⟨rfl,m-1,by omega,i+1,s',out++[(s,row.2)],by omega,by omega,by rw[wrap_of (by omega) (by omega)];rfl,by simp[hol],fun j x hjx=>?_,hO',(hE.trans e45).chN hC' fun j hj=>hO.new j hj⟩⟩
  by_cases hj:j<i
  ·rw[List.getElem?_append_left (by omega)] at hjx
   exact hout j x hjx
  ·have:=(List.getElem?_eq_some_iff.1 hjx).1
   simp at this
   have hji:j=i:=by omega
   subst hji
   rw[List.getElem?_append_right (by omega),hol,Nat.sub_self] at hjx
   cases hjx
   exact hR
 ·have hi':i=hs.length:=by dsimp only at hge;omega
  refine⟨n.v,cellsAt_of (hE.at a2.new) fun q v hv=>by simpa using hv,addRow (hL.ext E) (hH.ext E) (hn.ext E) hrl hrow' hO (by omega) hout (by omega) hl fun s' rows' w' h1 h2 h3 h4=>⟨s',rows',rfl,h1,h2,⟨h3.own,h3.row,h3.apart,fun j hj=>by have:=h3.new j hj;omega,fun r hr j hj=>by have:=h3.rnew r hr j hj;omega⟩,E.chN h4 fun j hj=>by have:=hO.new j hj;omega⟩⟩
section
variable {E:Nat->Nat->Prop}
def Fw(E:Nat->Nat->Prop):Nat->Nat->Nat->Prop
 | 0,i,k=>E i k
 | m+1,i,k=>Fw E m i k\/(Fw E m i m/\Fw E m m k)
theorem Fw_tc:∀ {m i k:Nat},Fw E m i k->TC E i k
 | 0,_,_,h=>.one h
 | m+1,_,_,.inl h=>Fw_tc h
 | m+1,_,_,.inr ⟨h1,h2⟩=>(Fw_tc h1).trans (Fw_tc h2)
theorem Fw_trans:∀ {m i j k:Nat},j<m->Fw E m i j->Fw E m j k->Fw E m i k
 | 0,_,_,_,h,_,_=>by omega
 | m+1,i,j,k,h,h1,h2=>by
  by_cases hj:j=m
  ·subst hj
   refine .inr ⟨?_,?_⟩
   ·rcases h1 with h|h
    ·exact h
    ·exact h.1
   ·rcases h2 with h|h
    ·exact h
    ·exact h.2
  ·have hj':j<m:=by omega
   rcases h1 with h1|⟨h1,h1'⟩
   ·rcases h2 with h2|⟨h2,h2'⟩
    ·exact .inl (Fw_trans hj' h1 h2)
    ·exact .inr ⟨Fw_trans hj' h1 h2,h2'⟩
   ·rcases h2 with h2|⟨h2,h2'⟩
    ·exact .inr ⟨h1,Fw_trans hj' h1' h2⟩
    ·exact .inr ⟨h1,h2'⟩
theorem Fw_zero{i k:Nat}(h:E i k):∀m,Fw E m i k
 | 0=>h
 | m+1=>.inl (Fw_zero h m)
theorem Fw_all{n i k:Nat}(hE:∀a b,E a b->b<n)(h:TC E i k):Fw E n i k:=by
 induction h with
 | one h=>exact Fw_zero h n
 | more h1 h2 ih=>
  refine Fw_trans ?_ ih (Fw_zero h2 n)
  obtain⟨c,hc,_⟩:=h1.last
  exact hE _ _ hc
theorem Fw_iff{n i k:Nat}(hE:∀a b,E a b->b<n):Fw E n i k↔TC E i k:=⟨Fw_tc,Fw_all hE⟩
end
theorem zc_all{z:Array Value}{v:Value}(h:∀x∈z.toList,x=v)(n:Nat):zc z n=List.replicate (n*z.size) v:=by
 refine List.eq_replicate_iff.2 ⟨zc_len z n,fun x hx=>?_⟩
 unfold zc Builtin.zeroCells at hx
 rw[Array.mem_toList_iff,Array.mem_map] at hx
 obtain⟨i,hi,rfl⟩:=hx
 rw[Array.mem_range] at hi
 have h0:0<z.size:=by
  rcases Nat.eq_zero_or_pos z.size with h0|h0
  ·rw[h0,Nat.mul_zero] at hi;omega
  ·exact h0
 have hm:=Nat.mod_lt i h0
 rw[getElem!_pos z _ hm]
 exact h _ (by simp)
abbrev MxR:=Sl×List Bool
abbrev hM(x:MxR):Value:=slV x.1
def F83j1(t0:Sl)(R:RV)(y1:Nat->Int->World->Prop)(b3:Nat)(n4:Int)(w5:World):Prop:=IfB (decide (n4<(t0.n:Int))) (Qx t0.1 n4 (t0.2:Int) fun b8 b9=>Qs w5 b8 (b9+n4.toNat*6+4) fun s10=>IfB (decide (40<(s10.n:Int))) (R (Value.bool true) w5) (Qx t0.1 n4 (t0.2:Int) fun b11 b12=>Qs w5 b11 (b12+n4.toNat*6+5) fun s13=>IfB (decide (40<(s13.n:Int))) (R (Value.bool true) w5) (Qn y1 b3 (IntKind.i64.wrap (n4+1)) w5))) (R (Value.bool (decide (40<(t0.n:Int)))) w5)
theorem F83_ok(t0:Sl)(w:World)(R:RV)(h:Ql (α:=Int) 0 w fun y1 b3 n4 w5=>(F83j1 t0 R y1 b3 n4 w5)):Cw 83 #[Qy t0] w R:=
 ckF Tryz.func83 (nd (.node (nd (.loop [(3,oi)] (rg [2,25]) .nil)) .nil)) h (by kernel_rfl) (by kernel_rfl)
def GrtP(hs:List Nd):Prop:=(∃n∈hs,40<n.rs.length\/40<n.ws.length)\/40<hs.length
theorem c83{w:World}{t:Sl}{hs:List Nd}(hr:Rd w t 6 (hs.flatMap nL))(hn:∀n∈hs,n.v.2.2.2.2.1.n=n.rs.length/\n.v.2.2.2.2.2.n=n.ws.length)(hl:hs.length<=9223372036854775807):
  Cw 83 #[slV t] w fun v w'=>∃r,v=.bool r/\(r=true↔GrtP hs)/\w=w':=by
 have htn:=rdN nL_len (by omega) hr
 refine F83_ok t w _ ⟨fun m x W=>∃i:Nat,i<=hs.length/\m+i=hs.length/\x=(i:Int)/\w=W/\∀n∈hs.take i,¬(40<n.rs.length\/40<n.ws.length),⟨hs.length,0,Nat.zero_le _,rfl,rfl,rfl,by simp⟩,?_⟩
 rintro m _ _ g ⟨i,hi,hmi,rfl,rfl,hno⟩
 unfold F83j1
 refine IfB.dec (fun hlt=>?_) fun hge=>?_
 ·have hi':i<hs.length:=by omega
  have hx:hs[i]? =some hs[i]:=List.getElem?_eq_getElem hi'
  have htk:=take_succ_get hx
  generalize hs[i]=x at hx htk
  have hxm:=List.mem_of_getElem? hx
  obtain⟨hnr,hnw⟩:=hn x hxm
  obtain⟨b,o,hp,hc⟩:=hr.elem (i:=i) (by omega) (by omega) (flatGet nL_len hx)
  have hb:(0:Int)<=(i:Int)/\(i:Int)<(t.n:Int):=⟨by omega,by omega⟩
  refine⟨b,o,hp,hb,x.v.2.2.2.2.1,by rw[Int.toNat_natCast];exact hc 4 _ rfl,IfB.dec (fun h=>⟨true,rfl,⟨fun _=>.inl ⟨x,hxm,.inl (by omega)⟩,fun _=>rfl⟩,rfl⟩) fun h1=>⟨b,o,hp,hb,x.v.2.2.2.2.2,by rw[Int.toNat_natCast];exact hc 5 _ rfl,IfB.dec (fun h=>⟨true,rfl,⟨fun _=>.inl ⟨x,hxm,.inr (by omega)⟩,fun _=>rfl⟩,rfl⟩) fun h2=>⟨rfl,m-1,by omega,i+1,hi',by omega,by rw[wrap_of (by omega) (by omega)];rfl,rfl,fun n hn'=>?_⟩⟩⟩
  rw[htk] at hn'
  rcases List.mem_append.1 hn' with h|h
  ·exact hno n h
  ·rw[List.mem_singleton.1 h];omega
 ·have hi':i=hs.length:=by omega
  subst hi'
  rw[List.take_length] at hno
  refine⟨_,rfl,?_,rfl⟩
  rw[decide_eq_true_eq]
  unfold GrtP
  constructor
  ·exact fun h=>.inr (by omega)
  ·rintro(⟨n,hn,h⟩|h)
   ·exact absurd h (hno n hn)
   ·omega
abbrev nilS:Sl:=⟨none,0,0⟩
abbrev tySp:Ty:=.pair (.int .i64) (.int .i64)
abbrev tyNd:Ty:=.pair (.int .i64) (.pair (.int .i64) (.pair (.int .i64) (.pair .bool (.pair (.sl tySp) (.sl tySp)))))
theorem pickAll{α:Type}{f:α->List Value}{Q:α->Prop}:∀ {css:List (List Value)},(∀c∈css,∃n,c=f n/\Q n)->∃ns:List α,css=ns.map f/\∀n∈ns,Q n
 | [],_=>⟨[],rfl,by simp⟩
 | c::css,h=>by
  obtain⟨n,hn,hq⟩:=h c (by simp)
  obtain⟨ns,hns,hqs⟩:=pickAll (css:=css) fun c hc=>h c (List.mem_cons_of_mem _ hc)
  exact⟨n::ns,by rw[hn,hns];rfl,fun m hm=>(List.mem_cons.1 hm).elim (fun e=>e ▸ hq) (hqs m)⟩
theorem rep_each{A:Nat->Prop}{w:World}{e:Ty}{l:List e.den}{css:List (List Value)}(hl:css.length=l.length)(hr:∀(i:Nat) c x,css[i]? =some c->l[i]? =some x->rep A w e x c):∀c∈css,∃x,rep A w e x c:=fun c hc=>by
 obtain⟨i,hi,rfl⟩:=List.getElem_of_mem hc
 exact⟨_,hr i _ _ (List.getElem?_eq_getElem hi) (List.getElem?_eq_getElem (by omega))⟩
theorem rep_spans{A:Nat->Prop}{w:World}{l:List tySp.den}{cs:List Value}(h:rep A w (.sl tySp) l cs):∃(s:Sl)(xs:List Spn),cs=[slV s]/\Rd w s 2 (xs.flatMap sv)/\s.n<=s.c/\s.n<=maxLen:=by
 obtain⟨s,rfl,h1,h2,h3,h4,css,h5,h6,h7⟩:=h
 obtain⟨ns,hns,_⟩:=pickAll (f:=sv) (Q:=fun _=>True) fun c hc=>by
  obtain⟨x,c1,c2,rfl,hx1,hx2⟩:=rep_each h5 h6 c hc
  obtain⟨rfl,_⟩:=hx1
  obtain⟨rfl,_⟩:=hx2
  exact⟨x,rfl,trivial⟩
 refine⟨s,ns,rfl,?_,h2,h3⟩
 rw[List.flatMap_def,<-hns];exact h7
structure NdIn(w:World)(n:Nd):Prop where
 rs:Rd w n.v.2.2.2.2.1 2 (n.rs.flatMap sv)
 ws:Rd w n.v.2.2.2.2.2 2 (n.ws.flatMap sv)
theorem NdIn.rn{w:World}{n:Nd}(h:NdIn w n):n.v.2.2.2.2.1.n=n.rs.length/\n.v.2.2.2.2.2.n=n.ws.length:=⟨rdN sv_len (by omega) h.rs,rdN sv_len (by omega) h.ws⟩
theorem NdIn.ext{w w':World}{n:Nd}(h:NdIn w n)(e:Ext w w'):NdIn w' n:=⟨h.rs.ext e,h.ws.ext e⟩
structure HIn(w:World)(t:Sl)(hs:List Nd):Prop where
 rd:Rd w t 6 (hs.flatMap nL)
 nd:∀n∈hs,NdIn w n
 cap:t.n<=t.c
 len:hs.length<=maxLen
theorem HIn.n{w:World}{t:Sl}{hs:List Nd}(h:HIn w t hs):t.n=hs.length:=rdN nL_len (by omega) h.rd
theorem HIn.ext{w w':World}{t:Sl}{hs:List Nd}(h:HIn w t hs)(e:Ext w w'):HIn w' t hs:=⟨h.rd.ext e,fun n hn=>(h.nd n hn).ext e,h.cap,h.len⟩
theorem HIn.hst{w:World}{t:Sl}{hs:List Nd}(h:HIn w t hs)(hg:¬GrtP hs):Hst w t hs:=by
 refine⟨h.rd,fun n hn=>⟨(h.nd n hn).rs,(h.nd n hn).ws,?_,?_⟩,?_,h.cap⟩
 ·have:¬40<n.rs.length:=fun h'=>hg (.inl ⟨n,hn,.inl h'⟩)
  omega
 ·have:¬40<n.ws.length:=fun h'=>hg (.inl ⟨n,hn,.inr h'⟩)
  omega
 ·have:¬40<hs.length:=fun h'=>hg (.inr h')
  omega
theorem maxLen_le:maxLen<=9223372036854775807:=by decide+kernel
def F134j1(R:RV)(s14:Sl)(y16:Nat->Int->World->Prop)(b18:Nat)(n19:Int)(w20:World):Prop:=IfB (decide (n19<(s14.n:Int))) (Qx s14.1 n19 (s14.2:Int) fun b23 b24=>Qs w20 b23 (b24+n19.toNat*2+0) fun s25=>IfB (decide (40<(s25.n:Int))) (R (Value.bool true) w20) (Qx s14.1 n19 (s14.2:Int) fun b26 b27=>Qs w20 b26 (b27+n19.toNat*2+1) fun s28=>IfB (decide (40<(s28.n:Int))) (R (Value.bool true) w20) (Qn y16 b18 (IntKind.i64.wrap (n19+1)) w20))) (R (Value.bool false) w20)
theorem F134_ok(t0:ByteArray×Int×Sl×Sl×Bool)(w:World)(R:RV)(h:AllocP w (Obj.cells (lC49 t0).toArray 49) fun b1 w2=>∃z3:ByteArray,w2.cell? ⟨b1,0+0,none⟩=some (Value.string z3)/\IfB (decide (300<(z3.size:Int))) (R (Value.bool true) w2) (Qs w2 b1 (0+2) fun s4=>IfB (decide (20<(s4.n:Int))) (R (Value.bool true) w2) (Qs w2 b1 (0+3) fun s5=>IfB (decide (20<(s5.n:Int))) (R (Value.bool true) w2) (Qs w2.drew b1 (0+2) fun s6=>Qs w2.drew b1 (0+3) fun s7=>0*2<=16777216/\AllocP w2.drew (Obj.cells #[] 99) fun b8 w9=>w9.cell? ⟨b1,0+3,none⟩=some (Qy s7)/\w9.cell? ⟨b1,0+2,none⟩=some (Qy s6)/\∃(l10:List Value),ReadC w9 s6.1 (s6.2*2) l10/\AppendP tt99 99 w9 (some ⟨b8,0,none⟩) 0 0 s6.2 l10 fun s11 w12=>w12.cell? ⟨b1,0+3,none⟩=some (Qy s7)/\∃(l13:List Value),ReadC w12 s7.1 (s7.2*2) l13/\AppendP tt99 99 w12 s11.1 s11.2 s11.3 s7.2 l13 fun s14 w15=>Ql (α:=Int) 0 w15 fun y16 b18 n19 w20=>(F134j1 R s14 y16 b18 n19 w20))))):Cw 134 #[(.agg (lC49 t0).toArray)] w R:=
 ckF Tryz.func134 (nd (nd (.node (.draw (sts [1,2,4,5] (.ac 0 [5,4,2,1] (.ac 3 [5,4] (.ac 6 [] (.st 7 .fin) .non) .non) .non))) (.node (nd (.loop [(4,oi)] (rg [2,2,4,4,28,49]) .nil)) .nil)))) h (by kernel_rfl) (by kernel_rfl)
def F71j1(R:RV)(b1:Nat)(y3:Nat->Int->World->Prop)(b5:Nat)(n6:Int)(w7:World):Prop:=Qs w7 b1 (0+0) fun s10=>IfB (decide (n6<(s10.n:Int))) (Qs w7 b1 (0+0) fun s11=>Qx s11.1 n6 (s11.2:Int) fun b12 b13=>∃(x14:ByteArray×Int×Sl×Sl×Bool),CellsAt w7 b12 (b13+n6.toNat*5) (lC49 x14)/\Qv' 134 #[Value.agg (lC49 x14).toArray] w7 fun t17 w16=>IfB t17 (R (Value.bool true) w16) (Qn y3 b5 (IntKind.i64.wrap (n6+1)) w16)) (Qs w7 b1 (0+0) fun s19=>R (Value.bool (decide (12<(s19.n:Int)))) w7)
theorem F71_ok(t0:Sl×List Value)(w:World)(R:RV)(h:AllocP w (Obj.cells { toList:=Qy t0.fst::t0.2 } 26) fun b1 w2=>Ql (α:=Int) 0 w2 fun y3 b5 n6 w7=>(F71j1 R b1 y3 b5 n6 w7)):Cw 71 #[Value.agg { toList:=Qy t0.fst::t0.2 }] w R:=
 ckF Tryz.func71 (nd (.node (nd (.loop [(3,oi)] (rg [2,16]) .nil)) .nil)) h (by kernel_rfl) (by kernel_rfl)
def F82j1(t1:Sl)(R:RV)(b1:Nat)(y3:Nat->Int->World->Prop)(b5:Nat)(n6:Int)(w7:World):Prop:=IfB (decide (n6<(t1.n:Int))) (Qx t1.1 n6 (t1.2:Int) fun b10 b11=>Qs w7 b10 (b11+n6.toNat*6+4) fun s12=>IfB (decide (60<(s12.n:Int))) (R (Value.bool true) w7) (Qx t1.1 n6 (t1.2:Int) fun b13 b14=>Qs w7 b13 (b14+n6.toNat*6+5) fun s15=>IfB (decide (60<(s15.n:Int))) (R (Value.bool true) w7) (Qn y3 b5 (IntKind.i64.wrap (n6+1)) w7))) (∃(x17:Sl×List Value),CellsN w7 b1 0 17 (Qy x17.fst::x17.2)/\Qv' 71 #[Value.agg { toList:=Qy x17.fst::x17.2 }] w7 fun t22 w21=>IfB t22 (R (Value.bool true) w21) (R (Value.bool (decide (110<(t1.n:Int)))) w21))
theorem F82_ok(t0:Sl×List Value)(t1:Sl)(w:World)(R:RV)(h:AllocP w (Obj.cells { toList:=Qy t0.fst::t0.2 } 26) fun b1 w2=>Ql (α:=Int) 0 w2 fun y3 b5 n6 w7=>(F82j1 t1 R b1 y3 b5 n6 w7)):Cw 82 #[Value.agg { toList:=Qy t0.fst::t0.2 },Qy t1] w R:=
 ckF Tryz.func82 (nd (.node (nd (.loop [(5,oi)] (rg [4,27]) .nil)) .nil)) h (by kernel_rfl) (by kernel_rfl)
theorem F29_ok(t0:Sl×List Value)(t1:Sl)(w:World)(R:RV)(h:AllocP w (Obj.cells { toList:=Qy t0.fst::t0.2 } 26) fun b1 w2=>∃(x3:Sl×List Value),CellsN w2 b1 0 17 (Qy x3.fst::x3.2)/\Qv' 82 #[Value.agg { toList:=Qy x3.fst::x3.2 },Qy t1] w2 fun t8 w7=>IfB t8 (R (Value.bool true) w7) (Qv' 83 #[Qy t1] w7 fun t11 w10=>IfB t11 (R (Value.bool true) w10) (R (Value.bool (decide (24<(t1.n:Int)))) w10))):Cw 29 #[Value.agg { toList:=Qy t0.fst::t0.2 },Qy t1] w R:=
 ckF Tryz.func29 .nil h (by kernel_rfl) (by kernel_rfl)
theorem stC_all(ss:List (Sl×Sl)):One (ss.flatMap stC):=by
 intro v hv
 obtain⟨x,_,hx⟩:=List.mem_flatMap.1 hv
 exact stC_one x v hx
theorem stC_flat(ss:List (Sl×Sl)):(ss.flatMap stC).length=ss.length*2:=flatLen stC_len ss
theorem c134{w:World}{v:ClsV}{x:ClsD}(h:ClsM w v x):Cw 134 #[clV v] w fun r w'=>∃b,r=.bool b/\Ext w w':=by
 refine F134_ok v w _ fun b1 w2 a2=>?_
 have e2:Ext w w2:=a2.ch _
 have q:=fun{W:World} (o:Nat) (e:Ext w2 W)=>boxAt (cs:=clsC v) a2.new o e
 have r2:=Ch.refl (fun _=>False) w2
 obtain⟨ss,hs1,hs2,hs3⟩:=h.st.list
 obtain⟨cs,hc1,hc2,hc3⟩:=h.co.list
 have hsn:=rdN stC_len (by omega) hs2
 have hcn:=rdN stC_len (by omega) hc2
 refine⟨_,q 0 r2,IfB.dec (fun _=>⟨true,rfl,e2⟩) fun _=>⟨_,q 2 r2,IfB.dec (fun _=>⟨true,rfl,e2⟩) fun g1=>⟨_,q 3 r2,IfB.dec (fun _=>⟨true,rfl,e2⟩) fun g2=>?_⟩⟩⟩
 have g1:¬(20:Int)<(v.2.2.1.n:Int):=g1
 have g2:¬(20:Int)<(v.2.2.2.1.n:Int):=g2
 have ed:=extDrew w2
 refine⟨_,q 2 ed,_,q 3 ed,by decide,fun b8 w9 a8=>?_⟩
 have e9:Ext w2 w9:=ed.trans (a8.ch _)
 have E9:Ext w w9:=e2.trans e9
 have p8:=a8.here;have z8:=a8.size;have z2:=a2.size;have p2:=a2.here
 have zd:w2.drew.heap.size=w2.heap.size:=rfl
 have r9:Rd w9 v.2.2.1 2 (ss.flatMap stC):=hs2.ext E9
 refine⟨q 3 e9,q 2 e9,_,r9.2,OwS.append (s:=⟨some ⟨b8,0,none⟩,0,0⟩) (cs:=[]) (new:=ss.flatMap stC) (sz:=2) (cnt:=v.2.2.1.n) (OwS.new (cs:=[]) (n:=0) a8 rfl) rfl rfl (by rw[stC_flat,hsn]) (stC_all ss) ⟨by dsimp only;omega,Nat.le_trans (Nat.mul_le_mul (show 2*(0+v.2.2.1.n)<=1000 by omega) (show _<=100000 by decide)) (by decide)⟩ fun s11 w12 ho hn hC hb _=>?_⟩
 have e12:Ext w2 w12:=e9.chN hC fun j hj=>by
  have:j=b8:=by simpa [blk] using hj
  omega
 have E12:Ext w w12:=e2.trans e12
 have r12:Rd w12 v.2.2.2.1 2 (cs.flatMap stC):=hc2.ext E12
 rw[List.nil_append] at ho
 dsimp only at hn
 refine⟨q 3 e12,_,r12.2,OwS.append (new:=cs.flatMap stC) (cnt:=v.2.2.2.1.n) ho rfl rfl (by rw[stC_flat,hcn]) (stC_all cs) ⟨by omega,Nat.le_trans (Nat.mul_le_mul (show 2*(s11.n+v.2.2.2.1.n)<=1000 by omega) (show _<=100000 by decide)) (by decide)⟩ fun s14 w15 ho' hn' hC' hb' _=>?_⟩
 have zz:=E9.size
 have e15:Ext w w15:=E12.chN hC' fun j hj=>by
  rcases hb j hj with h'|h'
  ·have:j=b8:=by simpa [blk] using h'
   have:=e2.size;omega
  ·omega
 rw[<-List.flatMap_append] at ho'
 have hl:=rdN stC_len (by omega) ho'.rd
 have hla:(ss++cs).length=ss.length+cs.length:=List.length_append
 refine⟨fun m z W=>∃i:Nat,i<=(ss++cs).length/\m+i=(ss++cs).length/\z=(i:Int)/\W=w15,⟨_,0,Nat.zero_le _,rfl,rfl,rfl⟩,?_⟩
 rintro m _ _ g ⟨i,hi,hm,rfl,rfl⟩
 unfold F134j1
 refine IfB.dec (fun hlt=>?_) fun _=>⟨false,rfl,e15⟩
 have hi':i<(ss++cs).length:=by omega
 have hx:(ss++cs)[i]? =some (ss++cs)[i]:=List.getElem?_eq_getElem hi'
 generalize (ss++cs)[i]=y at hx
 obtain⟨b,o,hp,hc⟩:=ho'.rd.elem (i:=i) (by omega) (by omega) (flatGet stC_len hx)
 exact⟨b,o,hp,⟨by omega,hlt⟩,y.1,by rw[Int.toNat_natCast];exact hc 0 _ rfl,IfB.dec (fun _=>⟨true,rfl,e15⟩) fun _=>⟨b,o,hp,⟨by omega,hlt⟩,y.2,by rw[Int.toNat_natCast];exact hc 1 _ rfl,IfB.dec (fun _=>⟨true,rfl,e15⟩) fun _=>⟨rfl,m-1,by omega,i+1,hi',by omega,by rw[wrap_of (by omega) (by omega)];rfl,rfl⟩⟩⟩
theorem c71{w:World}{v:CatV}{x:CatD}(h:CatM w v x):Cw 71 #[cxV v] w fun r w'=>∃b,r=.bool b/\Ext w w':=by
 have hn:=cat_cl h
 have hcap:=h.cl.cap
 have hml:=maxLen_le
 refine F71_ok v w _ fun b1 w2 a2=>?_
 have e2:Ext w w2:=a2.ch _
 have q:=fun{W:World} (e:Ext w2 W)=>boxAt (cs:=cxC v) a2.new 0 e
 refine⟨fun m z W=>∃i:Nat,i<=x.1.length/\m+i=x.1.length/\z=(i:Int)/\Ext w2 W,⟨_,0,Nat.zero_le _,rfl,rfl,Ch.refl _ _⟩,?_⟩
 rintro m _ W g ⟨i,hi,hm,rfl,e⟩
 unfold F71j1
 refine⟨_,q e,IfB.dec (fun hlt=>?_) fun _=>⟨_,q e,_,rfl,e2.trans e⟩⟩
 have hlt:(i:Int)<(v.1.n:Int):=hlt
 have hi':i<x.1.length:=by omega
 have hx:x.1[i]? =some x.1[i]:=List.getElem?_eq_getElem hi'
 generalize x.1[i]=y at hx
 obtain⟨b,o,cv,hp,hc,hM⟩:=ClsR.at (SlR.ext h.cl (e2.trans e)) hx
 refine⟨_,q e,b,o,hp,⟨by omega,hlt⟩,cv,by rw[Int.toNat_natCast];exact hc,(c134 hM).use ?_⟩
 rintro _ w16 ⟨r,rfl,e16⟩
 exact⟨r,rfl,IfB.intro (fun _=>⟨true,rfl,(e2.trans e).trans e16⟩) fun _=>⟨rfl,m-1,by omega,i+1,hi',by omega,by rw[wrap_of (by omega) (by omega)];rfl,e.trans e16⟩⟩
theorem c82{w:World}{v:CatV}{x:CatD}{t:Sl}{hs:List Nd}(h:CatM w v x)(hH:HIn w t hs):
  Cw 82 #[cxV v,slV t] w fun r w'=>∃b,r=.bool b/\(b=false->hs.length<=110/\∀n∈hs,n.rs.length<=60/\n.ws.length<=60)/\Ext w w':=by
 have hn:=hH.n
 have hml:=maxLen_le
 have hlen:=hH.len
 refine F82_ok v t w _ fun b1 w2 a2=>?_
 have e2:Ext w w2:=a2.ch _
 refine⟨fun m z W=>∃i:Nat,i<=hs.length/\m+i=hs.length/\z=(i:Int)/\(∀n∈hs.take i,n.rs.length<=60/\n.ws.length<=60)/\Ext w2 W,⟨_,0,Nat.zero_le _,rfl,rfl,by simp,Ch.refl _ _⟩,?_⟩
 rintro m _ W g ⟨i,hi,hm,rfl,ha,e⟩
 have yes:∀ {V:World},Ext w V->∃b,Value.bool true=.bool b/\(b=false->hs.length<=110/\∀n∈hs,n.rs.length<=60/\n.ws.length<=60)/\Ext w V:=fun e=>⟨true,rfl,fun h=>(by cases h),e⟩
 unfold F82j1
 refine IfB.dec (fun hlt=>?_) fun hge=>?_
 ·have hi':i<hs.length:=by omega
  have hx:hs[i]? =some hs[i]:=List.getElem?_eq_getElem hi'
  have hxm:hs[i]∈hs:=List.getElem_mem hi'
  have htk:=take_succ_get hx
  generalize hs[i]=y at hx hxm htk
  obtain⟨b,o,hp,hc⟩:=(hH.ext (e2.trans e)).rd.elem (i:=i) (by omega) (by omega) (flatGet nL_len hx)
  obtain⟨hr,hw⟩:=(hH.nd y hxm).rn
  refine⟨b,o,hp,⟨by omega,hlt⟩,y.v.2.2.2.2.1,by rw[Int.toNat_natCast];exact hc 4 _ rfl,IfB.dec (fun _=>yes (e2.trans e)) fun g1=>⟨b,o,hp,⟨by omega,hlt⟩,y.v.2.2.2.2.2,by rw[Int.toNat_natCast];exact hc 5 _ rfl,IfB.dec (fun _=>yes (e2.trans e)) fun g2=>⟨rfl,m-1,by omega,i+1,hi',by omega,by rw[wrap_of (by omega) (by omega)];rfl,?_,e⟩⟩⟩
  rw[htk];intro z hz
  rcases List.mem_append.1 hz with hz|hz
  ·exact ha z hz
  ·rw[List.mem_singleton.1 hz]
   have g1:¬(60:Int)<(y.v.2.2.2.2.1.n:Int):=g1
   have g2:¬(60:Int)<(y.v.2.2.2.2.2.n:Int):=g2
   omega
 ·have hi':i=hs.length:=by omega
  subst hi'
  rw[List.take_length] at ha
  refine⟨v,cxN h a2.new e,(c71 (h.ext (e2.trans e))).use ?_⟩
  rintro _ w21 ⟨r,rfl,e21⟩
  refine⟨r,rfl,IfB.intro (fun _=>yes ((e2.trans e).trans e21)) fun _=>⟨_,rfl,fun hf=>⟨?_,ha⟩,(e2.trans e).trans e21⟩⟩
  rw[decide_eq_false_iff_not] at hf
  omega
theorem c29{w:World}{v:CatV}{x:CatD}{t:Sl}{hs:List Nd}(h:CatM w v x)(hH:HIn w t hs):
  Cw 29 #[cxV v,slV t] w fun r w'=>∃b,r=.bool b/\(b=false->Hst w' t hs/\hs.length<=24)/\Ext w w':=by
 have hn:=hH.n
 have hml:=maxLen_le
 refine F29_ok v t w _ fun b1 w2 a2=>?_
 have e2:Ext w w2:=a2.ch _
 have yes:∀ {V:World},Ext w V->∃b,Value.bool true=.bool b/\(b=false->Hst V t hs/\hs.length<=24)/\Ext w V:=fun e=>⟨true,rfl,fun h=>(by cases h),e⟩
 refine⟨v,cxN h a2.new (Ch.refl _ _),(c82 (h.ext e2) (hH.ext e2)).use ?_⟩
 rintro _ w7 ⟨r,rfl,hr,e7⟩
 have e27:=e2.trans e7
 have h7:=hH.ext e27
 refine⟨r,rfl,IfB.intro (fun _=>yes e27) fun g1=>(c83 h7.rd (fun n hn=>(h7.nd n hn).rn) (Nat.le_trans hH.len hml)).use ?_⟩
 rintro _ _ ⟨r2,rfl,hr2,rfl⟩
 refine⟨r2,rfl,IfB.intro (fun _=>yes e27) fun g2=>⟨_,rfl,fun hf=>⟨h7.hst fun h'=>?_,?_⟩,e27⟩⟩
 ·rw[hr2.2 h'] at g2;cases g2
 ·rw[decide_eq_false_iff_not] at hf
  omega
def F154k1(t1:Sl)(x21:Int×Int×Int)(w22:World)(t2:Int)(b20:Nat)(y18:Nat->Int×Int×Int->World->Prop)(x17:Int×Int×Bool):Prop:=Qx t1.1 x21.snd.2 (t1.2:Int) fun b25 b26=>∃(x27:Int×Int×Int×Bool×Sl×Sl),CellsAt w22 b25 (b26+Int.toNat x21.snd.2*6) (lC53 x27)/\AllocP w22 (Obj.cells #[Qz 0,Qz 0,Qz 0,Value.bool false,Value.slice none 0 0,Value.slice none 0 0] 53) fun b28 w29=>(lC53 x27).toArray.size=6/\StoreP w29 b28 0 (lC53 x27) fun w30=>Qi w30.drew b28 (0+0) fun n31=>Qx t1.1 t2 (t1.2:Int) fun b32 b33=>Qi w30.drew b32 (b33+t2.toNat*6+0) fun n34=>IfB (n31 != n34) (Qn y18 b20 (x21.1,x21.snd.1,IntKind.i64.wrap (x21.snd.2+1)) w30.drew) (Qb w30.drew b28 (0+3) fun t36=>IfB t36 (Qn y18 b20 (x21.1,x21.snd.1,IntKind.i64.wrap (x21.snd.2+1)) w30.drew) (Qi w30.drew b28 (0+2) fun n38=>IfB (decide (n38<x17.fst)) (Qn y18 b20 (x21.1,x21.snd.1,IntKind.i64.wrap (x21.snd.2+1)) w30.drew) (Qi w30.drew b28 (0+2) fun n40=>IfB (decide (x17.snd.fst<n40)) (Qn y18 b20 (x21.1,x21.snd.1,IntKind.i64.wrap (x21.snd.2+1)) w30.drew) (Qn y18 b20 (if x21.snd.snd<x21.fst then x21.snd.2 else x21.1,if x21.snd.fst<x21.snd.snd then x21.snd.2 else x21.snd.1,IntKind.i64.wrap (x21.snd.2+1)) w30.drew))))
def F154j1(t1:Sl)(t2:Int)(R:RV)(x17:Int×Int×Bool)(y18:Nat->Int×Int×Int->World->Prop)(b20:Nat)(x21:Int×Int×Int)(w22:World):Prop:=IfB (decide (x21.snd.snd<(t1.n:Int))) (F154k1 t1 x21 w22 t2 b20 y18 x17) (R (Value.tuple #[Qz x21.1,Qz x21.snd.1]) w22)
theorem F154_ok(t0:Sl×List Value)(t1:Sl)(t2:Int)(t3:Int)(w:World)(R:RV)(h:AllocP w (Obj.cells { toList:=Qy t0.fst::t0.2 } 26) fun b1 w2=>Qx t1.1 t2 (t1.2:Int) fun b3 b4=>Qb w2 b3 (b4+t2.toNat*6+3) fun t5=>IfB t5 (R (Value.tuple #[Qz t2,Qz t2]) w2) (∃(x6:Sl×List Value),CellsN w2.drew b1 0 17 (Qy x6.fst::x6.2)/\Qx t1.1 t2 (t1.2:Int) fun b9 b10=>Qi w2.drew b9 (b10+t2.toNat*6+1) fun n11=>Qx t1.1 t2 (t1.2:Int) fun b12 b13=>Qi w2.drew b12 (b13+t2.toNat*6+2) fun n14=>Cx 136 #[Value.agg { toList:=Qy x6.fst::x6.2 },Qz n11,Qz t3,Qz n14] w2.drew fun v15 w16=>∃(x17:Int×Int×Bool),v15=Value.tuple #[Qz x17.1,Qz x17.snd.1,Value.bool x17.snd.2]/\Ql (α:=Int×Int×Int) (t2,t2,0) w16 fun y18 b20 x21 w22=>(F154j1 t1 t2 R x17 y18 b20 x21 w22))):Cw 154 #[Value.agg { toList:=Qy t0.fst::t0.2 },Qy t1,Qz t2,Qz t3] w R:=
 ckF Tryz.func154 (nd (nd (.node (.draw (sts [0,1,2,3,4,5,6,7,8,9,10,11] (.ac 12 [] (sts [13,14,15,16,17,18,19] .fin) .non))) (nd (.node (nd (.loop [(13,oi),(14,oi),(45,oi)] (rg [13,16,45,80]) (nd (nd (.node (nd (.node (.node (.draw (sts [0,1,2,3,4,5,6,7,8,9,10,11,12,13,14,15,16,17,18,19,20,21,22,23] .fin)) .nil) .nil)) .nil))))) .nil))))) h (by kernel_rfl) (by kernel_rfl)
noncomputable def R86_0:Code:=codeAt [1,0,1,0] (bodyOf Tryz.f86)
def R86_0a:An:=.node (.draw (sts [0,1,2,3,4,5,6,7] .fin)) .nil
theorem R86_0ok1:okC tb Tryz.f86.ntmps (rA R86_0) .nil=true:=by kernel_rfl
theorem R86_0ok2:okC tb Tryz.f86.ntmps (rB R86_0) R86_0a=true:=by kernel_rfl
theorem R86_0okp:(rP R86_0).toList.all (fun p=>Nat.blt p Tryz.f86.ntmps)=true:=by kernel_rfl
theorem F86_ok(t0:Sl)(t1:Int)(w:World)(R:RV)(h:AllocP w (Obj.cells #[Qy t0] 39) fun b1 w2=>AllocP w2 (Obj.cells #[Qz t1] 3) fun b3 w4=>AllocP w4 (Obj.cells #[Value.slice none 0 0] 41) fun b5 w6=>Qs w6 b1 0 fun s7=>Qi w6 b3 0 fun n8=>(0<=n8/\n8<=(s7.3:Int))/\Cx 153 #[Value.slice (slAddr s7.1 s7.3 0 6) n8.toNat s7.3] w6 fun v9 w10=>∃(x11:Nat×Array Value),v9=Value.func (Fn.func x11.1) #[] x11.2/\∀(y12:Nat->Value),RangeP Tryz.prog tb (nat_lit 25) none R86_0a (rG R86_0) (rP R86_0) (rA R86_0) (rB R86_0) (frC y12 [(2,Value.pointer (some ⟨b1,0,none⟩)),(3,Value.pointer (some ⟨b3,0,none⟩)),(4,Value.pointer (some ⟨b5,0,none⟩)),(10,Value.func (Fn.func x11.1) #[] x11.2)]) [] w10 (fun(l13:List Nat) (w14:World)=>#[Value.slice none 0 0].size=1/\StoreP w14 b5 0 [Value.slice none 0 0] fun w15=>marksP w15 l13 fun w16=>Qs w16 b5 0 fun s17=>R (Qy s17) w16) (fun(l18:List Nat) (w19:World)=>marksP w19 l18 fun w20=>Qs w20 b5 0 fun s21=>R (Qy s21) w20) fun(b22:Nat) (l23:List Nat) (w24:World)=>match b22.beq 0 with|true=>#[Value.slice none 0 0].size=1/\StoreP w24 b5 0 [Value.slice none 0 0] fun w26=>marksP w26 l23 fun w27=>Qs w27 b5 0 fun s28=>R (Qy s28) w27|false=>False):Cw 86 #[Qy t0,Qz t1] w R:=
 ckF Tryz.func86 (nd (.node (nd (.rng [(2,.one (.box)),(3,.one (.box)),(4,.one (.box)),(10,.one (.clo))] (.node (.draw (sts [0,1,2,3,4,5,6,7] .fin)) .nil))) .nil)) h (by kernel_rfl) (by kernel_rfl)
theorem F86b0_ok(t2:Nat)(t3:Nat)(t4:Nat)(t10:Nat×Array Value)(x11:Int)(x12:Int×Int×Int×Bool×Sl×Sl)(l D n₀:Nat)(Jn:World->Prop)(Jx:Code->World->Prop)(W:World){g:Nat->Value}(h:AllocP W (Obj.cells #[Qz 0,Qz 0,Qz 0,Value.bool false,Value.slice none 0 0,Value.slice none 0 0] 53) fun b1 w2=>(lC53 x12).toArray.size=6/\StoreP w2 b1 0 (lC53 x12) fun w3=>([]:List Nat)=[]/\(w3.1[l]? =W.1[l]? /\w3.1[D]? =W.1[D]?)/\∀(w12:World),Stb n₀ w3 w12->Its w3 w12->(∃y15:Loop,w12.1[l]? =some (Obj.loop y15))->Qi w12.drew b1 (0+0) fun n19=>∃s20:Sl,w12.drew.cell? ⟨t2,0,none⟩=some (Qy s20)/\∃n21:Int,w12.drew.cell? ⟨t3,0,none⟩=some (Qz n21)/\Qx s20.1 n21 (s20.2:Int) fun b22 b23=>Qi w12.drew b22 (b23+n21.toNat*6+0) fun n24=>IfB (n19 == n24) (∃n25:Int,w12.drew.cell? ⟨t3,0,none⟩=some (Qz n25)/\1*3<=16777216/\AllocP w12.drew (Obj.cells #[Qz x11,Qz n25,Qz 1] 44) fun b26 w27=>#[Value.slice (some ⟨b26,0,none⟩) 1 1].size=1/\StoreP w27 t4 0 [Value.slice (some ⟨b26,0,none⟩) 1 1] fun w28=>(w28.1[l]? =w12.1[l]? /\w28.1[D]? =w12.1[D]?)/\Jx Code.ret w28) ((w12.drew.1[l]? =w12.1[l]? /\w12.drew.1[D]? =w12.1[D]?)/\Jn w12.drew)):
  BodyP Tryz.prog tb Tryz.f86.ntmps l D n₀ R86_0a (rP R86_0) (rA R86_0) (rB R86_0) (frC g [(2,Value.pointer (some ⟨t2,0,none⟩)),(3,Value.pointer (some ⟨t3,0,none⟩)),(4,Value.pointer (some ⟨t4,0,none⟩)),(10,Value.func (Fn.func t10.1) #[] t10.2)]) Jn Jx [Value.int IntKind.i64 x11,(.agg (lC53 x12).toArray)] W:=
 Eq.mp (by kernel_rfl) h
theorem F87_ok(t0:Sl×List Value)(t1:Sl)(t2:Int)(t3:Int)(w:World)(R:RV)(h:AllocP w (Obj.cells { toList:=Qy t0.fst::t0.2 } 26) fun b1 w2=>∃(x3:Sl×List Value),CellsN w2.drew b1 0 17 (Qy x3.fst::x3.2)/\Qx t1.1 t3 (t1.2:Int) fun b6 b7=>Qi w2.drew b6 (b7+t3.toNat*6+1) fun n8=>Cx 154 #[Value.agg { toList:=Qy x3.fst::x3.2 },Qy t1,Qz t2,Qz n8] w2.drew fun v9 w10=>∃(x11:Int×Int),v9=Value.tuple #[Qz x11.1,Qz x11.2]/\∃(x12:Sl×List Value),CellsN w10.drew b1 0 17 (Qy x12.fst::x12.2)/\Qx t1.1 t2 (t1.2:Int) fun b15 b16=>Qi w10.drew b15 (b16+t2.toNat*6+1) fun n17=>Cx 154 #[Value.agg { toList:=Qy x12.fst::x12.2 },Qy t1,Qz t3,Qz n17] w10.drew fun v18 w19=>∃(x20:Int×Int),v18=Value.tuple #[Qz x20.1,Qz x20.2]/\3*3<=16777216/\AllocP w19 (Obj.cells #[Qz t2,Qz t3,Qz 2,Qz x11.2,Qz t3,Qz 3,Qz t2,Qz x20.1,Qz 4] 44) fun b21 w22=>R (Value.slice (some ⟨b21,0,none⟩) 3 3) w22):Cw 87 #[Value.agg { toList:=Qy t0.fst::t0.2 },Qy t1,Qz t2,Qz t3] w R:=
 ckF Tryz.func87 (nd (.node (.draw (sts [0,1,2,3,4,5,6,7] (.ac 8 [] (sts [9,10,11,12,13] .fin) .non))) (.node (.draw (sts [0,1,2,3,4,5,6,7] (.ac 8 [] (sts [9,10,11,12,13] .fin) .non))) .nil))) h (by kernel_rfl) (by kernel_rfl)
def F157j1(t0:Sl)(R:RV)(y1:Nat->Int->World->Prop)(b3:Nat)(n4:Int)(w5:World):Prop:=IfB (decide (n4<(t0.n:Int))) (Qx t0.1 n4 (t0.2:Int) fun b8 b9=>Qi w5 b8 (b9+n4.toNat) fun n10=>IfB (n10 != 0) (R (Qz n10) w5) (Qn y1 b3 (IntKind.i64.wrap (n4+1)) w5)) (R (Qz 0) w5)
theorem F157_ok(t0:Sl)(w:World)(R:RV)(h:Ql (α:=Int) 0 w fun y1 b3 n4 w5=>(F157j1 t0 R y1 b3 n4 w5)):Cw 157 #[Qy t0] w R:=
 ckF Tryz.func157 (nd (nd (.node (nd (.loop [(8,oi)] (rg [2,2,5,5,8,16]) .nil)) .nil))) h (by kernel_rfl) (by kernel_rfl)
theorem F89_ok(t0:Int×Int×Int)(t1:Int×Int×Int)(w:World)(R:RV)(h:AllocP w (Obj.cells (lC44 t0).toArray 44) fun b1 w2=>AllocP w2 (Obj.cells (lC44 t1).toArray 44) fun b3 w4=>Qi w4.drew b1 (0+0) fun n5=>Qi w4.drew b3 (0+0) fun n6=>Qi w4.drew b1 (0+1) fun n7=>Qi w4.drew b3 (0+1) fun n8=>Qi w4.drew b1 (0+2) fun n9=>Qi w4.drew b3 (0+2) fun n10=>Qw' 158 #[Qz n5,Qz n6] w4.drew fun n13 w12=>w12.cell? ⟨b3,0+2,none⟩=some (Qz n10)/\w12.cell? ⟨b1,0+2,none⟩=some (Qz n9)/\w12.cell? ⟨b3,0+1,none⟩=some (Qz n8)/\w12.cell? ⟨b1,0+1,none⟩=some (Qz n7)/\Qw' 158 #[Qz n7,Qz n8] w12 fun n16 w15=>w15.cell? ⟨b3,0+2,none⟩=some (Qz n10)/\w15.cell? ⟨b1,0+2,none⟩=some (Qz n9)/\Qw' 158 #[Qz n9,Qz n10] w15 fun n19 w18=>3*1<=16777216/\AllocP w18 (Obj.cells #[Qz n13,Qz n16,Qz n19] 3) fun b20 w21=>Qw' 157 #[Value.slice (some ⟨b20,0,none⟩) 3 3] w21 fun n24 w23=>R (Qz n24) w23):Cw 89 #[(.agg (lC44 t0).toArray),(.agg (lC44 t1).toArray)] w R:=
 ckF Tryz.func89 (nd (.node (.draw (sts [0,1,2,3,5,6,7,8,10,11,12,13] (.ac 4 (rg [5,8,10,13]) (.ac 9 [13,12,11,10] (.ac 14 [] (.ac 15 [] (.ac 16 [] (.st 17 .fin) .non) .non) .non) .non) .non))) .nil)) h (by kernel_rfl) (by kernel_rfl)
def F90j2(t0:Sl)(R:RV)(n4:Int)(y15:Nat->Int×Int->World->Prop)(b17:Nat)(x18:Int×Int)(w19:World):Prop:=IfB (decide (x18.snd<(((t0.n-n4.toNat:Nat):Int):Int))) (Qx (slAddr t0.1 t0.3 n4.toNat 3) x18.2 ((t0.2-n4.toNat:Nat):Int) fun b22 b23=>∃(x24:Int×Int×Int),CellsAt w19.drew b22 (b23+x18.2.toNat*3) (lC44 x24)/\Qx (slAddr t0.1 t0.3 n4.toNat 3) (IntKind.i64.wrap (x18.2-1)) ((t0.2-n4.toNat:Nat):Int) fun b25 b26=>∃(x27:Int×Int×Int),CellsAt w19.drew b25 (b26+(IntKind.i64.wrap (x18.2-1)).toNat*3) (lC44 x27)/\∃t28:Bool,EqAt Tryz.prog 44 ((.agg (lC44 x24).toArray)) ((.agg (lC44 x27).toArray)) t28/\IfB (!t28) (Qx (slAddr t0.1 t0.3 n4.toNat 3) x18.2 ((t0.2-n4.toNat:Nat):Int) fun b29 b30=>∃(x31:Int×Int×Int),CellsAt w19.drew b29 (b30+x18.2.toNat*3) (lC44 x31)/\Qx t0.1 x18.1 (t0.2:Int) fun b32 b33=>(lC44 x31).toArray.size=3/\StoreP w19.drew b32 (b33+x18.1.toNat*3) (lC44 x31) fun w34=>Qn y15 b17 (IntKind.i64.wrap (x18.1+1),IntKind.i64.wrap (x18.2+1)) w34) (Qn y15 b17 (x18.1,IntKind.i64.wrap (x18.2+1)) w19.drew)) ((0<=x18.1/\x18.1<=(t0.2:Int))/\match slAddr t0.1 t0.3 x18.1.toNat 3 with|none=>(0<=x18.1/\x18.1<=(t0.3:Int))/\R (Value.slice (slAddr t0.1 t0.3 0 3) x18.1.toNat t0.3) w19|some ({ block:=b38,off:=b39,spot:=none }:Addr)=>StoreP w19 b38 b39 (zc #[Qz 0,Qz 0,Qz 0] (t0.2-x18.1.toNat)) fun w40=>(0<=x18.1/\x18.1<=(t0.3:Int))/\R (Value.slice (slAddr t0.1 t0.3 0 3) x18.1.toNat t0.3) w40|some y41=>False)
def F90j1(t0:Sl)(R:RV)(y1:Nat->Int->World->Prop)(b3:Nat)(n4:Int)(w5:World):Prop:=IfB (decide (n4<(t0.n:Int))) (Qx t0.1 n4 (t0.2:Int) fun b8 b9=>∃(x10:Int×Int×Int),CellsAt w5.drew b8 (b9+n4.toNat*3) (lC44 x10)/\Qx t0.1 (IntKind.i64.wrap (n4-1)) (t0.2:Int) fun b11 b12=>∃(x13:Int×Int×Int),CellsAt w5.drew b11 (b12+(IntKind.i64.wrap (n4-1)).toNat*3) (lC44 x13)/\∃t14:Bool,EqAt Tryz.prog 44 ((.agg (lC44 x10).toArray)) ((.agg (lC44 x13).toArray)) t14/\IfB t14 ((0<=n4/\n4<=(t0.2:Int))/\Ql (α:=Int×Int) (n4,1) w5.drew fun y15 b17 x18 w19=>(F90j2 t0 R n4 y15 b17 x18 w19)) (Qn y1 b3 (IntKind.i64.wrap (n4+1)) w5.drew)) (R (Qy t0) w5)
theorem F90_ok(t0:Sl)(w:World)(R:RV)(h:IfB (decide ((t0.n:Int)<2)) (R (Qy t0) w) (Ql (α:=Int) 1 w fun y1 b3 n4 w5=>(F90j1 t0 R y1 b3 n4 w5))):Cw 90 #[Qy t0] w R:=
 ckF Tryz.func90 (nd (nd (.node (nd (.loop [(3,oi)] (rg [2,5,10,59]) (nd (.node (.node (.draw (sts [0,1,2,3,4,5,6,7,8,9] .fin)) (.node (nd (.node (nd (.loop [(3,oi),(5,oi)] (rg [3,3,5,5,29,53]) (nd (.node (.node (.draw (sts [0,1,2,3,4,5,6,7,8,9] .fin)) .nil) .nil)))) .nil)) .nil)) .nil)))) .nil))) h (by kernel_rfl) (by kernel_rfl)
def F30j2(t1:Sl)(b1:Nat)(y12:Nat->Sl×Int->World->Prop)(b14:Nat)(x15:Sl×Int)(s21:Sl)(y28:Nat->Sl×Int->World->Prop)(b30:Nat)(x31:Sl×Int)(w32:World):Prop:=IfB (decide (x31.snd<(s21.n:Int))) (Qx s21.1 x31.2 (s21.2:Int) fun b35 b36=>Qi w32 b35 (b36+x31.2.toNat) fun n37=>Qx t1.1 n37 (t1.2:Int) fun b38 b39=>Qi w32.drew b38 (b39+n37.toNat*6+0) fun n40=>Qx t1.1 x15.2 (t1.2:Int) fun b41 b42=>Qi w32.drew b41 (b42+x15.2.toNat*6+0) fun n43=>IfB (n40 != n43) (∃(x44:Sl×List Value),CellsN w32.drew b1 0 17 (Qy x44.fst::x44.2)/\Qu' 87 #[Value.agg { toList:=Qy x44.fst::x44.2 },Qy t1,Qz n37,Qz x15.2] w32.drew fun s49 w48=>∃(l50:List Value),ReadC w48 s49.1 (s49.2*3) l50/\AppendP tt44 44 w48 x31.fst.1 x31.fst.2 x31.fst.3 s49.2 l50 fun s51 w52=>Qn y28 b30 ({ p:=s51.1,n:=s51.2,c:=s51.3 },IntKind.i64.wrap (x31.2+1)) w52) (Qn y28 b30 ({ p:=x31.fst.1,n:=x31.fst.2,c:=x31.fst.3 },IntKind.i64.wrap (x31.2+1)) w32.drew)) (Qn y12 b14 ({ p:=x31.fst.1,n:=x31.fst.2,c:=x31.fst.3 },IntKind.i64.wrap (x15.2+1)) w32)
def F30j1(t1:Sl)(R:RV)(b1:Nat)(s11:Sl)(y12:Nat->Sl×Int->World->Prop)(b14:Nat)(x15:Sl×Int)(w16:World):Prop:=IfB (decide (x15.snd<(s11.n:Int))) (Qx s11.1 x15.2 (s11.2:Int) fun b19 b20=>Qs w16 b19 (b20+x15.2.toNat) fun s21=>Qu' 86 #[Qy t1,Qz x15.2] w16 fun s24 w23=>∃(l25:List Value),ReadC w23 s24.1 (s24.2*3) l25/\AppendP tt44 44 w23 x15.fst.1 x15.fst.2 x15.fst.3 s24.2 l25 fun s26 w27=>Ql (α:=Sl×Int) ({ p:=s26.1,n:=s26.2,c:=s26.3 },0) w27 fun y28 b30 x31 w32=>(F30j2 t1 b1 y12 b14 x15 s21 y28 b30 x31 w32)) (Cx 88 #[Qy x15.fst,Value.func (Fn.func 89) #[] #[]] w16 fun v56 w57=>∃y58:Unit,v56=Value.tuple #[]/\Qu' 90 #[Qy x15.fst] w57 fun s61 w60=>R (Qy s61) w60)
theorem F30_ok(t0:Sl×List Value)(t1:Sl)(w:World)(R:RV)(h:AllocP w (Obj.cells { toList:=Qy t0.fst::t0.2 } 26) fun b1 w2=>∃(x3:Sl×List Value),CellsN w2 b1 0 17 (Qy x3.fst::x3.2)/\Qv' 84 #[Value.agg { toList:=Qy x3.fst::x3.2 },Qy t1] w2 fun t8 w7=>IfB (!t8) (R (Value.slice none 0 0) w7) (Qu' 85 #[Qy t1] w7 fun s11 w10=>Ql (α:=Sl×Int) ({ p:=none,n:=0,c:=0 },0) w10 fun y12 b14 x15 w16=>(F30j1 t1 R b1 s11 y12 b14 x15 w16))):Cw 30 #[Value.agg { toList:=Qy t0.fst::t0.2 },Qy t1] w R:=
 ckF Tryz.func30 (nd (nd (nd (.node (nd (.loop [(5,.one (.sl)),(17,oi)] (rg [5,7,9,9,17,52]) (nd (nd (.node (nd (nd (nd (.loop [(5,.one (.sl)),(29,oi)] (rg [5,5,9,9,29,51]) (nd (nd (.node (nd (.node (.draw (sts [0,1,2,3,4,5,6,7,8,9,10] .fin)) .nil)) .nil))))))) .nil))))) .nil)))) h (by kernel_rfl) (by kernel_rfl)
theorem own_class{x:CatD}{hs:List Nd}(h:HMay x hs)(s:Int):∀i,i<=hs.length->match lastOwn hs i s with
  | none=>∀k b,k<i->hs[k]? =some b->b.v.1≠s
  | some m=>∀k b,k<i->hs[k]? =some b->b.v.1=s->b.v.2.1=m.v.2.1:=by
 intro i
 induction i with
 | zero=>
  intro _
  have:lastOwn hs 0 s=none:=by unfold lastOwn ownL;simp
  rw[this]
  exact fun k b hk=>absurd hk (Nat.not_lt_zero _)
 | succ i ih=>
  intro hi
  have ih:=ih (by omega)
  have hx:hs[i]? =some hs[i]:=List.getElem?_eq_getElem (by omega)
  generalize hs[i]=y at hx
  have hnx:=(h.ok i y hx).nx
  rw[lastOwn_succ hx]
  by_cases hys:y.v.1=s
  ·rw[if_pos hys]
   intro k b hk hb hbs
   rcases Nat.lt_or_ge k i with h'|h'
   ·rw[hys] at hnx
    cases hl:lastOwn hs i s with
    | none=>rw[hl] at ih;exact absurd hbs (ih k b h' hb)
    | some m=>
     rw[hl] at ih hnx
     exact(ih k b h' hb hbs).trans hnx.1.symm
   ·have:k=i:=by omega
    subst this
    rw[hx] at hb;cases hb;rfl
  ·rw[if_neg hys]
   have old:∀k b,k<i+1->hs[k]? =some b->b.v.1=s->k<i:=fun k b hk hb hbs=>by
    rcases Nat.lt_or_ge k i with h'|h'
    ·exact h'
    ·have:k=i:=by omega
     subst this
     rw[hx] at hb;cases hb;exact absurd hbs hys
   cases hl:lastOwn hs i s with
   | none=>
    rw[hl] at ih
    intro k b hk hb hbs
    exact ih k b (old k b hk hb hbs) hb hbs
   | some m=>
    rw[hl] at ih
    intro k b hk hb hbs
    exact ih k b (old k b hk hb hbs) hb hbs
theorem HMay.cls{x:CatD}{hs:List Nd}(h:HMay x hs){i k:Nat}{a b:Nd}(ha:hs[i]? =some a)(hb:hs[k]? =some b)(he:a.v.1=b.v.1):a.v.2.1=b.v.2.1:=by
 have hia:=(List.getElem?_eq_some_iff.1 ha).1
 have hkb:=(List.getElem?_eq_some_iff.1 hb).1
 have:=own_class h b.v.1 hs.length (Nat.le_refl _)
 cases hl:lastOwn hs hs.length b.v.1 with
 | none=>rw[hl] at this;exact absurd rfl (this k b hkb hb)
 | some m=>rw[hl] at this;exact(this i a hia ha he).trans (this k b hkb hb rfl).symm
def FstP(x:CatD)(hs:List Nd)(i:Nat)(d:Int)(f:Nat):Prop:=InP x hs i f d/\∀k,InP x hs i k d->f<=k
def LstP(x:CatD)(hs:List Nd)(i:Nat)(d:Int)(l:Nat):Prop:=InP x hs i l d/\∀k,InP x hs i k d->k<=l
theorem InP.lt{x:CatD}{hs:List Nd}{i k:Nat}{d:Int}(h:InP x hs i k d)(hi:i<hs.length):k<hs.length:=by
 rcases h with rfl|⟨_,b,_,hb,_⟩
 ·exact hi
 ·exact(List.getElem?_eq_some_iff.1 hb).1
theorem uN_of{x:CatD}{c d:Int}(hc:0<=c)(hd:0<=d)(k:Nat):uN x c d k=unitN x c.toNat d.toNat k:=by unfold uN;rw[if_pos ⟨hc,hd⟩]
theorem c154{w:World}{v:CatV}{x:CatD}{t:Sl}{hs:List Nd}(h:CatM w v x)(hH:Hst w t hs)(hM:HMay x hs){i:Nat}(hi:i<hs.length){d:Int}(hd:0<=d/\d<(x.1.length:Int)):
  Cw 154 #[cxV v,slV t,iv i,iv d] w fun r w'=>∃f l:Nat,r=.tuple #[iv f,iv l]/\FstP x hs i d f/\LstP x hs i d l/\Ext w w':=by
 have htn:=hH.n
 have hl100:=hM.len
 have ha:hs[i]? =some hs[i]:=List.getElem?_eq_getElem hi
 generalize hs[i]=a at ha
 have sa:=hM.step ha
 have oa:=hM.ok i a ha
 have hbd:(0:Int)<=(i:Int)/\(i:Int)<(t.n:Int):=⟨by omega,by omega⟩
 refine F154_ok v t (i:Int) d w _ fun b1 w2 a2=>?_
 have e2:Ext w w2:=a2.ch _
 obtain⟨p1,o1,hp1,hc1⟩:=(hH.ext e2).at ha
 refine⟨p1,o1,hp1,hbd,a.v.2.2.2.1,by rw[Int.toNat_natCast];exact hc1 3 _ rfl,IfB.intro (fun h1=>⟨i,i,rfl,⟨.inl rfl,fun k hk=>?_⟩,⟨.inl rfl,fun k hk=>?_⟩,e2⟩) fun h1=>?_⟩
 ·rcases hk with rfl|⟨a',b',ha',_,_,hb',_⟩
  ·exact Nat.le_refl _
  ·rw[ha] at ha';cases ha';rw[h1] at hb';cases hb'
 ·rcases hk with rfl|⟨a',b',ha',_,_,hb',_⟩
  ·exact Nat.le_refl _
  ·rw[ha] at ha';cases ha';rw[h1] at hb';cases hb'
 have ed:=extDrew w2
 have E2:=e2.trans ed
 obtain⟨p2,o2,hp2,hc2⟩:=(hH.ext E2).at ha
 refine⟨v,cxN h a2.new ed,p2,o2,hp2,hbd,a.v.2.1,by rw[Int.toNat_natCast];exact hc2 1 _ rfl,p2,o2,hp2,hbd,a.v.2.2.1,by rw[Int.toNat_natCast];exact hc2 2 _ rfl,(c136 (h.ext E2) hM.cat a.v.2.1 d a.v.2.2.1).use ?_⟩
 rintro _ w16 ⟨lo,up,b,rfl,hb,hlu,e16⟩
 have E16:=E2.trans e16
 obtain⟨l,u,rfl,rfl,hB⟩:=hlu (hb.2 ⟨⟨oa.c0,oa.cn⟩,hd,sa.1,sa.2.1⟩)
 have hin:∀ {k:Nat}{n:Nd},hs[k]? =some n->(InP x hs i k d↔n.v.1=a.v.1/\n.v.2.2.2.1=false/\(l:Int)<=n.v.2.2.1/\n.v.2.2.1<=(u:Int)):=fun{k n} hn=>by
  have sn:=hM.step hn
  have key:n.v.1=a.v.1->(uN x a.v.2.1 d a.v.2.2.1.toNat=uN x a.v.2.1 d n.v.2.2.1.toNat↔(l:Int)<=n.v.2.2.1/\n.v.2.2.1<=(u:Int)):=fun he=>by
   have hcl:=hM.cls hn ha he
   rw[uN_of oa.c0 hd.1,uN_of oa.c0 hd.1,eq_comm,hB.iff (by rw[<-hcl];omega)]
   omega
  constructor
  ·rintro(rfl|⟨a',b',ha',hb',h2,h3,h4,h5⟩)
   ·rw[ha] at hn;cases hn
    have:=hB.l;have:=hB.h
    exact⟨rfl,h1,by omega,by omega⟩
   ·rw[ha] at ha';rw[hn] at hb'
    cases ha';cases hb'
    exact⟨h2.symm,h4,(key h2.symm).1 h5⟩
  ·rintro⟨h2,h3,h4⟩
   exact .inr ⟨a,n,ha,hn,h2.symm,h1,h3,(key h2).2 h4⟩
 refine⟨((l:Int),(u:Int),b),rfl,fun m z W=>∃k f e:Nat,k<=hs.length/\m+k=hs.length/\z=((f:Int),(e:Int),(k:Int))/\(InP x hs i f d/\InP x hs i e d/\∀j,j<k->InP x hs i j d->f<=j/\j<=e)/\Ext w W,⟨hs.length,0,i,i,Nat.zero_le _,rfl,rfl,⟨.inl rfl,.inl rfl,fun j hj=>absurd hj (Nat.not_lt_zero _)⟩,E16⟩,?_⟩
 rintro m _ W g ⟨k,f,e,hk,hm,rfl,⟨hf,he,hall⟩,eW⟩
 unfold F154j1
 refine IfB.dec (fun hlt=>?_) fun hge=>?_
 ·dsimp only at hlt
  have hk':k<hs.length:=by omega
  have hn:hs[k]? =some hs[k]:=List.getElem?_eq_getElem hk'
  generalize hs[k]=n at hn
  have hbk:(0:Int)<=(k:Int)/\(k:Int)<(t.n:Int):=⟨by omega,by omega⟩
  obtain⟨p3,o3,hp3,hc3⟩:=(hH.ext eW).at hn
  unfold F154k1
  refine⟨p3,o3,hp3,hbk,n.v,by dsimp only;rw[Int.toNat_natCast];exact hc3,fun b28 w29 a29=>⟨rfl,store_all (vs:=nC n.v) a29.new rfl (nC_one n.v) fun w30 u30=>?_⟩⟩
  have e30:Ext W w30:=Ext.fresh a29 u30
  have ed30:=extDrew w30
  have E30:Ext w w30.drew:=(eW.trans e30).trans ed30
  have q:=fun(o:Nat)=>boxAt (cs:=nC n.v) u30.new o ed30
  obtain⟨p4,o4,hp4,hc4⟩:=(hH.ext E30).at ha
  have hw:IntKind.i64.wrap ((k:Int)+1)=((k+1:Nat):Int):=by rw[wrap_of (by omega) (by omega)];rfl
  have step:∀ {f' e':Nat},(InP x hs i f' d/\InP x hs i e' d/\∀j,j<k+1->InP x hs i j d->f'<=j/\j<=e')->([]:List Nat)=[]/\∃b,b<m/\∃k' f e:Nat,k'<=hs.length/\b+k'=hs.length/\((f':Int),(e':Int),IntKind.i64.wrap ((k:Int)+1))=((f:Int),(e:Int),(k':Int))/\(InP x hs i f d/\InP x hs i e d/\∀j,j<k'->InP x hs i j d->f<=j/\j<=e)/\Ext w w30.drew:=fun{f' e'} hh=>⟨rfl,m-1,by omega,k+1,f',e',hk',by omega,by rw[hw],hh,E30⟩
  have skip:=fun(hno:¬InP x hs i k d)=>step (f':=f) (e':=e) ⟨hf,he,fun j hj hj'=>by
   rcases Nat.lt_or_ge j k with h'|h'
   ·exact hall j h' hj'
   ·exact absurd hj' (by rw[show j=k by omega];exact hno)⟩
  refine⟨_,q 0,p4,o4,hp4,hbd,a.v.1,by rw[Int.toNat_natCast];exact hc4 0 _ rfl,IfB.intro (fun g1=>skip fun k'=>?_) fun g1=>⟨_,q 3,IfB.intro (fun g2=>skip fun k'=>?_) fun g2=>⟨_,q 2,IfB.dec (fun g3=>skip fun k'=>?_) fun g3=>⟨_,q 2,IfB.dec (fun g4=>skip fun k'=>?_) fun g4=>?_⟩⟩⟩⟩
  ·have g1:n.v.1≠a.v.1:=by simpa using g1
   exact g1 ((hin hn).1 k').1
  ·rw[((hin hn).1 k').2.1] at g2;cases g2
  ·have:=((hin hn).1 k').2.2.1
   dsimp only at g3;omega
  ·have:=((hin hn).1 k').2.2.2
   dsimp only at g4;omega
  ·have g1:n.v.1=a.v.1:=by simpa using g1
   dsimp only at g3 g4
   have hik:InP x hs i k d:=(hin hn).2 ⟨g1,g2,by omega,by omega⟩
   have em:(if (k:Int)<(f:Int) then (k:Int) else (f:Int))=((min f k:Nat):Int):=by split<;>omega
   have eM:(if (e:Int)<(k:Int) then (k:Int) else (e:Int))=((max e k:Nat):Int):=by split<;>omega
   dsimp only
   rw[em,eM]
   refine step ⟨?_,?_,fun j hj hj'=>?_⟩
   ·rcases Nat.le_total f k with h'|h'
    ·rw[Nat.min_eq_left h'];exact hf
    ·rw[Nat.min_eq_right h'];exact hik
   ·rcases Nat.le_total e k with h'|h'
    ·rw[Nat.max_eq_right h'];exact hik
    ·rw[Nat.max_eq_left h'];exact he
   ·rcases Nat.lt_or_ge j k with h'|h'
    ·have:=hall j h' hj';omega
    ·omega
 ·dsimp only at hge
  have hk':k=hs.length:=by omega
  subst hk'
  exact⟨f,e,rfl,⟨hf,fun j hj=>(hall j (hj.lt hi) hj).1⟩,⟨he,fun j hj=>(hall j (hj.lt hi) hj).2⟩,eW⟩
end Go.Proofs.YtlpgdngcgbeegaaGreat.Gx
namespace Go.Proofs.YtlpgdngcgbeegaaGreat.Gx.SfA
open Go Go.Proofs.YtlpgdngcgbeegaaGreat.Gx
abbrev El:=Int×Int×Int
def key(x:El):Int:=x.1*1000000+x.2.1*1000+x.2.2
def Q(x:El):Prop:=(0<=x.1/\x.1<=999)/\(0<=x.2.1/\x.2.1<=999)/\0<=x.2.2/\x.2.2<=999
@[reducible] def ins:SrtC El:=⟨fun i=>[88,155,204,205,206,207,208,209,210,211,242,245,246,278].getD i 0,fun x=>[.int .i64 x.1,.int .i64 x.2.1,.int .i64 x.2.2],3,(0,0,0),key,Q⟩
set_option linter.unusedVariables false
set_option maxRecDepth 100000
theorem k0(t0:Sl)(t1:Nat×Array Value)(w:World)(R:RV)(h: @G0 El ins t0 t1 w R):Cw 88 #[Value.slice t0.1 t0.2 t0.3,Value.func (Fn.func t1.1) #[] t1.2] w R:=
 call_of tbOk mixed en88 Tryz.func88 rfl .nil (by kernel_rfl) (Nat.le_of_ble_eq_true (by kernel_rfl)) (Eq.mp (α:= @G0 El ins t0 t1 w R) (by kernel_rfl) h)
theorem k1(t0:Sl)(t1:Int)(t2:Int)(t3:Int)(t4:Nat×Array Value)(w:World)(R:RV)(h: @G1 El ins t0 t1 t2 t3 t4 w R):Cw 155 #[Value.slice t0.1 t0.2 t0.3,Value.int IntKind.i64 t1,Value.int IntKind.i64 t2,Value.int IntKind.i64 t3,Value.func (Fn.func t4.1) #[] t4.2] w R:=
 call_of tbOk mixed en155 Tryz.func155 rfl (nd (nd (.loop [(1,oi),(2,oi),(3,oi),(10,ob),(11,ob)] (rg [1,3,10,147]) (nd (nd (nd (.join [(3,oi)] (rg [3,3,38,46]) .nil (nd (.join [(13,oi),(14,oi)] (rg [13,14,55,67]) .nil (.join [] (rg [68,80]) .nil (.node (.node (.draw (sts [0,1,2,3,4,5,6,7,8,9,10,11,12] (.ac 13 [] (sts [14,15,16] .fin) .non))) .nil) .nil))))))))))) (by kernel_rfl) (Nat.le_of_ble_eq_true (by kernel_rfl)) (Eq.mp (α:= @G1 El ins t0 t1 t2 t3 t4 w R) (by kernel_rfl) h)
theorem k2(t0:Sl)(t1:Int)(t2:Int)(t3:Nat×Array Value)(w:World)(R:RV)(h: @G2 El ins t0 t1 t2 t3 w R):Cw 204 #[Value.slice t0.1 t0.2 t0.3,Value.int IntKind.i64 t1,Value.int IntKind.i64 t2,Value.func (Fn.func t3.1) #[] t3.2] w R:=
 call_of tbOk mixed en204 Tryz.func204 rfl (nd (.loop [(8,oi)] (rg [8,9,12,52]) (nd (.node (nd (.loop [(9,oi)] (rg [9,9,18,52]) (.node (.node (.draw (sts [0,1,2,3,4,5,6,7,8,9,10,11,12,13] (.ac 14 [] (sts [15,16] .fin) .non))) .nil) (.node (.draw (sts [0,1,2,3,4,5,6,7,8,9,10,11,12,13,14] (.ac 15 [4,3,2] (.st 16 (.ac 17 [] .fin .non)) .non))) .nil)))) .nil)))) (by kernel_rfl) (Nat.le_of_ble_eq_true (by kernel_rfl)) (Eq.mp (α:= @G2 El ins t0 t1 t2 t3 w R) (by kernel_rfl) h)
theorem k3(t0:Sl)(t1:Int)(t2:Int)(t3:Nat×Array Value)(w:World)(R:RV)(h: @G3 El ins t0 t1 t2 t3 w R):Cw 205 #[Value.slice t0.1 t0.2 t0.3,Value.int IntKind.i64 t1,Value.int IntKind.i64 t2,Value.func (Fn.func t3.1) #[] t3.2] w R:=
 call_of tbOk mixed en205 Tryz.func205 rfl (nd (nd (nd (.node (nd (.loop [(11,oi)] (rg [11,11,20,29]) .nil)) (nd (.loop [(12,oi)] (rg [12,12,32,59]) (nd (.node (.node (.draw (sts [0,1,2,3,4,5,6,7,8,9,10,11,12,13,14,15,16] (.ac 17 [5,4,3,2] (.st 18 (.ac 19 [] .fin .non)) .non))) .nil) .nil)))))))) (by kernel_rfl) (Nat.le_of_ble_eq_true (by kernel_rfl)) (Eq.mp (α:= @G3 El ins t0 t1 t2 t3 w R) (by kernel_rfl) h)
theorem k4(t0:Sl)(t1:Int)(t2:Int)(t3:Nat×Array Value)(w:World)(R:RV)(h: @G4 El ins t0 t1 t2 t3 w R):Cw 206 #[Value.slice t0.1 t0.2 t0.3,Value.int IntKind.i64 t1,Value.int IntKind.i64 t2,Value.func (Fn.func t3.1) #[] t3.2] w R:=
 call_of tbOk mixed en206 Tryz.func206 rfl (nd (nd (.node (nd (nd (nd (.loop [(11,oi)] (rg [11,12,28,66]) (nd (.node (nd (.join [(12,oi)] (rg [12,12,43,48]) .nil (.draw (sts [0,1,2,3,4,5,6,7,8,9,10,11,12,13,14,15,16] (.ac 17 [5,4,3,2] (.st 18 (.ac 19 [] .fin .non)) .non))))) .nil)))))) .nil))) (by kernel_rfl) (Nat.le_of_ble_eq_true (by kernel_rfl)) (Eq.mp (α:= @G4 El ins t0 t1 t2 t3 w R) (by kernel_rfl) h)
theorem k5(t0:Sl)(t1:Int)(t2:Int)(t3:Nat×Array Value)(w:World)(R:RV)(h: @G5 El ins t0 t1 t2 t3 w R):Cw 207 #[Value.slice t0.1 t0.2 t0.3,Value.int IntKind.i64 t1,Value.int IntKind.i64 t2,Value.func (Fn.func t3.1) #[] t3.2] w R:=
 call_of tbOk mixed en207 Tryz.func207 rfl (nd (nd (nd (nd (nd (nd (.join [(13,oi)] (rg [12,14,33,54]) (nd (.node (.join [(12,oi),(13,oi),(14,oi)] (rg [12,14,35,48]) .nil .nil) .nil)) .nil))))))) (by kernel_rfl) (Nat.le_of_ble_eq_true (by kernel_rfl)) (Eq.mp (α:= @G5 El ins t0 t1 t2 t3 w R) (by kernel_rfl) h)
theorem k6(t0:Sl)(t1:Int)(t2:Int)(t3:Nat×Array Value)(w:World)(R:RV)(h: @G6 El ins t0 t1 t2 t3 w R):Cw 208 #[Value.slice t0.1 t0.2 t0.3,Value.int IntKind.i64 t1,Value.int IntKind.i64 t2,Value.func (Fn.func t3.1) #[] t3.2] w R:=
 call_of tbOk mixed en208 Tryz.func208 rfl (nd (nd (.loop [(8,oi),(9,oi)] (rg [8,9,13,33]) (nd (.node (.draw (sts [0,1,2,3,4,5,6,7,8,9,10,11,12] (.ac 13 [3,2] (.st 14 (.ac 15 [] .fin .non)) .non))) .nil))))) (by kernel_rfl) (Nat.le_of_ble_eq_true (by kernel_rfl)) (Eq.mp (α:= @G6 El ins t0 t1 t2 t3 w R) (by kernel_rfl) h)
theorem k7(t0:Sl)(t1:Int)(t2:Int)(t3:Nat×Array Value)(w:World)(R:RV)(h: @G7 El ins t0 t1 t2 t3 w R):Cw 209 #[Value.slice t0.1 t0.2 t0.3,Value.int IntKind.i64 t1,Value.int IntKind.i64 t2,Value.func (Fn.func t3.1) #[] t3.2] w R:=
 call_of tbOk mixed en209 Tryz.func209 rfl (nd (nd (.node (nd (.loop [(9,oi),(10,oi)] (rg [8,12,15,140]) (nd (.node (.join [(9,oi)] (rg [9,9,19,38]) (.loop [(9,oi)] (rg [9,9,19,38]) (.node (.node (.draw (sts [0,1,2,3,4,5,6,7,8,9,10,11,12,13] (.ac 14 [] (sts [15,16,17] .fin) .non))) .nil) .nil)) (nd (nd (.node (.draw (sts [0,1,2,3,4,5,6,7,8,9,10,11,12,13,14] (.ac 15 [4,3,2] (.st 16 (.ac 17 [] .fin .non)) .non))) (.join [] (rg [11,11,62,100]) (nd (.node (nd (.loop [(11,oi)] (rg [11,11,68,100]) (nd (.node (.node (.node (.draw (sts [0,1,2,3,4,5,6,7,8,9] (.ac 10 [] (sts [11,12] .fin) .non))) .nil) (.draw (sts [0,1,2,3,4,5,6,7,8,9,10,11,12,13,14] (.ac 15 [4,3,2] (.st 16 (.ac 17 [] .fin .non)) .non)))) .nil)))) .nil)) (.join [(104,ob)] [101,102,103,104] .nil (.node (nd (.loop [(12,oi)] (rg [12,12,107,140]) (nd (.node (.node (.node (.draw (sts [0,1,2,3,4,5,6,7,8,9] (.ac 10 [] (sts [11,12] .fin) .non))) .nil) (.draw (sts [0,1,2,3,4,5,6,7,8,9,10,11,12,13,14] (.ac 15 [4,3,2] (.st 16 (.ac 17 [] .fin .non)) .non)))) .nil)))) .nil))))))) .nil)))) .nil))) (by kernel_rfl) (Nat.le_of_ble_eq_true (by kernel_rfl)) (Eq.mp (α:= @G7 El ins t0 t1 t2 t3 w R) (by kernel_rfl) h)
theorem k8(t0:Sl)(t1:Int)(t2:Int)(t3:Int)(t4:Nat×Array Value)(w:World)(R:RV)(h: @G8 El ins t0 t1 t2 t3 t4 w R):Cw 210 #[Value.slice t0.1 t0.2 t0.3,Value.int IntKind.i64 t1,Value.int IntKind.i64 t2,Value.int IntKind.i64 t3,Value.func (Fn.func t4.1) #[] t4.2] w R:=
 call_of tbOk mixed en210 Tryz.func210 rfl (nd (.node (.draw (sts [0,1,2,3,4,5,6,7,8,9,10,11,12] (.ac 13 [3,2] (.st 14 (.ac 15 [] .fin .non)) .non))) (nd (.node (.loop [(11,oi),(12,oi)] (rg [11,12,31,88]) (.join [(11,oi)] (rg [11,11,31,49]) (.loop [(11,oi)] (rg [11,11,31,49]) (.node (.node (.draw (sts [0,1,2,3,4,5,6,7,8,9,10,11,12] (.ac 13 [] (sts [14,15,16] .fin) .non))) .nil) .nil)) (.join [(12,oi)] (rg [12,12,50,67]) (.loop [(12,oi)] (rg [12,12,50,67]) (.node (.node (.draw (sts [0,1,2,3,4,5,6,7,8,9,10,11,12] (.ac 13 [] (sts [14,15] .fin) .non))) .nil) .nil)) (nd (.node (.draw (sts [0,1,2,3,4,5,6,7,8,9,10,11,12] (.ac 13 [3,2] (.st 14 (.ac 15 [] .fin .non)) .non))) .nil))))) .nil)))) (by kernel_rfl) (Nat.le_of_ble_eq_true (by kernel_rfl)) (Eq.mp (α:= @G8 El ins t0 t1 t2 t3 t4 w R) (by kernel_rfl) h)
theorem k9(t0:Sl)(t1:Int)(t2:Int)(t3:Int)(t4:Nat×Array Value)(w:World)(R:RV)(h: @G9 El ins t0 t1 t2 t3 t4 w R):Cw 211 #[Value.slice t0.1 t0.2 t0.3,Value.int IntKind.i64 t1,Value.int IntKind.i64 t2,Value.int IntKind.i64 t3,Value.func (Fn.func t4.1) #[] t4.2] w R:=
 call_of tbOk mixed en211 Tryz.func211 rfl (nd (.node (.draw (sts [0,1,2,3,4,5,6,7,8,9,10,11,12] (.ac 13 [3,2] (.st 14 (.ac 15 [] .fin .non)) .non))) (nd (.join [(12,oi)] (rg [12,12,32,49]) (.loop [(12,oi)] (rg [12,12,32,49]) (.node (.node (.draw (sts [0,1,2,3,4,5,6,7,8,9,10,11,12] (.ac 13 [] (sts [14,15] .fin) .non))) .nil) .nil)) (.join [(13,oi)] (rg [13,13,50,68]) (.loop [(13,oi)] (rg [13,13,50,68]) (.node (.node (.draw (sts [0,1,2,3,4,5,6,7,8,9,10,11,12] (.ac 13 [] (sts [14,15,16] .fin) .non))) .nil) .nil)) (.node (nd (.node (.node (.draw (sts [0,1,2,3,4,5,6,7,8,9,10,11,12] (.ac 13 [3,2] (.st 14 (.ac 15 [] .fin .non)) .non))) .nil) .nil)) (.node (.draw (sts [0,1,2,3,4,5,6,7,8,9,10,11,12] (.ac 13 [3,2] (.st 14 (.ac 15 [] .fin .non)) .non))) (nd (nd (.node (.loop [(12,oi),(13,oi)] (rg [12,13,105,162]) (.join [(12,oi)] (rg [12,12,105,122]) (.loop [(12,oi)] (rg [12,12,105,122]) (.node (.node (.draw (sts [0,1,2,3,4,5,6,7,8,9,10,11,12] (.ac 13 [] (sts [14,15] .fin) .non))) .nil) .nil)) (.join [(13,oi)] (rg [13,13,123,141]) (.loop [(13,oi)] (rg [13,13,123,141]) (.node (.node (.draw (sts [0,1,2,3,4,5,6,7,8,9,10,11,12] (.ac 13 [] (sts [14,15,16] .fin) .non))) .nil) .nil)) (nd (.node (.draw (sts [0,1,2,3,4,5,6,7,8,9,10,11,12] (.ac 13 [3,2] (.st 14 (.ac 15 [] .fin .non)) .non))) .nil))))) (.node (.draw (sts [0,1,2,3,4,5,6,7,8,9,10,11,12] (.ac 13 [3,2] (.st 14 (.ac 15 [] .fin .non)) .non))) .nil))))))))))) (by kernel_rfl) (Nat.le_of_ble_eq_true (by kernel_rfl)) (Eq.mp (α:= @G9 El ins t0 t1 t2 t3 t4 w R) (by kernel_rfl) h)
theorem k10(t0:Sl)(t1:Int)(t2:Int)(t3:Int)(t4:Nat×Array Value)(w:World)(R:RV)(h: @G10 El ins t0 t1 t2 t3 t4 w R):Cw 242 #[Value.slice t0.1 t0.2 t0.3,Value.int IntKind.i64 t1,Value.int IntKind.i64 t2,Value.int IntKind.i64 t3,Value.func (Fn.func t4.1) #[] t4.2] w R:=
 call_of tbOk mixed en242 Tryz.func242 rfl (nd (.loop [(10,oi)] (rg [10,11,13,81]) (nd (nd (.join [(11,oi)] (rg [11,11,19,42]) (.node (.draw (sts [0,1,2,3,4,5,6,7,8,9,10,11,12,13,14,15,16,17,18] (.ac 19 [] (sts [20,21] .fin) .non))) .nil) (.node (.node (.draw (sts [0,1,2,3,4,5,6,7,8,9,10,11,12] (.ac 13 [] (sts [14,15] .fin) .non))) .nil) (.node (.draw (sts [0,1,2,3,4,5,6,7,8,9,10,11,12,13,14,15,16,17,18,19,20] (.ac 21 [7,6,5,4] (.st 22 (.ac 23 [] .fin .non)) .non))) .nil))))))) (by kernel_rfl) (Nat.le_of_ble_eq_true (by kernel_rfl)) (Eq.mp (α:= @G10 El ins t0 t1 t2 t3 t4 w R) (by kernel_rfl) h)
theorem k11(t0:Sl)(t1:Int)(t2:Option Addr)(t3:Nat×Array Value)(w:World)(R:RV)(h: @G11 El ins t0 t1 t2 t3 w R):Cw 245 #[Value.slice t0.1 t0.2 t0.3,Value.int IntKind.i64 t1,Value.pointer t2,Value.func (Fn.func t3.1) #[] t3.2] w R:=
 call_of tbOk mixed en245 Tryz.func245 rfl .nil (by kernel_rfl) (Nat.le_of_ble_eq_true (by kernel_rfl)) (Eq.mp (α:= @G11 El ins t0 t1 t2 t3 w R) (by kernel_rfl) h)
theorem k12(t0:Sl)(t1:Int)(t2:Int)(t3:Int)(t4:Option Addr)(t5:Nat×Array Value)(w:World)(R:RV)(h: @G12 El ins t0 t1 t2 t3 t4 t5 w R):Cw 246 #[Value.slice t0.1 t0.2 t0.3,Value.int IntKind.i64 t1,Value.int IntKind.i64 t2,Value.int IntKind.i64 t3,Value.pointer t4,Value.func (Fn.func t5.1) #[] t5.2] w R:=
 call_of tbOk mixed en246 Tryz.func246 rfl .nil (by kernel_rfl) (Nat.le_of_ble_eq_true (by kernel_rfl)) (Eq.mp (α:= @G12 El ins t0 t1 t2 t3 t4 t5 w R) (by kernel_rfl) h)
theorem k13(t0:Sl)(t1:Int)(t2:Int)(t3:Option Addr)(t4:Nat×Array Value)(w:World)(R:RV)(h: @G13 El ins t0 t1 t2 t3 t4 w R):Cw 278 #[Value.slice t0.1 t0.2 t0.3,Value.int IntKind.i64 t1,Value.int IntKind.i64 t2,Value.pointer t3,Value.func (Fn.func t4.1) #[] t4.2] w R:=
 call_of tbOk mixed en278 Tryz.func278 rfl (nd (.node (.node (.draw (sts [0,1,2,3,4,5,6,7,8] (.ac 9 [] (.st 10 .fin) .non))) .nil) .nil)) (by kernel_rfl) (Nat.le_of_ble_eq_true (by kernel_rfl)) (Eq.mp (α:= @G13 El ins t0 t1 t2 t3 t4 w R) (by kernel_rfl) h)
theorem ok: @SrtOk El ins:= @SrtOk.mk El ins k0 k1 k2 k3 k4 k5 k6 k7 k8 k9 k10 k11 k12 k13
abbrev sv(x:El):List Value:=[.int .i64 x.1,.int .i64 x.2.1,.int .i64 x.2.2]
theorem ol: @SfG.SrtL El ins:= @SfG.SrtL.mk El ins (fun _=>rfl) (fun x=>by intro v hv;change v∈sv x at hv;simp at hv;rcases hv with rfl|rfl|rfl<;>rfl) (by decide)
def CmpP(cl:Nat×Array Value):Prop:=∀(x y:El)(W:World),Q x->Q y->Cw cl.1 { toList:=Value.agg (sv x).toArray::Value.agg (sv y).toArray::cl.2.toList } W fun v w'=>∃n:Int,v=iv n/\(n<0↔key x<key y)/\Ext W w'
theorem c88{cl:Nat×Array Value}(hcp:CmpP cl){w:World}{s:Sl}{xs:List El}(h:OwS w s 3 (xs.flatMap sv))(hl:xs.length<=1000000)(hq:∀x∈xs,Q x):
  Cw 88 #[slV s,.func (.func cl.1) #[] cl.2] w fun v w'=>v=.tuple #[]/\∃ys:List El,ys.Perm xs/\ys.Pairwise (fun x y=>key x<=key y)/\OwS w' s 3 (ys.flatMap sv)/\Ch (fun i=>i∈blk s) w w':=
 @SfG.q0 El ins ok ol cl (hcp) w s xs h hl hq
end Go.Proofs.YtlpgdngcgbeegaaGreat.Gx.SfA
namespace Go.Proofs.YtlpgdngcgbeegaaGreat.Gx
open Go
set_option linter.unusedSimpArgs false
set_option linter.unusedVariables false
abbrev ArcD:=Int×Int×Int
abbrev aC(x:ArcD):List Value:=[.int .i64 x.1,.int .i64 x.2.1,.int .i64 x.2.2]
theorem aC_len(x:ArcD):(aC x).length=3:=rfl
theorem aC_one(x:ArcD):One (aC x):=by intro v hv;simp at hv;rcases hv with rfl|rfl|rfl<;>rfl
theorem cmpZ(x y:Int)(w:World):Cw 158 #[.int .i64 x,.int .i64 y] w fun v w'=>∃n:Int,v=iv n/\(n<0↔x<y)/\(n=0↔x=y)/\w=w':=by
 refine F158_ok _ _ _ _ ((c214 x w).use ?_)
 rintro _ _ ⟨rfl,rfl⟩
 refine⟨false,rfl,(c214 y w).use ?_⟩
 rintro _ _ ⟨rfl,rfl⟩
 refine⟨false,rfl,IfB.no rfl (IfB.no rfl (IfB.dec (fun h=>⟨_,rfl,by simp;omega,by simp;omega,rfl⟩) fun h=>IfB.dec (fun h'=>⟨_,rfl,by simp;omega,by simp;omega,rfl⟩) fun h'=>⟨_,rfl,by simp;omega,by simp;omega,rfl⟩))⟩
def orI:List Int->Int
 | []=>0
 | x::l=>if x≠0 then x else orI l
theorem c157{w:World}{t:Sl}{xs:List Int}(h:Rd w t 1 (xs.map iv))(hl:xs.length<=1000000):Cw 157 #[slV t] w fun v w'=>v=iv (orI xs)/\w=w':=by
 have hn:=rdI h
 refine F157_ok t w _ ⟨fun m z W=>∃k:Nat,k<=xs.length/\m+k=xs.length/\z=(k:Int)/\orI xs=orI (xs.drop k)/\w=W,⟨_,0,Nat.zero_le _,rfl,rfl,rfl,rfl⟩,?_⟩
 rintro m _ _ g ⟨k,hk,hm,rfl,ho,rfl⟩
 unfold F157j1
 refine IfB.dec (fun hlt=>?_) fun hge=>?_
 ·have hk':k<xs.length:=by omega
  have hx:xs[k]? =some xs[k]:=List.getElem?_eq_getElem hk'
  have hd:=List.drop_eq_getElem_cons hk'
  generalize xs[k]=y at hx hd
  obtain⟨b,o,hp,hc⟩:=h.elem1 (i:=k) (v:=iv y) (by rw[List.getElem?_map,hx];rfl)
  have ho:orI xs=if y≠0 then y else orI (xs.drop (k+1)):=by rw[ho,hd,orI]
  refine⟨b,o,hp,⟨by omega,by omega⟩,y,by rw[Int.toNat_natCast];exact hc,IfB.intro (fun h1=>⟨?_,rfl⟩) fun h1=>⟨rfl,m-1,by omega,k+1,hk',by omega,by rw[wrap_of (by omega) (by omega)];rfl,?_,rfl⟩⟩
  ·have h1:y≠0:=by simpa using h1
   rw[if_pos h1] at ho
   rw[ho]
  ·have h1:¬y≠0:=by simpa using h1
   rw[if_neg h1] at ho
   exact ho
 ·have hk':k=xs.length:=by omega
  subst hk'
  rw[List.drop_length] at ho
  exact⟨by rw[ho];rfl,rfl⟩
theorem c89:SfA.CmpP (89,#[]):=by
 intro x y w hx hy
 refine F89_ok x y w _ fun b1 w2 a2 b3 w4 a4=>?_
 have e4:Ext w w4:=(a2.ch _).trans (a4.ch _)
 have ed:=extDrew w4
 have q1:=fun(o:Nat)=>boxAt (cs:=aC x) (a4.at a2.new) o ed
 have q3:=fun(o:Nat)=>boxAt (cs:=aC y) a4.new o ed
 refine⟨_,q1 0,_,q3 0,_,q1 1,_,q3 1,_,q1 2,_,q3 2,(cmpZ x.1 y.1 _).use ?_⟩
 rintro _ _ ⟨n1,rfl,h1,z1,rfl⟩
 refine⟨n1,rfl,q3 2,q1 2,q3 1,q1 1,(cmpZ x.2.1 y.2.1 _).use ?_⟩
 rintro _ _ ⟨n2,rfl,h2,z2,rfl⟩
 refine⟨n2,rfl,q3 2,q1 2,(cmpZ x.2.2 y.2.2 _).use ?_⟩
 rintro _ _ ⟨n3,rfl,h3,z3,rfl⟩
 refine⟨n3,rfl,by decide,fun b20 w21 a21=>?_⟩
 refine(c157 (xs:=[n1,n2,n3]) (OwS.new (sz:=1) (n:=3) (cs:=[iv n1,iv n2,iv n3]) a21 rfl).rd (by simp)).use ?_
 rintro _ _ ⟨rfl,rfl⟩
 refine⟨_,rfl,_,rfl,?_,(e4.trans ed).trans (a21.ch _)⟩
 obtain⟨k1,k2,k3⟩:=hx
 obtain⟨g1,g2,g3⟩:=hy
 unfold SfA.key
 simp only[orI]
 split
 ·omega
 ·split
  ·omega
  ·split<;>omega
def BtwP(x:CatD)(hs:List Nd)(a b:Nat)(xs:List ArcD):Prop:=∃na nb l f,hs[a]? =some na/\hs[b]? =some nb/\LstP x hs a nb.v.2.1 l/\FstP x hs b na.v.2.1 f/\xs=[((a:Int),(b:Int),2),((l:Int),(b:Int),3),((a:Int),(f:Int),4)]
theorem c87{w:World}{v:CatV}{x:CatD}{t:Sl}{hs:List Nd}(h:CatM w v x)(hH:Hst w t hs)(hM:HMay x hs){a b:Nat}(ha:a<hs.length)(hb:b<hs.length):
  Cw 87 #[cxV v,slV t,iv a,iv b] w fun r w'=>∃t' xs,r=slV t'/\BtwP x hs a b xs/\OwS w' t' 3 (xs.flatMap aC)/\Ext w w'/\∀j∈blk t',w.heap.size<=j:=by
 have htn:=hH.n
 have ga:hs[a]? =some hs[a]:=List.getElem?_eq_getElem ha
 have gb:hs[b]? =some hs[b]:=List.getElem?_eq_getElem hb
 generalize hs[a]=na at ga
 generalize hs[b]=nb at gb
 have oa:=hM.ok a na ga
 have ob:=hM.ok b nb gb
 refine F87_ok v t (a:Int) (b:Int) w _ fun b1 w2 a2=>?_
 have e2:Ext w w2:=a2.ch _
 have ed:=extDrew w2
 have E2:=e2.trans ed
 obtain⟨p1,o1,hp1,hc1⟩:=(hH.ext E2).at gb
 refine⟨v,cxN h a2.new ed,p1,o1,hp1,⟨by omega,by omega⟩,nb.v.2.1,by rw[Int.toNat_natCast];exact hc1 1 _ rfl,(c154 (h.ext E2) (hH.ext E2) hM ha ⟨ob.c0,ob.cn⟩).use ?_⟩
 rintro _ w10 ⟨f1,l1,rfl,_,hl1,e10⟩
 have ed10:=extDrew w10
 have x10:Ext w2 w10.drew:=(ed.trans e10).trans ed10
 have E10:=e2.trans x10
 obtain⟨p2,o2,hp2,hc2⟩:=(hH.ext E10).at ga
 refine⟨((f1:Int),(l1:Int)),rfl,v,cxN h a2.new x10,p2,o2,hp2,⟨by omega,by omega⟩,na.v.2.1,by rw[Int.toNat_natCast];exact hc2 1 _ rfl,(c154 (h.ext E10) (hH.ext E10) hM hb ⟨oa.c0,oa.cn⟩).use ?_⟩
 rintro _ w19 ⟨f2,l2,rfl,hf2,_,e19⟩
 refine⟨((f2:Int),(l2:Int)),rfl,by decide,fun b21 w22 a22=>⟨⟨some ⟨b21,0,none⟩,3,3⟩,[((a:Int),(b:Int),2),((l1:Int),(b:Int),3),((a:Int),(f2:Int),4)],rfl,⟨na,nb,l1,f2,ga,gb,hl1,hf2,rfl⟩,OwS.new (sz:=3) (n:=3) a22 rfl,(E10.trans e19).trans (a22.ch _),fun j hj=>?_⟩⟩
 have hj:j=b21:=by simpa [blk] using hj
 have:=a22.here;have:=(E10.trans e19).size
 omega
def OwnA(hs:List Nd)(i:Nat)(xs:List ArcD):Prop:=∃n,hs[i]? =some n/\((xs=[]/\∀k m,k<i->hs[k]? =some m->m.v.1≠n.v.1)\/∃k m,k<i/\hs[k]? =some m/\m.v.1=n.v.1/\xs=[((k:Int),(i:Int),1)]/\∀j m,k<j->j<i->hs[j]? =some m->m.v.1≠n.v.1)
theorem c86{w:World}{t:Sl}{hs:List Nd}(hH:Hst w t hs){i:Nat}(hi:i<hs.length):
  Cw 86 #[slV t,iv i] w fun r w'=>∃t' xs,r=slV t'/\OwnA hs i xs/\OwS w' t' 3 (xs.flatMap aC)/\Ext w w'/\∀j∈blk t',w.heap.size<=j:=by
 have htn:=hH.n
 have hlen:=hH.len
 have hcap:=hH.cap
 have ga:hs[i]? =some hs[i]:=List.getElem?_eq_getElem hi
 generalize hs[i]=n at ga
 refine F86_ok t (i:Int) w _ fun b1 w2 a2 b3 w4 a4 b5 w6 a6=>?_
 obtain⟨T1,a2⟩:∃T,IsAlloc w (.cells #[slV t] T (0,0)) b1 w2:=⟨_,a2⟩
 obtain⟨T5,a6⟩:∃T,IsAlloc w4 (.cells #[slV ⟨none,0,0⟩] T (0,0)) b5 w6:=⟨_,a6⟩
 have z2:=a2.size;have z4:=a4.size;have z6:=a6.size
 have p2:=a2.here;have p4:=a4.here;have p6:=a6.here
 have e6:Ext w w6:=((a2.ch _).trans (a4.ch _)).trans (a6.ch _)
 have k1:=a6.at (a4.at a2.new)
 have k3:=a6.at a4.new
 have k5:=a6.new
 refine⟨t,by rw[cell_of k1];rfl,(i:Int),by rw[cell_of k3];rfl,⟨by omega,by omega⟩,?_⟩
 rw[Int.toNat_natCast,slAddr_zero]
 refine(c153 ⟨t.p,i,t.c⟩ w6).use ?_
 rintro _ w10 ⟨pb,T,rfl,a10⟩
 have p10:=a10.here;have z10:=a10.size
 have x10:Ext w6 w10:=a10.ch _
 have e10:Ext w w10:=e6.trans x10
 refine⟨(203,#[.pointer (some ⟨pb,0,none⟩)]),rfl,fun g=>?_⟩
 obtain⟨vs,hvs⟩:∃vs,vs=(hs.take i).map (·.v):=⟨_,rfl⟩
 have hvl:vs.length=i:=by rw[hvs,List.length_map,List.length_take];omega
 have hvf:(hs.take i).flatMap nL=vs.flatMap nC:=by rw[hvs,List.flatMap_map]
 have hcut:=(hH.ext e10).cut (k:=i) (by omega)
 let Bx:World->Prop:=fun W=>W.heap[b1]? =some (.cells #[slV t] T1 (0,0))/\W.heap[b3]? =some (.cells #[iv i] 3 (0,0))
 let nil5:World->Prop:=fun W=>W.heap[b5]? =some (.cells #[slV ⟨none,0,0⟩] T5 (0,0))
 refine range_none tbOk mixed (gf:=203) (lb:=#[.pointer (some ⟨pb,0,none⟩)]) rfl (itB pb ⟨t.p,i,t.c⟩ vs (by omega)) R86_0ok1 R86_0ok2 R86_0okp (fun _=>rfl)
  (fun pre W=>pre.length<=i/\InvB pb ⟨t.p,i,t.c⟩ vs W/\(∀k m,i-pre.length<=k->k<i->hs[k]? =some m->m.v.1≠n.v.1)/\Bx W/\nil5 W/\Ext w W)
  (fun c pre W=>c=.ret/\∃t' xs,OwnA hs i xs/\OwS W t' 3 (xs.flatMap aC)/\W.heap[b5]? =some (.cells #[slV t'] T5 (0,0))/\(∀j∈blk t',w10.heap.size+2<=j)/\Ext w W) ?_ ?_ (fun _ _ h=>h.2.1) (fun h=>by cases h) ?_ ?_ ?_ ?_
 ·rintro pre A B ⟨h1,h2,h3,⟨q1,q3⟩,q5,h6⟩ hS
  exact⟨h1,h2.stb hS,h3,⟨hS.keep _ _ q1 rfl,hS.keep _ _ q3 rfl⟩,hS.keep _ _ q5 rfl,h6.stbE hS (by omega)⟩
 ·rintro c pre A B ⟨h1,t',xs,h2,h3,h4,h5,h6⟩ hS
  exact⟨h1,t',xs,h2,h3.stb hS,hS.keep _ _ h4 rfl,h5,h6.stbE hS (by omega)⟩
 ·exact⟨Nat.zero_le _,⟨⟨T,a10.new⟩,by rw[<-hvf];exact hcut.rd⟩,fun k m h1 h2=>by simp at h1;omega,⟨x10.at k1,x10.at k3⟩,x10.at k5,e10⟩
 ·rintro pre ⟨xi,xv⟩ W ⟨hpl,hIB,hno,⟨q1,q3⟩,q5,hX⟩ ⟨k,hk,hxi,hxv⟩ hW
  dsimp only at hxi hxv
  subst hxi
  have hki:k<i:=by omega
  have hnd:hs[k]? =some hs[k]:=List.getElem?_eq_getElem (by omega)
  generalize hs[k]=nd at hnd
  have hxe:xv=nd.v:=by
   rw[hvs,List.getElem?_map,List.getElem?_take_of_lt hki,hnd] at hxv
   exact(Option.some.inj hxv).symm
  subst hxe
  refine F86b0_ok b1 b3 b5 (203,#[.pointer (some ⟨pb,0,none⟩)]) (k:Int) nd.v _ _ _ _ _ W ?_
  refine boxNd rfl fun bb w3 hbb hs3 h3 e3 hS3=>⟨rfl,⟨e3.old _ (by omega) id,e3.old _ (by omega) id⟩,fun w12 hS hIt hL'=>?_⟩
  have zS:=hS.size
  have e12:Ext w w12:=(hX.trans e3).stbE hS (by omega)
  have r1:=hS.keep _ _ (e3.at q1) rfl
  have r3:=hS.keep _ _ (e3.at q3) rfl
  have r5:=hS.keep _ _ (e3.at q5) rfl
  have rb:=hS.keep _ _ h3 rfl
  have hIB12:=(hIB.stb (hS3 w10.heap.size (by omega))).stb hS
  have hItW:Its W w12:=(Its.ext e3).trans hIt
  have ed:=extDrew w12
  have ed':Ext w12 w12.drew:=ed
  have E12:Ext w w12.drew:=e12.trans ed
  obtain⟨pa,oa,hpa,hca⟩:=(hH.ext E12).at ga
  refine⟨_,boxAt (cs:=nC nd.v) rb 0 ed,t,by rw[cell_of (ed'.at r1)];rfl,(i:Int),by rw[cell_of (ed'.at r3)];rfl,pa,oa,hpa,⟨by omega,by omega⟩,n.v.1,by rw[Int.toNat_natCast];exact hca 0 _ rfl,IfB.intro (fun hq=>⟨(i:Int),by rw[cell_of (ed'.at r3)];rfl,by decide,fun b26 w27 a27=>?_⟩) fun hq=>?_⟩
  ·have hq:nd.v.1=n.v.1:=by simpa using hq
   have p27:=a27.here;have z27:=a27.size
   have zd:w12.drew.heap.size=w12.heap.size:=rfl
   have e27:Ext w12 w27:=ed'.trans (a27.ch _)
   refine⟨rfl,store_one (e27.at r5) (by simp) rfl fun w28 u28=>⟨⟨?_,?_⟩,rfl,⟨some ⟨b26,0,none⟩,1,1⟩,[((k:Int),(i:Int),1)],⟨n,ga,.inr ⟨k,nd,hki,hnd,hq,rfl,fun j m h1 h2 h3=>hno j m (by omega) h2 h3⟩⟩,?_,u28.new,fun j hj=>?_,(e12.trans e27).chN u28.ch fun j e=>by omega⟩⟩
   ·exact(u28.old _ (by omega)).trans (e27.old _ (by omega) id)
   ·exact(u28.old _ (by omega)).trans (e27.old _ (by omega) id)
   ·exact(OwS.new (sz:=3) (n:=1) (cs:=aC ((k:Int),(i:Int),1)) a27 rfl).ch u28.ch fun j hj e=>by
     have hj:j=b26:=by simpa [blk] using hj
     omega
   ·have hj:j=b26:=by simpa [blk] using hj
    omega
  ·have hq:¬nd.v.1=n.v.1:=by simpa using hq
   refine⟨⟨rfl,rfl⟩,⟨by simp;omega,⟨⟨_,ed'.at hIB12.box.choose_spec⟩,hIB12.rd.ext ed⟩,fun j m h1 h2 h3=>?_,⟨ed'.at r1,ed'.at r3⟩,ed'.at r5,E12⟩,hItW.trans (Its.ext ed)⟩
   rw[List.length_append,List.length_singleton] at h1
   rcases Nat.lt_or_ge k j with h'|h'
   ·exact hno j m (by omega) h2 h3
   ·have:j=k:=by omega
    subst this
    rw[hnd] at h3;cases h3;exact hq
 ·rintro xs W hfin ⟨h1,h2,hno,⟨q1,q3⟩,q5,hX⟩ hD
  have hxl:xs.length=i:=by rw[hfin,hvl]
  refine⟨rfl,store_one q5 (by simp) rfl fun w15 u15=>?_⟩
  refine marks_one (u15.at hD (by omega)) fun w16 u16=>?_
  exact⟨⟨none,0,0⟩,by rw[cell_of (u16.at u15.new (by omega))];rfl,⟨none,0,0⟩,[],rfl,⟨n,ga,.inl ⟨rfl,fun k m h1 h2=>hno k m (by omega) h1 h2⟩⟩,.nil _ _,(hX.chN u15.ch fun j e=>by omega).chN u16.ch fun j e=>by omega,by simp[blk]⟩
 ·rintro c pre W ⟨rfl,t',xs,h2,h3,h4,h5,h6⟩ hD
  refine marks_one hD fun w20 u20=>⟨t',by rw[cell_of (u20.at h4 (by omega))];rfl,t',xs,rfl,h2,h3.ch u20.ch fun j hj e=>?_,h6.chN u20.ch fun j e=>by omega,fun j hj=>by have:=h5 j hj;omega⟩
  have:=h5 j hj;omega
theorem eqArc(x y:ArcD):EqAt Tryz.prog 44 (.agg (aC x).toArray) (.agg (aC y).toArray) (x == y):=by
 have h:=eqAt_struct tbOk (d:=2) (by decide) (t:=44) (xs:=#[.int .i64 x.1,.int .i64 x.2.1,.int .i64 x.2.2]) (ys:=#[.int .i64 y.1,.int .i64 y.2.1,.int .i64 y.2.2]) (b:=(x.1 == y.1)&&((x.2.1 == y.2.1)&&((x.2.2 == y.2.2)&&true))) (by kernel_rfl) (by kernel_rfl)
 have e:(x == y)=((x.1 == y.1)&&((x.2.1 == y.2.1)&&((x.2.2 == y.2.2)&&true))):=by rw[Bool.and_true];rfl
 rw[e];exact h
section
variable {α:Type} [DecidableEq α]
def cpt1:α->List α->List α
 | _,[]=>[]
 | p,y::l=>if y=p then cpt1 y l else y::cpt1 y l
def cptL:List α->List α
 | []=>[]
 | x::l=>x::cpt1 x l
theorem cpt1_mem:∀ {l:List α}{p x:α},x∈p::cpt1 p l↔x∈p::l
 | [],p,x=>Iff.rfl
 | y::l,p,x=>by
  unfold cpt1
  have ih:=cpt1_mem (l:=l) (p:=y) (x:=x)
  simp only[List.mem_cons] at ih
  by_cases h:y=p
  ·rw[if_pos h]
   subst h
   simp only[List.mem_cons,ih]
   constructor
   ·rintro(h|h)<;>simp[h]
   ·rintro(h|h|h)<;>simp[h]
  ·rw[if_neg h]
   simp only[List.mem_cons,ih]
theorem cptL_mem{l:List α}{x:α}:x∈cptL l↔x∈l:=by
 cases l with
 | nil=>rfl
 | cons y l=>exact cpt1_mem
theorem cpt1_sorted{key:α->Int}:∀ {l:List α}{p:α},(∀x y,x∈p::l->y∈p::l->key x=key y->x=y)->(p::l).Pairwise (fun x y=>key x<=key y)->(p::cpt1 p l).Pairwise (fun x y=>key x<key y)
 | [],p,_,_=>by simp[cpt1]
 | y::l,p,hinj,h=>by
  obtain⟨h1,h2⟩:=List.pairwise_cons.1 h
  unfold cpt1
  have ih:=cpt1_sorted (key:=key) (fun a b ha hb=>hinj a b (List.mem_cons_of_mem _ ha) (List.mem_cons_of_mem _ hb)) h2
  by_cases he:y=p
  ·rw[if_pos he];subst he;exact ih
  ·rw[if_neg he]
   refine List.pairwise_cons.2 ⟨fun z hz=>?_,ih⟩
   have hpy:=h1 y (by simp)
   have hne:key p≠key y:=fun hk=>he (hinj p y (by simp) (by simp) hk).symm
   have hyz:=cpt1_mem.1 hz
   rcases List.mem_cons.1 hyz with rfl|hz'
   ·omega
   ·have:=(List.pairwise_cons.1 h2).1 z hz';omega
theorem cptL_sorted{key:α->Int}{l:List α}(hinj:∀x y,x∈l->y∈l->key x=key y->x=y)(h:l.Pairwise (fun x y=>key x<=key y)):(cptL l).Pairwise (fun x y=>key x<key y):=by
 cases l with
 | nil=>exact .nil
 | cons x l=>exact cpt1_sorted hinj h
theorem cpt1_len:∀(l:List α)(p:α),(cpt1 p l).length<=l.length
 | [],_=>Nat.le_refl _
 | y::l,p=>by
  unfold cpt1
  have:=cpt1_len l y
  split
  ·rw[List.length_cons];omega
  ·rw[List.length_cons,List.length_cons];omega
theorem cptL_len(l:List α):(cptL l).length<=l.length:=by
 cases l with
 | nil=>exact Nat.le_refl _
 | cons x l=>have:=cpt1_len l x;simp only[cptL,List.length_cons];omega
theorem cpt1_append:∀(l:List α)(p y:α),cpt1 p (l++[y])=cpt1 p l++if (p::l).getLast?=some y then [] else [y]
 | [],p,y=>by
  simp only[List.nil_append,cpt1,List.getLast?_singleton,Option.some.injEq]
  by_cases h:y=p
  ·rw[if_pos h,if_pos h.symm]
  ·rw[if_neg h,if_neg fun e=>h e.symm]
 | x::l,p,y=>by
  rw[List.cons_append]
  unfold cpt1
  rw[cpt1_append l x y,List.getLast?_cons_cons]
  split<;>rfl
theorem cptL_append{l:List α}{y:α}:cptL (l++[y])=cptL l++if l.getLast?=some y then [] else [y]:=by
 cases l with
 | nil=>rfl
 | cons x l=>
  show x::cpt1 x (l++[y])=(x::cpt1 x l)++_
  rw[cpt1_append];rfl
end
theorem c90{w:World}{t:Sl}{xs:List ArcD}(ho:OwS w t 3 (xs.flatMap aC))(hl:xs.length<=1000000):Cw 90 #[slV t] w fun v w'=>∃t',v=slV t'/\OwS w' t' 3 ((cptL xs).flatMap aC)/\t'.p=t.p/\Ch (fun i=>i∈blk t) w w':=by
 have hn:=owsN aC_len (by omega) ho
 have hcap:=ho.cap
 refine F90_ok t w _ (IfB.dec (fun h2=>?_) fun h2=>?_)
 ·have:cptL xs=xs:=by
   match xs,hn with
   | [],_=>rfl
   | [x],_=>rfl
   | x::y::l,hn=>simp at hn;omega
  exact⟨t,rfl,by rw[this];exact ho,rfl,Ch.refl _ _⟩
 ·have hx2:2<=xs.length:=by omega
  obtain⟨b,hp⟩:=ho.ptr (by omega)
  have hbk:blk t=[b]:=by simp[blk,hp]
  have last_take:∀ {m:Nat}{x:ArcD},xs[m]? =some x->(xs.take (m+1)).getLast?=some x:=fun h=>by rw[take_succ_get h,List.getLast?_append];rfl
  have step:∀ {m:Nat}{x y:ArcD},xs[m]? =some x->xs[m+1]? =some y->cptL (xs.take (m+2))=cptL (xs.take (m+1))++if x=y then [] else [y]:=fun hx hy=>by
   rw[take_succ_get hy,cptL_append,last_take hx]
   simp
  refine⟨fun n x W=>∃k:Nat,x=(k:Int)/\1<=k/\n+k=xs.length/\cptL (xs.take k)=xs.take k/\Ext w W,⟨xs.length-1,1,rfl,by omega,by omega,?_,Ch.refl _ _⟩,?_⟩
  ·match xs,hx2 with
   | x::y::l,_=>rfl
  ·rintro n _ W g ⟨k,rfl,hk1,hnk,hcp,eW⟩
   unfold F90j1
   refine IfB.dec (fun hlt=>?_) fun hge=>?_
   ·have hk:k<xs.length:=by omega
    obtain⟨m,rfl⟩:∃m,k=m+1:=⟨k-1,by omega⟩
    have hy:xs[m+1]? =some xs[m+1]:=List.getElem?_eq_getElem hk
    have hx:xs[m]? =some (xs[m]'(by omega)):=List.getElem?_eq_getElem _
    generalize xs[m+1]=y at hy
    generalize xs[m]'(by omega)=x at hx
    have hst:=step hx hy
    have ed:=extDrew W
    have eW':=eW.trans ed
    obtain⟨a,ha,hcy⟩:=(ho.ext eW').elem (i:=m+1) (by omega) (flatGet aC_len hy)
    obtain⟨a',ha',hcx⟩:=(ho.ext eW').elem (i:=m) (by omega) (flatGet aC_len hx)
    rw[hp] at ha ha';cases ha;cases ha'
    have hm1:IntKind.i64.wrap (((m+1:Nat):Int)-(1:Int))=(m:Int):=by rw[wrap_of (by omega) (by omega)];omega
    rw[hm1]
    refine⟨b,0,hp,⟨by omega,hlt⟩,y,by rw[Int.toNat_natCast,Nat.zero_add];exact hcy,b,0,hp,⟨by omega,by omega⟩,x,by rw[Int.toNat_natCast,Nat.zero_add];exact hcx,_,eqArc y x,IfB.intro (fun he=>?_) fun he=>?_⟩
    ·have he:y=x:=by simpa using he
     subst he
     rw[if_pos rfl,List.append_nil,hcp] at hst
     refine⟨⟨by omega,by omega⟩,?_⟩
     refine⟨fun n' x' W'=>∃(j:Nat)(gs:List ArcD),1<=j/\n'+(m+1+j)=xs.length/\(cptL (xs.take (m+1+j))).length+gs.length=m+j/\x'=(((cptL (xs.take (m+1+j))).length:Int),(j:Int))/\OwS W' t 3 ((cptL (xs.take (m+1+j))++gs++xs.drop (m+j)).flatMap aC)/\Ch (fun i=>i∈blk t) w W',
      ⟨xs.length-(m+2),1,[],by omega,by omega,?_,?_,?_,eW'.mono fun _ _ h=>h.elim⟩,?_⟩
     ·rw[hst,List.length_take];simp;omega
     ·rw[hst,List.length_take,Nat.min_eq_left (by omega)];rfl
     ·rw[hst,List.append_nil,List.take_append_drop];exact ho.ext eW'
     ·rintro n' _ W' g' ⟨j,gs,hj1,hnj,hlen,rfl,hO,hC⟩
      generalize hkd:cptL (xs.take (m+1+j))=kd at hlen hO
      have hsa:slAddr t.p t.c (((m+1:Nat):Int)).toNat 3=some ⟨b,(m+1)*3,none⟩:=by
       rw[Int.toNat_natCast,hp,slAddr_some,if_neg (by omega)];simp
      unfold F90j2
      refine IfB.dec (fun hlt'=>?_) fun hge'=>?_
      ·rw[Int.toNat_natCast] at hlt'
       have hlt'':m+1+j<xs.length:=by dsimp only at hlt';omega
       have hz:xs[m+1+j]? =some xs[m+1+j]:=List.getElem?_eq_getElem hlt''
       have hv:xs[m+j]? =some (xs[m+j]'(by omega)):=List.getElem?_eq_getElem _
       have hd1:xs.drop (m+j)=xs[m+j]'(by omega)::xs.drop (m+1+j):=by rw[show m+1+j=m+j+1 by omega];exact List.drop_eq_getElem_cons _
       have hd2:xs.drop (m+1+j)=xs[m+1+j]::xs.drop (m+1+(j+1)):=by rw[show m+1+(j+1)=m+1+j+1 by omega];exact List.drop_eq_getElem_cons _
       generalize xs[m+1+j]=z at hz hd2
       generalize xs[m+j]'(by omega)=v at hv hd1
       have hst2:cptL (xs.take (m+1+(j+1)))=kd++if v=z then [] else [z]:=by
        have:=step (m:=m+j) hv (by rw[show m+j+1=m+1+j by omega];exact hz)
        rw[show m+j+2=m+1+(j+1) by omega,show m+j+1=m+1+j by omega,hkd] at this
        exact this
       have hLz:(kd++gs++xs.drop (m+j))[m+1+j]? =some z:=by
        rw[List.getElem?_append_right (by rw[List.length_append];omega),List.length_append,show m+1+j-(kd.length+gs.length)=1 by omega,hd1,hd2];rfl
       have hLv:(kd++gs++xs.drop (m+j))[m+j]? =some v:=by
        rw[List.getElem?_append_right (by rw[List.length_append];omega),List.length_append,show m+j-(kd.length+gs.length)=0 by omega,hd1];rfl
       have ed':=extDrew W'
       have hOd:=hO.ext ed'
       obtain⟨a,ha,hcz⟩:=hOd.elem (i:=m+1+j) (by omega) (flatGet aC_len hLz)
       obtain⟨a',ha',hcv⟩:=hOd.elem (i:=m+j) (by omega) (flatGet aC_len hLv)
       rw[hp] at ha ha';cases ha;cases ha'
       have hj1':IntKind.i64.wrap ((j:Int)-(1:Int))=((j-1:Nat):Int):=wm1 (by omega) (by omega)
       have hL:(kd++gs++xs.drop (m+j)).length=xs.length:=by rw[List.length_append,List.length_append,List.length_drop];omega
       dsimp only
       rw[hj1',hsa]
       simp only[Int.toNat_natCast]
       have hzc:CellsAt W'.drew b ((m+1)*3+j*3) (aC z):=by rw[show (m+1)*3+j*3=(m+1+j)*3 by omega];exact hcz
       have hvc:CellsAt W'.drew b ((m+1)*3+(j-1)*3) (aC v):=by rw[show (m+1)*3+(j-1)*3=(m+j)*3 by omega];exact hcv
       refine⟨b,(m+1)*3,rfl,⟨by omega,by omega⟩,z,hzc,b,(m+1)*3,rfl,⟨by omega,by omega⟩,v,hvc,_,eqArc z v,IfB.intro (fun hne=>?_) fun heq=>?_⟩
       ·have hne:z≠v:=by simpa using hne
        rw[if_neg (fun h=>hne h.symm)] at hst2
        refine⟨b,(m+1)*3,rfl,⟨by omega,by omega⟩,z,hzc,b,0,hp,⟨by omega,by show (kd.length:Int)<(t.n:Int);omega⟩,rfl,?_⟩
        rw[Nat.zero_add]
        refine hOd.store (vs:=aC z) hp (by rw[aC_len];omega) (aC_one z) fun w32 hO32 hC32=>⟨(by trivial),n'-1,by omega,j+1,(gs++[v]).tail,by omega,by omega,?_,?_,?_,(hC.then ed' fun _ _ h=>h.elim).then hC32 fun i _ e=>by rw[hbk,e];simp⟩
        ·rw[hst2];simp;omega
        ·rw[hst2,wp1 (by omega),wp1 (by omega)];simp
        ·rw[aC_len,flatSet aC_len (by omega)] at hO32
         rw[hst2]
         have:(kd++gs++xs.drop (m+j)).set kd.length z=kd++[z]++(gs++[v]).tail++xs.drop (m+(j+1)):=by
          rw[hd1,show m+(j+1)=m+1+j by omega]
          cases gs with
          | nil=>simp
          | cons g0 gs=>simp
         rw[<-this];exact hO32
       ·have heq:z=v:=by simpa using heq
        subst heq
        rw[if_pos rfl,List.append_nil] at hst2
        refine⟨(by trivial),n'-1,by omega,j+1,gs++[z],by omega,by omega,by rw[hst2];simp;omega,?_,?_,hC.then ed' fun _ _ h=>h.elim⟩
        ·rw[hst2,wp1 (by omega)]
        ·rw[hst2]
         rw[hd1] at hOd
         rw[show m+(j+1)=m+1+j by omega]
         simpa using hOd
      ·rw[Int.toNat_natCast] at hge'
       dsimp only at hge'
       have hjn:m+1+j=xs.length:=by omega
       rw[hjn,List.take_length] at hkd
       have hkl:kd.length<t.n:=by omega
       refine⟨⟨by dsimp only;omega,by show (kd.length:Int)<=(t.n:Int);omega⟩,?_⟩
       dsimp only
       rw[Int.toNat_natCast,hp,slAddr_some]
       have hcut:=hO.cut (k:=kd.length) (by omega)
       rw[flatTake aC_len,List.append_assoc,List.take_append_of_le_length (Nat.le_refl _),List.take_length] at hcut
       dsimp only
       rw[if_neg (by omega),Nat.zero_add]
       refine hcut.storeTail hp (Nat.le_refl _) (by rw[zc_len];show kd.length*3+(t.n-kd.length)*3<=t.c*3;omega) (zc_one (by intro x hx;simp at hx;rcases hx with rfl|rfl|rfl<;>rfl) _) fun w25 hO25 hC25=>⟨⟨by omega,by omega⟩,?_⟩
       rw[<-hp,slAddr_zero]
       exact⟨⟨t.p,kd.length,t.c⟩,rfl,by rw[hkd];exact hO25,rfl,hC.then hC25 fun i _ e=>by rw[hbk,e];simp⟩
    ·have hne:x≠y:=by intro h;subst h;simp at he
     rw[if_neg hne] at hst
     refine⟨rfl,n-1,by omega,m+2,wp1 (by omega),by omega,by omega,?_,eW'⟩
     rw[hst,hcp,take_succ_get hy]
   ·have:k=xs.length:=by omega
    subst this
    rw[List.take_length] at hcp
    exact⟨t,rfl,by rw[hcp];exact ho.ext eW,rfl,eW.mono fun _ _ h=>h.elim⟩
end Go.Proofs.YtlpgdngcgbeegaaGreat.Gx
