/- gimmallaw29.SerialClosed returns true for all arguments, and leaves what was there as it was. No condition beyond the statement. -/
/- Merged by pack.py: SrAJ, RsgB, SrPI, GxSGP, SrPJ, PrM, GxNU, SerA, GxLP, IntP, SerB, GxNV, SerC, SerD, ArcC, RsgC, RsgD, RsgE, RsgF, RsgG, FairP, FairQ, SerQ, AlvC, OpnP, GxOU, OpnA, GxOM, AlvD, RsgH, GxOL, RefE, RefF, GxON, RefG, RefH, IntE, GxOP, RsgK, SerR, SeClos. -/
import Derived.Test.YtlpgdngcgbeegaaGreatSc1
import Derived.Test.YtlpgdngcgbeegaaGreatSc2
import Derived.Test.YtlpgdngcgbeegaaGreatSc3
import Derived.Test.YtlpgdngcgbeegaaGreatSc4
import Derived.Test.YtlpgdngcgbeegaaGreatSc5
import Derived.Test.YtlpgdngcgbeegaaGreatRows
import Derived.WalkKit
import Derived.ProofKit
import Derived.OpenShut
import Derived.ShutString
import Derived.Below
import Derived.Carry
namespace Go.Proofs.YtlpgdngcgbeegaaGreat.Gx.SfA
open Go Go.Proofs.YtlpgdngcgbeegaaGreat.Gx
set_option linter.unusedVariables false
abbrev sv(x:El):List Value:=[.int .i64 x.1,.int .i64 x.2.1,.int .i64 x.2.2]
theorem ol: @SfG.SrtL El ins:= @SfG.SrtL.mk El ins (fun _=>rfl) (fun x=>by intro v hv;change v∈sv x at hv;simp at hv;rcases hv with rfl|rfl|rfl<;>rfl) (by decide)
def CmpP(cl:Nat×Array Value):Prop:=∀(x y:El)(W:World),Q x->Q y->Cw cl.1 { toList:=Value.agg (sv x).toArray::Value.agg (sv y).toArray::cl.2.toList } W fun v w'=>∃n:Int,v=iv n/\(n<0↔key x<key y)/\Ext W w'
theorem c88{cl:Nat×Array Value}(hcp:CmpP cl){w:World}{s:Sl}{xs:List El}(h:OwS w s 3 (xs.flatMap sv))(hl:xs.length<=1000000)(hq:∀x∈xs,Q x):
  Cw 88 #[slV s,.func (.func cl.1) #[] cl.2] w fun v w'=>v=.tuple #[]/\∃ys:List El,ys.Perm xs/\ys.Pairwise (fun x y=>key x<=key y)/\OwS w' s 3 (ys.flatMap sv)/\Ch (fun i=>i∈blk s) w w':=
 @SfG.q0 El ins ok ol cl (hcp) w s xs h hl hq
end Go.Proofs.YtlpgdngcgbeegaaGreat.Gx.SfA
namespace Go.Proofs.YtlpgdngcgbeegaaGreat.Gx
open Go
set_option linter.unusedSimpArgs false
set_option linter.unusedVariables false
abbrev ArcD:=Int×Int×Int
abbrev aC(x:ArcD):List Value:=[.int .i64 x.1,.int .i64 x.2.1,.int .i64 x.2.2]
theorem aC_len(x:ArcD):(aC x).length=3:=rfl
theorem aC_one(x:ArcD):One (aC x):=by intro v hv;simp at hv;rcases hv with rfl|rfl|rfl<;>rfl
theorem cmpZ(x y:Int)(w:World):Cw 158 #[.int .i64 x,.int .i64 y] w fun v w'=>∃n:Int,v=iv n/\(n<0↔x<y)/\(n=0↔x=y)/\w=w':=by
 refine F158_ok _ _ _ _ ((c214 x w).use ?_)
 rintro _ _ ⟨rfl,rfl⟩
 refine⟨false,rfl,(c214 y w).use ?_⟩
 rintro _ _ ⟨rfl,rfl⟩
 refine⟨false,rfl,IfB.no rfl (IfB.no rfl (IfB.dec (fun h=>⟨_,rfl,by simp;omega,by simp;omega,rfl⟩) fun h=>IfB.dec (fun h'=>⟨_,rfl,by simp;omega,by simp;omega,rfl⟩) fun h'=>⟨_,rfl,by simp;omega,by simp;omega,rfl⟩))⟩
def orI:List Int->Int
 | []=>0
 | x::l=>if x≠0 then x else orI l
theorem c157{w:World}{t:Sl}{xs:List Int}(h:Rd w t 1 (xs.map iv))(hl:xs.length<=1000000):Cw 157 #[slV t] w fun v w'=>v=iv (orI xs)/\w=w':=by
 have hn:=rdI h
 refine F157_ok t w _ ⟨fun m z W=>∃k:Nat,k<=xs.length/\m+k=xs.length/\z=(k:Int)/\orI xs=orI (xs.drop k)/\w=W,⟨_,0,Nat.zero_le _,rfl,rfl,rfl,rfl⟩,?_⟩
 rintro m _ _ g ⟨k,hk,hm,rfl,ho,rfl⟩
 unfold F157j1
 refine IfB.dec (fun hlt=>?_) fun hge=>?_
 ·have hk':k<xs.length:=by omega
  have hx:xs[k]? =some xs[k]:=List.getElem?_eq_getElem hk'
  have hd:=List.drop_eq_getElem_cons hk'
  generalize xs[k]=y at hx hd
  obtain⟨b,o,hp,hc⟩:=h.elem1 (i:=k) (v:=iv y) (by rw[List.getElem?_map,hx];rfl)
  have ho:orI xs=if y≠0 then y else orI (xs.drop (k+1)):=by rw[ho,hd,orI]
  refine⟨b,o,hp,⟨by omega,by omega⟩,y,by rw[Int.toNat_natCast];exact hc,IfB.intro (fun h1=>⟨?_,rfl⟩) fun h1=>⟨rfl,m-1,by omega,k+1,hk',by omega,by rw[wrap_of (by omega) (by omega)];rfl,?_,rfl⟩⟩
  ·have h1:y≠0:=by simpa using h1
   rw[if_pos h1] at ho
   rw[ho]
  ·have h1:¬y≠0:=by simpa using h1
   rw[if_neg h1] at ho
   exact ho
 ·have hk':k=xs.length:=by omega
  subst hk'
  rw[List.drop_length] at ho
  exact⟨by rw[ho];rfl,rfl⟩
theorem c89:SfA.CmpP (89,#[]):=by
 intro x y w hx hy
 refine F89_ok x y w _ fun b1 w2 a2 b3 w4 a4=>?_
 have e4:Ext w w4:=(a2.ch _).trans (a4.ch _)
 have ed:=extDrew w4
 have q1:=fun(o:Nat)=>boxAt (cs:=aC x) (a4.at a2.new) o ed
 have q3:=fun(o:Nat)=>boxAt (cs:=aC y) a4.new o ed
 refine⟨_,q1 0,_,q3 0,_,q1 1,_,q3 1,_,q1 2,_,q3 2,(cmpZ x.1 y.1 _).use ?_⟩
 rintro _ _ ⟨n1,rfl,h1,z1,rfl⟩
 refine⟨n1,rfl,q3 2,q1 2,q3 1,q1 1,(cmpZ x.2.1 y.2.1 _).use ?_⟩
 rintro _ _ ⟨n2,rfl,h2,z2,rfl⟩
 refine⟨n2,rfl,q3 2,q1 2,(cmpZ x.2.2 y.2.2 _).use ?_⟩
 rintro _ _ ⟨n3,rfl,h3,z3,rfl⟩
 refine⟨n3,rfl,by decide,fun b20 w21 a21=>?_⟩
 refine(c157 (xs:=[n1,n2,n3]) (OwS.new (sz:=1) (n:=3) (cs:=[iv n1,iv n2,iv n3]) a21 rfl).rd (by simp)).use ?_
 rintro _ _ ⟨rfl,rfl⟩
 refine⟨_,rfl,_,rfl,?_,(e4.trans ed).trans (a21.ch _)⟩
 obtain⟨k1,k2,k3⟩:=hx
 obtain⟨g1,g2,g3⟩:=hy
 unfold SfA.key
 simp only[orI]
 split
 ·omega
 ·split
  ·omega
  ·split<;>omega
def BtwP(x:CatD)(hs:List Nd)(a b:Nat)(xs:List ArcD):Prop:=∃na nb l f,hs[a]? =some na/\hs[b]? =some nb/\LstP x hs a nb.v.2.1 l/\FstP x hs b na.v.2.1 f/\xs=[((a:Int),(b:Int),2),((l:Int),(b:Int),3),((a:Int),(f:Int),4)]
theorem c87{w:World}{v:CatV}{x:CatD}{t:Sl}{hs:List Nd}(h:CatM w v x)(hH:Hst w t hs)(hM:HMay x hs){a b:Nat}(ha:a<hs.length)(hb:b<hs.length):
  Cw 87 #[cxV v,slV t,iv a,iv b] w fun r w'=>∃t' xs,r=slV t'/\BtwP x hs a b xs/\OwS w' t' 3 (xs.flatMap aC)/\Ext w w'/\∀j∈blk t',w.heap.size<=j:=by
 have htn:=hH.n
 have ga:hs[a]? =some hs[a]:=List.getElem?_eq_getElem ha
 have gb:hs[b]? =some hs[b]:=List.getElem?_eq_getElem hb
 generalize hs[a]=na at ga
 generalize hs[b]=nb at gb
 have oa:=hM.ok a na ga
 have ob:=hM.ok b nb gb
 refine F87_ok v t (a:Int) (b:Int) w _ fun b1 w2 a2=>?_
 have e2:Ext w w2:=a2.ch _
 have ed:=extDrew w2
 have E2:=e2.trans ed
 obtain⟨p1,o1,hp1,hc1⟩:=(hH.ext E2).at gb
 refine⟨v,cxN h a2.new ed,p1,o1,hp1,⟨by omega,by omega⟩,nb.v.2.1,by rw[Int.toNat_natCast];exact hc1 1 _ rfl,(c154 (h.ext E2) (hH.ext E2) hM ha ⟨ob.c0,ob.cn⟩).use ?_⟩
 rintro _ w10 ⟨f1,l1,rfl,_,hl1,e10⟩
 have ed10:=extDrew w10
 have x10:Ext w2 w10.drew:=(ed.trans e10).trans ed10
 have E10:=e2.trans x10
 obtain⟨p2,o2,hp2,hc2⟩:=(hH.ext E10).at ga
 refine⟨((f1:Int),(l1:Int)),rfl,v,cxN h a2.new x10,p2,o2,hp2,⟨by omega,by omega⟩,na.v.2.1,by rw[Int.toNat_natCast];exact hc2 1 _ rfl,(c154 (h.ext E10) (hH.ext E10) hM hb ⟨oa.c0,oa.cn⟩).use ?_⟩
 rintro _ w19 ⟨f2,l2,rfl,hf2,_,e19⟩
 refine⟨((f2:Int),(l2:Int)),rfl,by decide,fun b21 w22 a22=>⟨⟨some ⟨b21,0,none⟩,3,3⟩,[((a:Int),(b:Int),2),((l1:Int),(b:Int),3),((a:Int),(f2:Int),4)],rfl,⟨na,nb,l1,f2,ga,gb,hl1,hf2,rfl⟩,OwS.new (sz:=3) (n:=3) a22 rfl,(E10.trans e19).trans (a22.ch _),fun j hj=>?_⟩⟩
 have hj:j=b21:=by simpa [blk] using hj
 have:=a22.here;have:=(E10.trans e19).size
 omega
def OwnA(hs:List Nd)(i:Nat)(xs:List ArcD):Prop:=∃n,hs[i]? =some n/\((xs=[]/\∀k m,k<i->hs[k]? =some m->m.v.1≠n.v.1)\/∃k m,k<i/\hs[k]? =some m/\m.v.1=n.v.1/\xs=[((k:Int),(i:Int),1)]/\∀j m,k<j->j<i->hs[j]? =some m->m.v.1≠n.v.1)
theorem c86{w:World}{t:Sl}{hs:List Nd}(hH:Hst w t hs){i:Nat}(hi:i<hs.length):
  Cw 86 #[slV t,iv i] w fun r w'=>∃t' xs,r=slV t'/\OwnA hs i xs/\OwS w' t' 3 (xs.flatMap aC)/\Ext w w'/\∀j∈blk t',w.heap.size<=j:=by
 have htn:=hH.n
 have hlen:=hH.len
 have hcap:=hH.cap
 have ga:hs[i]? =some hs[i]:=List.getElem?_eq_getElem hi
 generalize hs[i]=n at ga
 refine F86_ok t (i:Int) w _ fun b1 w2 a2 b3 w4 a4 b5 w6 a6=>?_
 obtain⟨T1,a2⟩:∃T,IsAlloc w (.cells #[slV t] T (0,0)) b1 w2:=⟨_,a2⟩
 obtain⟨T5,a6⟩:∃T,IsAlloc w4 (.cells #[slV ⟨none,0,0⟩] T (0,0)) b5 w6:=⟨_,a6⟩
 have z2:=a2.size;have z4:=a4.size;have z6:=a6.size
 have p2:=a2.here;have p4:=a4.here;have p6:=a6.here
 have e6:Ext w w6:=((a2.ch _).trans (a4.ch _)).trans (a6.ch _)
 have k1:=a6.at (a4.at a2.new)
 have k3:=a6.at a4.new
 have k5:=a6.new
 refine⟨t,by rw[cell_of k1];rfl,(i:Int),by rw[cell_of k3];rfl,⟨by omega,by omega⟩,?_⟩
 rw[Int.toNat_natCast,slAddr_zero]
 refine(c153 ⟨t.p,i,t.c⟩ w6).use ?_
 rintro _ w10 ⟨pb,T,rfl,a10⟩
 have p10:=a10.here;have z10:=a10.size
 have x10:Ext w6 w10:=a10.ch _
 have e10:Ext w w10:=e6.trans x10
 refine⟨(203,#[.pointer (some ⟨pb,0,none⟩)]),rfl,fun g=>?_⟩
 obtain⟨vs,hvs⟩:∃vs,vs=(hs.take i).map (·.v):=⟨_,rfl⟩
 have hvl:vs.length=i:=by rw[hvs,List.length_map,List.length_take];omega
 have hvf:(hs.take i).flatMap nL=vs.flatMap nC:=by rw[hvs,List.flatMap_map]
 have hcut:=(hH.ext e10).cut (k:=i) (by omega)
 let Bx:World->Prop:=fun W=>W.heap[b1]? =some (.cells #[slV t] T1 (0,0))/\W.heap[b3]? =some (.cells #[iv i] 3 (0,0))
 let nil5:World->Prop:=fun W=>W.heap[b5]? =some (.cells #[slV ⟨none,0,0⟩] T5 (0,0))
 refine range_none tbOk mixed (gf:=203) (lb:=#[.pointer (some ⟨pb,0,none⟩)]) rfl (itB pb ⟨t.p,i,t.c⟩ vs (by omega)) R86_0ok1 R86_0ok2 R86_0okp (fun _=>rfl)
  (fun pre W=>pre.length<=i/\InvB pb ⟨t.p,i,t.c⟩ vs W/\(∀k m,i-pre.length<=k->k<i->hs[k]? =some m->m.v.1≠n.v.1)/\Bx W/\nil5 W/\Ext w W)
  (fun c pre W=>c=.ret/\∃t' xs,OwnA hs i xs/\OwS W t' 3 (xs.flatMap aC)/\W.heap[b5]? =some (.cells #[slV t'] T5 (0,0))/\(∀j∈blk t',w10.heap.size+2<=j)/\Ext w W) ?_ ?_ (fun _ _ h=>h.2.1) (fun h=>by cases h) ?_ ?_ ?_ ?_
 ·rintro pre A B ⟨h1,h2,h3,⟨q1,q3⟩,q5,h6⟩ hS
  exact⟨h1,h2.stb hS,h3,⟨hS.keep _ _ q1 rfl,hS.keep _ _ q3 rfl⟩,hS.keep _ _ q5 rfl,h6.stbE hS (by omega)⟩
 ·rintro c pre A B ⟨h1,t',xs,h2,h3,h4,h5,h6⟩ hS
  exact⟨h1,t',xs,h2,h3.stb hS,hS.keep _ _ h4 rfl,h5,h6.stbE hS (by omega)⟩
 ·exact⟨Nat.zero_le _,⟨⟨T,a10.new⟩,by rw[<-hvf];exact hcut.rd⟩,fun k m h1 h2=>by simp at h1;omega,⟨x10.at k1,x10.at k3⟩,x10.at k5,e10⟩
 ·rintro pre ⟨xi,xv⟩ W ⟨hpl,hIB,hno,⟨q1,q3⟩,q5,hX⟩ ⟨k,hk,hxi,hxv⟩ hW
  dsimp only at hxi hxv
  subst hxi
  have hki:k<i:=by omega
  have hnd:hs[k]? =some hs[k]:=List.getElem?_eq_getElem (by omega)
  generalize hs[k]=nd at hnd
  have hxe:xv=nd.v:=by
   rw[hvs,List.getElem?_map,List.getElem?_take_of_lt hki,hnd] at hxv
   exact(Option.some.inj hxv).symm
  subst hxe
  refine F86b0_ok b1 b3 b5 (203,#[.pointer (some ⟨pb,0,none⟩)]) (k:Int) nd.v _ _ _ _ _ W ?_
  refine boxNd rfl fun bb w3 hbb hs3 h3 e3 hS3=>⟨rfl,⟨e3.old _ (by omega) id,e3.old _ (by omega) id⟩,fun w12 hS hIt hL'=>?_⟩
  have zS:=hS.size
  have e12:Ext w w12:=(hX.trans e3).stbE hS (by omega)
  have r1:=hS.keep _ _ (e3.at q1) rfl
  have r3:=hS.keep _ _ (e3.at q3) rfl
  have r5:=hS.keep _ _ (e3.at q5) rfl
  have rb:=hS.keep _ _ h3 rfl
  have hIB12:=(hIB.stb (hS3 w10.heap.size (by omega))).stb hS
  have hItW:Its W w12:=(Its.ext e3).trans hIt
  have ed:=extDrew w12
  have ed':Ext w12 w12.drew:=ed
  have E12:Ext w w12.drew:=e12.trans ed
  obtain⟨pa,oa,hpa,hca⟩:=(hH.ext E12).at ga
  refine⟨_,boxAt (cs:=nC nd.v) rb 0 ed,t,by rw[cell_of (ed'.at r1)];rfl,(i:Int),by rw[cell_of (ed'.at r3)];rfl,pa,oa,hpa,⟨by omega,by omega⟩,n.v.1,by rw[Int.toNat_natCast];exact hca 0 _ rfl,IfB.intro (fun hq=>⟨(i:Int),by rw[cell_of (ed'.at r3)];rfl,by decide,fun b26 w27 a27=>?_⟩) fun hq=>?_⟩
  ·have hq:nd.v.1=n.v.1:=by simpa using hq
   have p27:=a27.here;have z27:=a27.size
   have zd:w12.drew.heap.size=w12.heap.size:=rfl
   have e27:Ext w12 w27:=ed'.trans (a27.ch _)
   refine⟨rfl,store_one (e27.at r5) (by simp) rfl fun w28 u28=>⟨⟨?_,?_⟩,rfl,⟨some ⟨b26,0,none⟩,1,1⟩,[((k:Int),(i:Int),1)],⟨n,ga,.inr ⟨k,nd,hki,hnd,hq,rfl,fun j m h1 h2 h3=>hno j m (by omega) h2 h3⟩⟩,?_,u28.new,fun j hj=>?_,(e12.trans e27).chN u28.ch fun j e=>by omega⟩⟩
   ·exact(u28.old _ (by omega)).trans (e27.old _ (by omega) id)
   ·exact(u28.old _ (by omega)).trans (e27.old _ (by omega) id)
   ·exact(OwS.new (sz:=3) (n:=1) (cs:=aC ((k:Int),(i:Int),1)) a27 rfl).ch u28.ch fun j hj e=>by
     have hj:j=b26:=by simpa [blk] using hj
     omega
   ·have hj:j=b26:=by simpa [blk] using hj
    omega
  ·have hq:¬nd.v.1=n.v.1:=by simpa using hq
   refine⟨⟨rfl,rfl⟩,⟨by simp;omega,⟨⟨_,ed'.at hIB12.box.choose_spec⟩,hIB12.rd.ext ed⟩,fun j m h1 h2 h3=>?_,⟨ed'.at r1,ed'.at r3⟩,ed'.at r5,E12⟩,hItW.trans (Its.ext ed)⟩
   rw[List.length_append,List.length_singleton] at h1
   rcases Nat.lt_or_ge k j with h'|h'
   ·exact hno j m (by omega) h2 h3
   ·have:j=k:=by omega
    subst this
    rw[hnd] at h3;cases h3;exact hq
 ·rintro xs W hfin ⟨h1,h2,hno,⟨q1,q3⟩,q5,hX⟩ hD
  have hxl:xs.length=i:=by rw[hfin,hvl]
  refine⟨rfl,store_one q5 (by simp) rfl fun w15 u15=>?_⟩
  refine marks_one (u15.at hD (by omega)) fun w16 u16=>?_
  exact⟨⟨none,0,0⟩,by rw[cell_of (u16.at u15.new (by omega))];rfl,⟨none,0,0⟩,[],rfl,⟨n,ga,.inl ⟨rfl,fun k m h1 h2=>hno k m (by omega) h1 h2⟩⟩,.nil _ _,(hX.chN u15.ch fun j e=>by omega).chN u16.ch fun j e=>by omega,by simp[blk]⟩
 ·rintro c pre W ⟨rfl,t',xs,h2,h3,h4,h5,h6⟩ hD
  refine marks_one hD fun w20 u20=>⟨t',by rw[cell_of (u20.at h4 (by omega))];rfl,t',xs,rfl,h2,h3.ch u20.ch fun j hj e=>?_,h6.chN u20.ch fun j e=>by omega,fun j hj=>by have:=h5 j hj;omega⟩
  have:=h5 j hj;omega
end Go.Proofs.YtlpgdngcgbeegaaGreat.Gx
namespace Go.Proofs.YtlpgdngcgbeegaaGreat.Gx.SfP
open Go Go.Proofs.YtlpgdngcgbeegaaGreat.Gx
abbrev El:=Int×Int
def key(x:El):Int:=x.1*18446744073709551616+x.2
def Q(x:El):Prop:=(-9223372036854775808<=x.1/\x.1<=9223372036854775807)/\ -9223372036854775808<=x.2/\x.2<=9223372036854775807
@[reducible] def ins:SrtC El:=⟨fun i=>[166,216,249,250,251,252,253,254,255,256,279,280,281,303].getD i 0,fun x=>[.int .i64 x.1,.int .i64 x.2],2,(0,0),key,Q⟩
set_option linter.unusedVariables false
set_option maxRecDepth 100000
theorem k0(t0:Sl)(t1:Nat×Array Value)(w:World)(R:RV)(h: @G0 El ins t0 t1 w R):Cw 166 #[Value.slice t0.1 t0.2 t0.3,Value.func (Fn.func t1.1) #[] t1.2] w R:=
 call_of tbOk mixed en166 Tryz.func166 rfl .nil (by kernel_rfl) (Nat.le_of_ble_eq_true (by kernel_rfl)) (Eq.mp (α:= @G0 El ins t0 t1 w R) (by kernel_rfl) h)
theorem k1(t0:Sl)(t1:Int)(t2:Int)(t3:Int)(t4:Nat×Array Value)(w:World)(R:RV)(h: @G1 El ins t0 t1 t2 t3 t4 w R):Cw 216 #[Value.slice t0.1 t0.2 t0.3,Value.int IntKind.i64 t1,Value.int IntKind.i64 t2,Value.int IntKind.i64 t3,Value.func (Fn.func t4.1) #[] t4.2] w R:=
 call_of tbOk mixed en216 Tryz.func216 rfl (nd (nd (.loop [(1,oi),(2,oi),(3,oi),(10,ob),(11,ob)] (rg [1,3,10,147]) (nd (nd (nd (.join [(3,oi)] (rg [3,3,38,46]) .nil (nd (.join [(13,oi),(14,oi)] (rg [13,14,55,67]) .nil (.join [] (rg [68,80]) .nil (.node (.node (.draw (sts [0,1,2,3,4,5,6,7,8,9,10,11,12] (.ac 13 [] (sts [14,15,16] .fin) .non))) .nil) .nil))))))))))) (by kernel_rfl) (Nat.le_of_ble_eq_true (by kernel_rfl)) (Eq.mp (α:= @G1 El ins t0 t1 t2 t3 t4 w R) (by kernel_rfl) h)
theorem k2(t0:Sl)(t1:Int)(t2:Int)(t3:Nat×Array Value)(w:World)(R:RV)(h: @G2 El ins t0 t1 t2 t3 w R):Cw 249 #[Value.slice t0.1 t0.2 t0.3,Value.int IntKind.i64 t1,Value.int IntKind.i64 t2,Value.func (Fn.func t3.1) #[] t3.2] w R:=
 call_of tbOk mixed en249 Tryz.func249 rfl (nd (.loop [(8,oi)] (rg [8,9,12,52]) (nd (.node (nd (.loop [(9,oi)] (rg [9,9,18,52]) (.node (.node (.draw (sts [0,1,2,3,4,5,6,7,8,9,10,11,12,13] (.ac 14 [] (sts [15,16] .fin) .non))) .nil) (.node (.draw (sts [0,1,2,3,4,5,6,7,8,9,10,11,12,13,14] (.ac 15 [4,3,2] (.st 16 (.ac 17 [] .fin .non)) .non))) .nil)))) .nil)))) (by kernel_rfl) (Nat.le_of_ble_eq_true (by kernel_rfl)) (Eq.mp (α:= @G2 El ins t0 t1 t2 t3 w R) (by kernel_rfl) h)
theorem k3(t0:Sl)(t1:Int)(t2:Int)(t3:Nat×Array Value)(w:World)(R:RV)(h: @G3 El ins t0 t1 t2 t3 w R):Cw 250 #[Value.slice t0.1 t0.2 t0.3,Value.int IntKind.i64 t1,Value.int IntKind.i64 t2,Value.func (Fn.func t3.1) #[] t3.2] w R:=
 call_of tbOk mixed en250 Tryz.func250 rfl (nd (nd (nd (.node (nd (.loop [(11,oi)] (rg [11,11,20,29]) .nil)) (nd (.loop [(12,oi)] (rg [12,12,32,59]) (nd (.node (.node (.draw (sts [0,1,2,3,4,5,6,7,8,9,10,11,12,13,14,15,16] (.ac 17 [5,4,3,2] (.st 18 (.ac 19 [] .fin .non)) .non))) .nil) .nil)))))))) (by kernel_rfl) (Nat.le_of_ble_eq_true (by kernel_rfl)) (Eq.mp (α:= @G3 El ins t0 t1 t2 t3 w R) (by kernel_rfl) h)
theorem k4(t0:Sl)(t1:Int)(t2:Int)(t3:Nat×Array Value)(w:World)(R:RV)(h: @G4 El ins t0 t1 t2 t3 w R):Cw 251 #[Value.slice t0.1 t0.2 t0.3,Value.int IntKind.i64 t1,Value.int IntKind.i64 t2,Value.func (Fn.func t3.1) #[] t3.2] w R:=
 call_of tbOk mixed en251 Tryz.func251 rfl (nd (nd (.node (nd (nd (nd (.loop [(11,oi)] (rg [11,12,28,66]) (nd (.node (nd (.join [(12,oi)] (rg [12,12,43,48]) .nil (.draw (sts [0,1,2,3,4,5,6,7,8,9,10,11,12,13,14,15,16] (.ac 17 [5,4,3,2] (.st 18 (.ac 19 [] .fin .non)) .non))))) .nil)))))) .nil))) (by kernel_rfl) (Nat.le_of_ble_eq_true (by kernel_rfl)) (Eq.mp (α:= @G4 El ins t0 t1 t2 t3 w R) (by kernel_rfl) h)
theorem k5(t0:Sl)(t1:Int)(t2:Int)(t3:Nat×Array Value)(w:World)(R:RV)(h: @G5 El ins t0 t1 t2 t3 w R):Cw 252 #[Value.slice t0.1 t0.2 t0.3,Value.int IntKind.i64 t1,Value.int IntKind.i64 t2,Value.func (Fn.func t3.1) #[] t3.2] w R:=
 call_of tbOk mixed en252 Tryz.func252 rfl (nd (nd (nd (nd (nd (nd (.join [(13,oi)] (rg [12,14,33,54]) (nd (.node (.join [(12,oi),(13,oi),(14,oi)] (rg [12,14,35,48]) .nil .nil) .nil)) .nil))))))) (by kernel_rfl) (Nat.le_of_ble_eq_true (by kernel_rfl)) (Eq.mp (α:= @G5 El ins t0 t1 t2 t3 w R) (by kernel_rfl) h)
theorem k6(t0:Sl)(t1:Int)(t2:Int)(t3:Nat×Array Value)(w:World)(R:RV)(h: @G6 El ins t0 t1 t2 t3 w R):Cw 253 #[Value.slice t0.1 t0.2 t0.3,Value.int IntKind.i64 t1,Value.int IntKind.i64 t2,Value.func (Fn.func t3.1) #[] t3.2] w R:=
 call_of tbOk mixed en253 Tryz.func253 rfl (nd (nd (.loop [(8,oi),(9,oi)] (rg [8,9,13,33]) (nd (.node (.draw (sts [0,1,2,3,4,5,6,7,8,9,10,11,12] (.ac 13 [3,2] (.st 14 (.ac 15 [] .fin .non)) .non))) .nil))))) (by kernel_rfl) (Nat.le_of_ble_eq_true (by kernel_rfl)) (Eq.mp (α:= @G6 El ins t0 t1 t2 t3 w R) (by kernel_rfl) h)
theorem k7(t0:Sl)(t1:Int)(t2:Int)(t3:Nat×Array Value)(w:World)(R:RV)(h: @G7 El ins t0 t1 t2 t3 w R):Cw 254 #[Value.slice t0.1 t0.2 t0.3,Value.int IntKind.i64 t1,Value.int IntKind.i64 t2,Value.func (Fn.func t3.1) #[] t3.2] w R:=
 call_of tbOk mixed en254 Tryz.func254 rfl (nd (nd (.node (nd (.loop [(9,oi),(10,oi)] (rg [8,12,15,140]) (nd (.node (.join [(9,oi)] (rg [9,9,19,38]) (.loop [(9,oi)] (rg [9,9,19,38]) (.node (.node (.draw (sts [0,1,2,3,4,5,6,7,8,9,10,11,12,13] (.ac 14 [] (sts [15,16,17] .fin) .non))) .nil) .nil)) (nd (nd (.node (.draw (sts [0,1,2,3,4,5,6,7,8,9,10,11,12,13,14] (.ac 15 [4,3,2] (.st 16 (.ac 17 [] .fin .non)) .non))) (.join [] (rg [11,11,62,100]) (nd (.node (nd (.loop [(11,oi)] (rg [11,11,68,100]) (nd (.node (.node (.node (.draw (sts [0,1,2,3,4,5,6,7,8,9] (.ac 10 [] (sts [11,12] .fin) .non))) .nil) (.draw (sts [0,1,2,3,4,5,6,7,8,9,10,11,12,13,14] (.ac 15 [4,3,2] (.st 16 (.ac 17 [] .fin .non)) .non)))) .nil)))) .nil)) (.join [(104,ob)] [101,102,103,104] .nil (.node (nd (.loop [(12,oi)] (rg [12,12,107,140]) (nd (.node (.node (.node (.draw (sts [0,1,2,3,4,5,6,7,8,9] (.ac 10 [] (sts [11,12] .fin) .non))) .nil) (.draw (sts [0,1,2,3,4,5,6,7,8,9,10,11,12,13,14] (.ac 15 [4,3,2] (.st 16 (.ac 17 [] .fin .non)) .non)))) .nil)))) .nil))))))) .nil)))) .nil))) (by kernel_rfl) (Nat.le_of_ble_eq_true (by kernel_rfl)) (Eq.mp (α:= @G7 El ins t0 t1 t2 t3 w R) (by kernel_rfl) h)
theorem k8(t0:Sl)(t1:Int)(t2:Int)(t3:Int)(t4:Nat×Array Value)(w:World)(R:RV)(h: @G8 El ins t0 t1 t2 t3 t4 w R):Cw 255 #[Value.slice t0.1 t0.2 t0.3,Value.int IntKind.i64 t1,Value.int IntKind.i64 t2,Value.int IntKind.i64 t3,Value.func (Fn.func t4.1) #[] t4.2] w R:=
 call_of tbOk mixed en255 Tryz.func255 rfl (nd (.node (.draw (sts [0,1,2,3,4,5,6,7,8,9,10,11,12] (.ac 13 [3,2] (.st 14 (.ac 15 [] .fin .non)) .non))) (nd (.node (.loop [(11,oi),(12,oi)] (rg [11,12,31,88]) (.join [(11,oi)] (rg [11,11,31,49]) (.loop [(11,oi)] (rg [11,11,31,49]) (.node (.node (.draw (sts [0,1,2,3,4,5,6,7,8,9,10,11,12] (.ac 13 [] (sts [14,15,16] .fin) .non))) .nil) .nil)) (.join [(12,oi)] (rg [12,12,50,67]) (.loop [(12,oi)] (rg [12,12,50,67]) (.node (.node (.draw (sts [0,1,2,3,4,5,6,7,8,9,10,11,12] (.ac 13 [] (sts [14,15] .fin) .non))) .nil) .nil)) (nd (.node (.draw (sts [0,1,2,3,4,5,6,7,8,9,10,11,12] (.ac 13 [3,2] (.st 14 (.ac 15 [] .fin .non)) .non))) .nil))))) .nil)))) (by kernel_rfl) (Nat.le_of_ble_eq_true (by kernel_rfl)) (Eq.mp (α:= @G8 El ins t0 t1 t2 t3 t4 w R) (by kernel_rfl) h)
theorem k9(t0:Sl)(t1:Int)(t2:Int)(t3:Int)(t4:Nat×Array Value)(w:World)(R:RV)(h: @G9 El ins t0 t1 t2 t3 t4 w R):Cw 256 #[Value.slice t0.1 t0.2 t0.3,Value.int IntKind.i64 t1,Value.int IntKind.i64 t2,Value.int IntKind.i64 t3,Value.func (Fn.func t4.1) #[] t4.2] w R:=
 call_of tbOk mixed en256 Tryz.func256 rfl (nd (.node (.draw (sts [0,1,2,3,4,5,6,7,8,9,10,11,12] (.ac 13 [3,2] (.st 14 (.ac 15 [] .fin .non)) .non))) (nd (.join [(12,oi)] (rg [12,12,32,49]) (.loop [(12,oi)] (rg [12,12,32,49]) (.node (.node (.draw (sts [0,1,2,3,4,5,6,7,8,9,10,11,12] (.ac 13 [] (sts [14,15] .fin) .non))) .nil) .nil)) (.join [(13,oi)] (rg [13,13,50,68]) (.loop [(13,oi)] (rg [13,13,50,68]) (.node (.node (.draw (sts [0,1,2,3,4,5,6,7,8,9,10,11,12] (.ac 13 [] (sts [14,15,16] .fin) .non))) .nil) .nil)) (.node (nd (.node (.node (.draw (sts [0,1,2,3,4,5,6,7,8,9,10,11,12] (.ac 13 [3,2] (.st 14 (.ac 15 [] .fin .non)) .non))) .nil) .nil)) (.node (.draw (sts [0,1,2,3,4,5,6,7,8,9,10,11,12] (.ac 13 [3,2] (.st 14 (.ac 15 [] .fin .non)) .non))) (nd (nd (.node (.loop [(12,oi),(13,oi)] (rg [12,13,105,162]) (.join [(12,oi)] (rg [12,12,105,122]) (.loop [(12,oi)] (rg [12,12,105,122]) (.node (.node (.draw (sts [0,1,2,3,4,5,6,7,8,9,10,11,12] (.ac 13 [] (sts [14,15] .fin) .non))) .nil) .nil)) (.join [(13,oi)] (rg [13,13,123,141]) (.loop [(13,oi)] (rg [13,13,123,141]) (.node (.node (.draw (sts [0,1,2,3,4,5,6,7,8,9,10,11,12] (.ac 13 [] (sts [14,15,16] .fin) .non))) .nil) .nil)) (nd (.node (.draw (sts [0,1,2,3,4,5,6,7,8,9,10,11,12] (.ac 13 [3,2] (.st 14 (.ac 15 [] .fin .non)) .non))) .nil))))) (.node (.draw (sts [0,1,2,3,4,5,6,7,8,9,10,11,12] (.ac 13 [3,2] (.st 14 (.ac 15 [] .fin .non)) .non))) .nil))))))))))) (by kernel_rfl) (Nat.le_of_ble_eq_true (by kernel_rfl)) (Eq.mp (α:= @G9 El ins t0 t1 t2 t3 t4 w R) (by kernel_rfl) h)
theorem k10(t0:Sl)(t1:Int)(t2:Int)(t3:Int)(t4:Nat×Array Value)(w:World)(R:RV)(h: @G10 El ins t0 t1 t2 t3 t4 w R):Cw 279 #[Value.slice t0.1 t0.2 t0.3,Value.int IntKind.i64 t1,Value.int IntKind.i64 t2,Value.int IntKind.i64 t3,Value.func (Fn.func t4.1) #[] t4.2] w R:=
 call_of tbOk mixed en279 Tryz.func279 rfl (nd (.loop [(10,oi)] (rg [10,11,13,81]) (nd (nd (.join [(11,oi)] (rg [11,11,19,42]) (.node (.draw (sts [0,1,2,3,4,5,6,7,8,9,10,11,12,13,14,15,16,17,18] (.ac 19 [] (sts [20,21] .fin) .non))) .nil) (.node (.node (.draw (sts [0,1,2,3,4,5,6,7,8,9,10,11,12] (.ac 13 [] (sts [14,15] .fin) .non))) .nil) (.node (.draw (sts [0,1,2,3,4,5,6,7,8,9,10,11,12,13,14,15,16,17,18,19,20] (.ac 21 [7,6,5,4] (.st 22 (.ac 23 [] .fin .non)) .non))) .nil))))))) (by kernel_rfl) (Nat.le_of_ble_eq_true (by kernel_rfl)) (Eq.mp (α:= @G10 El ins t0 t1 t2 t3 t4 w R) (by kernel_rfl) h)
theorem k11(t0:Sl)(t1:Int)(t2:Option Addr)(t3:Nat×Array Value)(w:World)(R:RV)(h: @G11 El ins t0 t1 t2 t3 w R):Cw 280 #[Value.slice t0.1 t0.2 t0.3,Value.int IntKind.i64 t1,Value.pointer t2,Value.func (Fn.func t3.1) #[] t3.2] w R:=
 call_of tbOk mixed en280 Tryz.func280 rfl .nil (by kernel_rfl) (Nat.le_of_ble_eq_true (by kernel_rfl)) (Eq.mp (α:= @G11 El ins t0 t1 t2 t3 w R) (by kernel_rfl) h)
theorem k12(t0:Sl)(t1:Int)(t2:Int)(t3:Int)(t4:Option Addr)(t5:Nat×Array Value)(w:World)(R:RV)(h: @G12 El ins t0 t1 t2 t3 t4 t5 w R):Cw 281 #[Value.slice t0.1 t0.2 t0.3,Value.int IntKind.i64 t1,Value.int IntKind.i64 t2,Value.int IntKind.i64 t3,Value.pointer t4,Value.func (Fn.func t5.1) #[] t5.2] w R:=
 call_of tbOk mixed en281 Tryz.func281 rfl .nil (by kernel_rfl) (Nat.le_of_ble_eq_true (by kernel_rfl)) (Eq.mp (α:= @G12 El ins t0 t1 t2 t3 t4 t5 w R) (by kernel_rfl) h)
theorem k13(t0:Sl)(t1:Int)(t2:Int)(t3:Option Addr)(t4:Nat×Array Value)(w:World)(R:RV)(h: @G13 El ins t0 t1 t2 t3 t4 w R):Cw 303 #[Value.slice t0.1 t0.2 t0.3,Value.int IntKind.i64 t1,Value.int IntKind.i64 t2,Value.pointer t3,Value.func (Fn.func t4.1) #[] t4.2] w R:=
 call_of tbOk mixed en303 Tryz.func303 rfl (nd (.node (.node (.draw (sts [0,1,2,3,4,5,6,7,8] (.ac 9 [] (.st 10 .fin) .non))) .nil) .nil)) (by kernel_rfl) (Nat.le_of_ble_eq_true (by kernel_rfl)) (Eq.mp (α:= @G13 El ins t0 t1 t2 t3 t4 w R) (by kernel_rfl) h)
theorem ok: @SrtOk El ins:= @SrtOk.mk El ins k0 k1 k2 k3 k4 k5 k6 k7 k8 k9 k10 k11 k12 k13
abbrev sv(x:El):List Value:=[.int .i64 x.1,.int .i64 x.2]
theorem ol: @SfG.SrtL El ins:= @SfG.SrtL.mk El ins (fun _=>rfl) (fun x=>by intro v hv;change v∈sv x at hv;simp at hv;rcases hv with rfl|rfl<;>rfl) (by decide)
def CmpP(cl:Nat×Array Value):Prop:=∀(x y:El)(W:World),Q x->Q y->Cw cl.1 { toList:=Value.agg (sv x).toArray::Value.agg (sv y).toArray::cl.2.toList } W fun v w'=>∃n:Int,v=iv n/\(n<0↔key x<key y)/\Ext W w'
theorem c166{cl:Nat×Array Value}(hcp:CmpP cl){w:World}{s:Sl}{xs:List El}(h:OwS w s 2 (xs.flatMap sv))(hl:xs.length<=1000000)(hq:∀x∈xs,Q x):
  Cw 166 #[slV s,.func (.func cl.1) #[] cl.2] w fun v w'=>v=.tuple #[]/\∃ys:List El,ys.Perm xs/\ys.Pairwise (fun x y=>key x<=key y)/\OwS w' s 2 (ys.flatMap sv)/\Ch (fun i=>i∈blk s) w w':=
 @SfG.q0 El ins ok ol cl hcp w s xs h hl hq
end Go.Proofs.YtlpgdngcgbeegaaGreat.Gx.SfP
namespace Go.Proofs.YtlpgdngcgbeegaaGreat.Gx
open Go
set_option linter.unusedSimpArgs false
set_option linter.unusedVariables false
section
variable {P:Program} {kt e:TypeId} {k:IntKind} {w:World}
abbrev prV(x:Int×Int):Value:=.agg #[.int .i64 x.1,.int .i64 x.2]
theorem part_int{i:TI}(hi:i.Ok P e)(hk:i.kd.isAgg=false)(hs:i.size=1)(x y:Value)(w:World):(part e #[x,y] 0).run P w=.ok x w/\(part e #[x,y] 1).run P w=.ok y w:=by
 constructor<;>simp[part,run_isAgg_of hi,hk]
theorem check_pair{i:TI}(hi:i.Ok P e)(hk:i.kd.isAgg=false)(hs:i.size=1)(hu:P.underlying kt=some (.array 2 e))(he:P.underlying e=some (.int .i64))(x:Int×Int)(b:Bool)(n:Nat)(w:World):(Instr.checkKey b (n+2) kt (prV x)).run P w=.ok () w:=by
 obtain⟨h1,h2⟩:=part_int hi hk hs (.int .i64 x.1) (.int .i64 x.2) w
 have h3:∀v,(Instr.checkKey b (n+1) e (.int .i64 v)).run P w=.ok () w:=fun v=>by rw[Instr.checkKey];simp[run_underlying_of he]
 show (Instr.checkKey b ((n+1)+1) kt (prV x)).run P w=.ok () w
 rw[Instr.checkKey]
 simp[run_underlying_of hu,run_sizeOf_of hi,hs,Std.Legacy.Range.forIn_eq_forIn_range',List.range',h1,h2,h3]
theorem equal_pair{i:TI}(hi:i.Ok P e)(hk:i.kd.isAgg=false)(hs:i.size=1)(hu:P.underlying kt=some (.array 2 e))(he:P.underlying e=some (.int .i64))(x y:Int×Int)(w:World):(Op.equal kt (prV x) (prV y)).run P w=.ok (decide (x=y)) w:=by
 obtain⟨h1,h2⟩:=part_int hi hk hs (.int .i64 x.1) (.int .i64 x.2) w
 obtain⟨h4,h5⟩:=part_int hi hk hs (.int .i64 y.1) (.int .i64 y.2) w
 have h3:∀a b,(Op.equalIn 9999 e (.int .i64 a) (.int .i64 b)).run P w=.ok (a == b) w:=fun a b=>by
  show (Op.equalIn (9998+1) e (.int .i64 a) (.int .i64 b)).run P w=.ok (a == b) w
  exact run_equalIn_int w 9998 e .i64 .i64 a b he
 obtain⟨x1,x2⟩:=x
 obtain⟨y1,y2⟩:=y
 show (Op.equalIn (9999+1) kt _ _).run P w=_
 rw[Op.equalIn]
 simp only[Sem.run_bind,run_underlying_of hu,Result.andThen_ok,run_sizeOf_of hi,hs]
 simp only[Std.Legacy.Range.forIn_eq_forIn_range',Std.Legacy.Range.size,Nat.sub_zero,Nat.add_sub_cancel,Nat.div_one,List.range'_succ,List.range'_zero,List.forIn_cons,List.forIn_nil]
 simp only[Sem.run_bind,Sem.run_pure,Result.andThen_ok,Nat.mul_one,Nat.zero_add,h1,h2,h3,h4,h5]
 by_cases hx:x1=y1
 ·subst hx
  by_cases hy:x2=y2
  ·subst hy;simp[h2,h3]
  ·simp[h2,h5,h3,hy]
 ·simp[hx]
def fndP(x:Int×Int):List (Int×Int)->Nat->Option Nat
 | [],_=>none
 | y::l,n=>if x=y then some n else fndP x l (n+1)
theorem fndP_none{x:Int×Int}:∀ {l:List (Int×Int)}{n:Nat},x∉l->fndP x l n=none
 | [],_,_=>rfl
 | y::l,n,h=>by
  unfold fndP
  rw[if_neg (fun e=>h (by simp[e])),fndP_none fun h'=>h (List.mem_cons_of_mem _ h')]
theorem fndP_some{x:Int×Int}:∀ {l:List (Int×Int)}{n:Nat},x∈l->∃i,fndP x l n=some (n+i)/\l[i]? =some x
 | y::l,n,h=>by
  unfold fndP
  by_cases e:x=y
  ·exact⟨0,by rw[if_pos e];rfl,by rw[e];rfl⟩
  ·obtain⟨i,h1,h2⟩:=fndP_some (n:=n+1) ((List.mem_cons.1 h).resolve_left e)
   exact⟨i+1,by rw[if_neg e,h1];congr 1;omega,by simpa using h2⟩
structure PairT(P:Program)(kt e:TypeId):Prop where
 ok:∃i:TI,i.Ok P e/\i.kd.isAgg=false/\i.size=1
 arr:P.underlying kt=some (.array 2 e)
 elt:P.underlying e=some (.int .i64)
theorem asking_pair(h:PairT P kt e)(x:Int×Int)(w:World):∀(es:List MapEntry)(S:List (Int×Int))(n:Nat),es.map (·.key)=S.map prV->(Instr.findAsking kt (prV x) es n).run P w=.ok ((fndP x S n).bind fun i=>(es[i-n]?).map fun m=>(i,m.val)) w
 | [],[],n,_=>by simp[Instr.findAsking,fndP]
 | [],_::_,_,h'=>by simp at h'
 | _::_,[],_,h'=>by simp at h'
 | m::es,y::S,n,h'=>by
  obtain⟨i,hi,hk,hs⟩:=h.ok
  simp only[List.map_cons,List.cons.injEq] at h'
  have ih:=asking_pair h x w es S (n+1) h'.2
  rw[Instr.findAsking]
  simp only[Sem.run_bind,h'.1,equal_pair hi hk hs h.arr h.elt,Result.andThen_ok]
  unfold fndP
  by_cases he:x=y
  ·simp[he]
  ·simp only[decide_eq_false he,Bool.false_eq_true,if_false,if_neg he,ih]
   congr 1
   by_cases hx:x∈S
   ·obtain⟨j,hj,_⟩:=fndP_some (n:=n+1) hx
    rw[hj]
    simp only[Option.bind_some]
    rw[show n+1+j-n=(n+1+j-(n+1))+1 by omega,List.getElem?_cons_succ]
   ·rw[fndP_none hx];rfl
theorem find_pair(h:PairT P kt e)(x:Int×Int)(w:World)(es:List MapEntry)(S:List (Int×Int))(hes:es.map (·.key)=S.map prV):(Instr.findKey kt (prV x) es).run P w=.ok ((fndP x S 0).bind fun i=>(es[i]?).map fun m=>(i,m.val)) w:=by
 have ha:=asking_pair h x w es S 0 hes
 cases es with
 | nil=>
  have:S=[]:=by simpa using hes.symm
  subst this
  simp[Instr.findKey,run_underlying_of h.arr,Instr.findNow,fndP]
 | cons m es=>
  have hn:Instr.findNow (.array 2 e) (prV x) (m::es) 0=none:=by
   cases S with
   | nil=>simp at hes
   | cons y S=>
    simp only[List.map_cons,List.cons.injEq] at hes
    simp[Instr.findNow,hes.1,Instr.sameNow]
  simp only[Instr.findKey,Sem.run_bind,run_underlying_of h.arr,Result.andThen_ok,hn]
  simpa using ha
def PrS(w:World)(r:Nat)(S:List (Int×Int)):Prop:=∃es ck,w.heap[r]? =some (.map es ck)/\es.toList.map (·.key)=S.map prV/\∀m∈es.toList,m.val=.bool true
theorem PrS.ch{F:Nat->Prop}{w w':World}{r:Nat}{S:List (Int×Int)}(h:PrS w r S)(hc:Ch F w w')(hF:¬F r):PrS w' r S:=by
 obtain⟨es,ck,h1,h2⟩:=h
 exact⟨es,ck,hc.at h1 hF,h2⟩
theorem PrS.ext{w w':World}{r:Nat}{S:List (Int×Int)}(h:PrS w r S)(hc:Ext w w'):PrS w' r S:=h.ch hc id
theorem PrS.new{w w':World}{r:Nat}(h:IsAlloc w (.map #[] 0) r w'):PrS w' r []:=⟨_,_,h.new,rfl,by simp⟩
theorem PrS.lt{w:World}{r:Nat}{S:List (Int×Int)}(h:PrS w r S):r<w.heap.size:=by
 obtain⟨es,ck,h1,_⟩:=h
 exact heap_lt h1
theorem PrS.get(hT:PairT P kt e){r:Nat}{S:List (Int×Int)}(h:PrS w r S)(x:Int×Int){K:Value->Bool->Prop}(h1:x∈S->K (.bool true) true)(h0:x∉S->K (.bool false) false):
  MapGetG P kt w (.map (some r)) (prV x) (.bool false) K:=by
 obtain⟨es,ck,hr,hk,hv⟩:=h
 obtain⟨i,hi,hk',hs⟩:=hT.ok
 refine⟨es.toList,⟨es,ck,hr,rfl⟩,fun b=>check_pair hi hk' hs hT.arr hT.elt x b 9998 w,_,find_pair hT x w es.toList S hk,?_⟩
 by_cases hx:x∈S
 ·obtain⟨j,hj,hg⟩:=fndP_some (n:=0) hx
  rw[Nat.zero_add] at hj
  have hlen:es.toList.length=S.length:=by simpa using congrArg List.length hk
  have hjl:=(List.getElem?_eq_some_iff.1 hg).1
  have he:es.toList[j]? =some (es.toList[j]'(by omega)):=List.getElem?_eq_getElem (by omega)
  rw[hj]
  simp only[Option.bind_some,he,Option.map_some]
  rw[hv _ (List.getElem_mem _)]
  exact h1 hx
 ·rw[fndP_none hx]
  exact h0 hx
theorem PrS.put(hT:PairT P kt e){r:Nat}{S:List (Int×Int)}(h:PrS w r S){x:Int×Int}(hx:x∉S){K:World->Prop}(hK:∀w',PrS w' r (S++[x])->Ch (fun i=>i=r) w w'->K w'):
  MapSetG P kt w (.map (some r)) (prV x) (.bool true) K:=by
 obtain⟨es,ck,hr,hk,hv⟩:=h
 obtain⟨i,hi,hk',hs⟩:=hT.ok
 refine⟨r,rfl,es,ck,hr,fun b=>check_pair hi hk' hs hT.arr hT.elt x b 9998 w,_,find_pair hT x w es.toList S hk,?_⟩
 rw[fndP_none hx]
 refine fun w' hu=>hK w' ⟨_,_,hu.new,?_,?_⟩ hu.ch
 ·rw[Array.toList_push,List.map_append,hk,List.map_append];rfl
 ·intro m hm
  rw[Array.toList_push] at hm
  rcases List.mem_append.1 hm with h|h
  ·exact hv m h
  ·rw[List.mem_singleton.1 h]
end
set_option maxRecDepth 100000
def F113k1(t0:Sl)(x19:Sl×Int)(x6:Sl×Int)(w20:World)(b13:Nat)(b1:Nat)(b18:Nat)(y16:Nat->Sl×Int->World->Prop):Prop:=Qx (slAddr t0.1 t0.3 0 6) x19.2 (x6.2.toNat:Int) fun b23 b24=>∃(x25:Int×Int×Int×Bool×Sl×Sl),CellsAt w20 b23 (b24+x19.2.toNat*6) (lC53 x25)/\AllocP w20 (Obj.cells #[Qz 0,Qz 0,Qz 0,Value.bool false,Value.slice none 0 0,Value.slice none 0 0] 53) fun b26 w27=>(lC53 x25).toArray.size=6/\StoreP w27 b26 0 (lC53 x25) fun w28=>Qi w28 b26 (0+0) fun n29=>Qi w28 b13 (0+0) fun n30=>AllocP w28 (Obj.cells #[Qz 0,Qz 0] 193) fun b31 w32=>#[Qz n29,Qz n30].size=2/\StoreP w32 b31 0 [Qz n29,Qz n30] fun w33=>∃(x34:Int×Int),CellsAt w33 b31 0 [Qz x34.1,Qz x34.2]/\MapGetG Tryz.prog 193 w33 (Value.map (some b1)) (Value.agg #[Qz x34.1,Qz x34.2]) (Value.bool false) fun(v35:Value) (t36:Bool)=>∃t37:Bool,v35=Value.bool t37/\IfB (!t37) (∃(x38:Int×Int×Int×Bool×Sl×Sl),CellsAt w33 b26 0 (lC53 x38)/\∃(x39:Int×Int×Int×Bool×Sl×Sl),CellsAt w33 b13 0 (lC53 x39)/\Qv' 165 #[Value.agg (lC53 x38).toArray,Value.agg (lC53 x39).toArray] w33 fun t42 w41=>IfB t42 (∃(x43:Int×Int),CellsAt w41 b31 0 [Qz x43.1,Qz x43.2]/\MapSetG Tryz.prog 193 w41 (Value.map (some b1)) (Value.agg #[Qz x43.1,Qz x43.2]) (Value.bool true) fun w44=>∃(x45:Int×Int),CellsAt w44 b31 0 [Qz x45.1,Qz x45.2]/\1*2<=16777216/\AllocP w44 (Obj.cells #[Qz x45.1,Qz x45.2] 193) fun b46 w47=>∃(l48:List Value),ReadC w47 (some ⟨b46,0,none⟩) (1*2) l48/\AppendP tt193 193 w47 x19.fst.1 x19.fst.2 x19.fst.3 1 l48 fun s49 w50=>Qn y16 b18 ({ p:=s49.1,n:=s49.2,c:=s49.3 },IntKind.i64.wrap (x19.2+1)) w50) (Qn y16 b18 ({ p:=x19.fst.1,n:=x19.fst.2,c:=x19.fst.3 },IntKind.i64.wrap (x19.2+1)) w41)) (Qn y16 b18 ({ p:=x19.fst.1,n:=x19.fst.2,c:=x19.fst.3 },IntKind.i64.wrap (x19.2+1)) w33)
def F113j2(t0:Sl)(b1:Nat)(y3:Nat->Sl×Int->World->Prop)(b5:Nat)(x6:Sl×Int)(b13:Nat)(y16:Nat->Sl×Int->World->Prop)(b18:Nat)(x19:Sl×Int)(w20:World):Prop:=IfB (decide (x19.snd<(((Int.toNat x6.snd:Nat):Int):Int))) (F113k1 t0 x19 x6 w20 b13 b1 b18 y16) (Qn y3 b5 ({ p:=x19.fst.1,n:=x19.fst.2,c:=x19.fst.3 },IntKind.i64.wrap (x6.2+1)) w20)
def F113j1(t0:Sl)(R:RV)(b1:Nat)(y3:Nat->Sl×Int->World->Prop)(b5:Nat)(x6:Sl×Int)(w7:World):Prop:=IfB (decide (x6.snd<(t0.n:Int))) (Qx t0.1 x6.2 (t0.2:Int) fun b10 b11=>∃(x12:Int×Int×Int×Bool×Sl×Sl),CellsAt w7 b10 (b11+x6.2.toNat*6) (lC53 x12)/\AllocP w7 (Obj.cells #[Qz 0,Qz 0,Qz 0,Value.bool false,Value.slice none 0 0,Value.slice none 0 0] 53) fun b13 w14=>(lC53 x12).toArray.size=6/\StoreP w14 b13 0 (lC53 x12) fun w15=>(0<=x6.2/\x6.2<=(t0.3:Int))/\Ql (α:=Sl×Int) ({ p:=x6.fst.1,n:=x6.fst.2,c:=x6.fst.3 },0) w15 fun y16 b18 x19 w20=>(F113j2 t0 b1 y3 b5 x6 b13 y16 b18 x19 w20)) (Cx 166 #[Qy x6.fst,Value.func (Fn.func 167) #[] #[]] w7 fun v55 w56=>∃y57:Unit,v55=Value.tuple #[]/\R (Qy x6.fst) w56)
theorem F113_ok(t0:Sl)(w:World)(R:RV)(h:AllocP w (Obj.map #[] 0) fun b1 w2=>Ql (α:=Sl×Int) ({ p:=none,n:=0,c:=0 },0) w2 fun y3 b5 x6 w7=>(F113j1 t0 R b1 y3 b5 x6 w7)):Cw 113 #[Qy t0] w R:=
 ckF Tryz.func113 (nd (nd (nd (.node (nd (.loop [(4,.one (.sl)),(13,oi)] (rg [4,6,8,9,13,47]) (nd (nd (.node (nd (nd (.loop [(4,.one (.sl)),(22,oi)] (rg [4,4,8,9,22,46]) .nil))) .nil))))) .nil)))) h (by kernel_rfl) (by kernel_rfl)
theorem F167_ok(t0:Int×Int)(t1:Int×Int)(w:World)(R:RV)(h:AllocP w (Obj.cells #[Qz t0.1,Qz t0.2] 193) fun b1 w2=>AllocP w2 (Obj.cells #[Qz t1.1,Qz t1.2] 193) fun b3 w4=>((0:Int)<=0/\0<((2:Nat):Int))/\Qi w4.drew b1 (0+Int.toNat 0) fun n5=>((0:Int)<=0/\0<((2:Nat):Int))/\Qi w4.drew b3 (0+Int.toNat 0) fun n6=>((0:Int)<=1/\1<((2:Nat):Int))/\Qi w4.drew b1 (0+Int.toNat 1) fun n7=>((0:Int)<=1/\1<((2:Nat):Int))/\Qi w4.drew b3 (0+Int.toNat 1) fun n8=>Qw' 158 #[Qz n5,Qz n6] w4.drew fun n11 w10=>w10.cell? ⟨b3,0+Int.toNat 1,none⟩=some (Qz n8)/\w10.cell? ⟨b1,0+Int.toNat 1,none⟩=some (Qz n7)/\Qw' 158 #[Qz n7,Qz n8] w10 fun n14 w13=>2*1<=16777216/\AllocP w13 (Obj.cells #[Qz n11,Qz n14] 3) fun b15 w16=>Qw' 157 #[Value.slice (some ⟨b15,0,none⟩) 2 2] w16 fun n19 w18=>R (Qz n19) w18):Cw 167 #[Value.agg #[Qz t0.1,Qz t0.2],Value.agg #[Qz t1.1,Qz t1.2]] w R:=
 ckF Tryz.func167 (nd (.node (.draw (sts [0,1,2,3,5,6,7,8] (.ac 4 [8,7,6,5] (.ac 9 [] (.ac 10 [] (.ac 11 [] (.st 12 .fin) .non) .non) .non) .non))) .nil)) h (by kernel_rfl) (by kernel_rfl)
def F168j1(t0:Sl)(R:RV)(y1:Nat->Sl×Int->World->Prop)(b3:Nat)(x4:Sl×Int)(w5:World):Prop:=IfB (decide (x4.snd<(t0.n:Int))) (Qx t0.1 x4.2 (t0.2:Int) fun b8 b9=>∃(x10:Int×Int×Int×Bool×Sl×Sl),CellsAt w5 b8 (b9+x4.2.toNat*6) (lC53 x10)/\AllocP w5 (Obj.cells #[Qz 0,Qz 0,Qz 0,Value.bool false,Value.slice none 0 0,Value.slice none 0 0] 53) fun b11 w12=>(lC53 x10).toArray.size=6/\StoreP w12 b11 0 (lC53 x10) fun w13=>Qi w13 b11 (0+0) fun n14=>1*1<=16777216/\AllocP w13 (Obj.cells #[Qz n14] 3) fun b15 w16=>∃(l17:List Value),ReadC w16 (some ⟨b15,0,none⟩) (1*1) l17/\AppendP tt3 3 w16 x4.fst.1 x4.fst.2 x4.fst.3 1 l17 fun s18 w19=>Qn y1 b3 ({ p:=s18.1,n:=s18.2,c:=s18.3 },IntKind.i64.wrap (x4.2+1)) w19) (Cx 179 #[Qy x4.fst] w5 fun v21 w22=>∃y23:Unit,v21=Value.tuple #[]/\Qu' 132 #[Qy x4.fst] w22 fun s26 w25=>R (Qy s26) w25)
theorem F168_ok(t0:Sl)(w:World)(R:RV)(h:Ql (α:=Sl×Int) ({ p:=none,n:=0,c:=0 },0) w fun y1 b3 x4 w5=>(F168j1 t0 R y1 b3 x4 w5)):Cw 168 #[Qy t0] w R:=
 ckF Tryz.func168 (nd (nd (.node (nd (.loop [(3,.one (.sl)),(8,oi)] (rg [3,3,5,5,8,17]) .nil)) .nil))) h (by kernel_rfl) (by kernel_rfl)
theorem F169_ok(t0:Int×Int)(t1:Nat)(t2:Nat)(w:World)(R:RV)(h:AllocP w (Obj.cells #[Qz t0.1,Qz t0.2] 193) fun b1 w2=>((0:Int)<=1/\1<((2:Nat):Int))/\Qi w2 b1 (0+Int.toNat 1) fun n3=>∃n4:Int,w2.cell? ⟨t1,0,none⟩=some (Qz n4)/\IfB (n3 == n4) (∃s5:Sl,w2.cell? ⟨t2,0,none⟩=some (Qy s5)/\((0:Int)<=0/\0<((2:Nat):Int))/\Qi w2 b1 (0+Int.toNat 0) fun n6=>Qv' 107 #[Qy s5,Qz n6] w2 fun t9 w8=>R (Value.bool t9) w8) (R (Value.bool false) w2)):Cw 169 #[Value.agg #[Qz t0.1,Qz t0.2],Value.pointer (some ⟨t1,0,none⟩),Value.pointer (some ⟨t2,0,none⟩)] w R:=
 ckF Tryz.func169 .nil h (by kernel_rfl) (by kernel_rfl)
theorem F170_ok(t0:Sl)(t1:Nat×Array Value)(w:World)(R:RV)(h:Cx 217 #[Qy t0,Value.func (Fn.func t1.1) #[] t1.2] w fun v1 w2=>∃n3:Int,v1=Qz n3/\R (Value.bool (decide (0<=n3))) w2):Cw 170 #[Qy t0,Value.func (Fn.func t1.1) #[] t1.2] w R:=
 ckF Tryz.func170 .nil h (by kernel_rfl) (by kernel_rfl)
def F217j1(t0:Sl)(t1:Nat×Array Value)(R:RV)(y1:Nat->Int->World->Prop)(b3:Nat)(n4:Int)(w5:World):Prop:=IfB (decide (n4<(t0.n:Int))) (Qx t0.1 n4 (t0.2:Int) fun b8 b9=>∃(x10:Int×Int),CellsAt w5 b8 (b9+n4.toNat*2) [Qz x10.1,Qz x10.2]/\Cx t1.1 { toList:=Value.agg #[Qz x10.1,Qz x10.2]::t1.snd.1 } w5 fun v11 w12=>∃t13:Bool,v11=Value.bool t13/\IfB t13 (R (Qz n4) w12) (Qn y1 b3 (IntKind.i64.wrap (n4+1)) w12)) (R (Qz (-1:Int)) w5)
def F217(t0:Sl)(t1:Nat×Array Value)(w:World)(R:RV):Prop:=Ql (α:=Int) 0 w fun y1 b3 n4 w5=>(F217j1 t0 t1 R y1 b3 n4 w5)
theorem F217_ok(t0:Sl)(t1:Nat×Array Value)(w:World)(R:RV)(h:F217 t0 t1 w R):Cw 217 #[Qy t0,Value.func (Fn.func t1.1) #[] t1.2] w R:=
 ckF Tryz.func217 (nd (.node (nd (.loop [(8,oi)] (rg [4,5,8,18]) .nil)) .nil)) h (by kernel_rfl) (by kernel_rfl)
def F171(t0:Sl)(t1:Int)(t2:Int)(w:World)(R:RV):Prop:=(0<=t1/\t1<=t2/\t2<=(t0.2:Int)/\(t0.2:Int)<=(t0.3:Int))/\IfB (t1 == t2) (R (Qy t0) w) ((0<=t1/\t1<=(t0.3:Int))/\(0<=t2/\t2<=(t0.2:Int))/\∃(l1:List Value),ReadC w.drew (slAddr t0.1 t0.3 t2.toNat 1) ((t0.2-t2.toNat)*1) l1/\AppendP tt3 3 w.drew (slAddr t0.1 t0.3 0 1) t1.toNat t0.3 (t0.2-t2.toNat) l1 fun s2 w3=>(0<=(s2.2:Int)/\(s2.2:Int)<=(t0.2:Int)/\(t0.2:Int)<=(s2.3:Int))/\match slAddr s2.1 s2.3 ((s2.2:Int)).toNat 1 with|none=>R (Qy s2) w3|some ({ block:=b5,off:=b6,spot:=none }:Addr)=>StoreP w3 b5 b6 (zc #[Qz 0] (((t0.2:Int)).toNat-((s2.2:Int)).toNat)) fun w7=>R (Qy s2) w7|some y8=>False)
theorem F171_ok(t0:Sl)(t1:Int)(t2:Int)(w:World)(R:RV)(h:F171 t0 t1 t2 w R):Cw 171 #[Qy t0,Qz t1,Qz t2] w R:=
 ckF Tryz.func171 (nd (nd (nd (nd (.node (.draw (sts [0,1,2,3,4,5] (.ac 6 [] (.st 7 .fin) .non))) .nil))))) h (by kernel_rfl) (by kernel_rfl)
theorem F51_ok(t0:Sl)(w:World)(R:RV)(h:Cx 114 #[Qy t0] w fun v1 w2=>∃(x3:Sl×Bool),v1=Value.tuple #[Qy x3.fst,Value.bool x3.2]/\R (Value.bool x3.2) w2):Cw 51 #[Qy t0] w R:=
 ckF Tryz.func51 .nil h (by kernel_rfl) (by kernel_rfl)
def F49(w:World)(R:RV):Prop:=1*2<=16777216/\AllocP w (Obj.cells #[Qz 5,Qz 5] 101) fun b1 w2=>1*2<=16777216/\AllocP w2 (Obj.cells #[Qz 6,Qz 6] 101) fun b3 w4=>4*6<=16777216/\AllocP w4 (Obj.cells #[Qz 1,Qz 0,Qz 0,Value.bool false,Value.slice none 0 0,Value.slice (some ⟨b1,0,none⟩) 1 1,Qz 2,Qz 0,Qz 0,Value.bool false,Value.slice none 0 0,Value.slice (some ⟨b1,0,none⟩) 1 1,Qz 2,Qz 0,Qz 0,Value.bool false,Value.slice none 0 0,Value.slice (some ⟨b3,0,none⟩) 1 1,Qz 1,Qz 0,Qz 0,Value.bool false,Value.slice none 0 0,Value.slice (some ⟨b3,0,none⟩) 1 1] 53) fun b5 w6=>Qu' 113 #[Value.slice (some ⟨b5,0,none⟩) 4 4] w6 fun s9 w8=>IfB ((s9.2:Int) == 2) (Qv' 51 #[Value.slice (some ⟨b5,0,none⟩) 4 4] w8 fun t12 w11=>IfB (!t12) (((0:Int)<=3/\3<=((4:Nat):Int))/\Qv' 51 #[Value.slice (slAddr (some ⟨b5,0,none⟩) 4 0 6) (Int.toNat 3) 4] w11 fun t15 w14=>R (Value.bool t15) w14) (R (Value.bool false) w11)) (R (Value.bool false) w8)
theorem F49_ok(w:World)(R:RV)(h:F49 w R):Cw 49 #[] w R:=
 call_of tbOk mixed en49 Tryz.func49 rfl .nil (by kernel_rfl) (Nat.le_of_ble_eq_true (by kernel_rfl)) (Eq.mp (α:=F49 w R) (by kernel_rfl) h)
theorem pairT:PairT Tryz.prog 193 3:=⟨⟨tt3,tbOk 3 tt3 rfl,rfl,rfl⟩,Tryz.underlying193,Tryz.underlying3⟩
def cmpV(x y:Int):Int:=if x<y then -1 else if y<x then 1 else 0
theorem cmpC(x y:Int)(w:World):Cw 158 #[.int .i64 x,.int .i64 y] w fun v w'=>v=iv (cmpV x y)/\w=w':=by
 refine F158_ok _ _ _ _ ((c214 x w).use ?_)
 rintro _ _ ⟨rfl,rfl⟩
 refine⟨false,rfl,(c214 y w).use ?_⟩
 rintro _ _ ⟨rfl,rfl⟩
 refine⟨false,rfl,IfB.no rfl (IfB.no rfl (IfB.dec (fun h=>⟨?_,rfl⟩) fun h=>IfB.dec (fun h'=>⟨?_,rfl⟩) fun h'=>⟨?_,rfl⟩))⟩
 ·unfold cmpV;rw[if_pos h]
 ·unfold cmpV;rw[if_neg h,if_pos h']
 ·unfold cmpV;rw[if_neg h,if_neg h']
theorem c167:SfP.CmpP (167,#[]):=by
 intro x y w hx hy
 refine F167_ok x y w _ fun b1 w2 h2 b3 w4 h4=>?_
 have ed:=extDrew w4
 have H1:=ed.at (h4.at h2.new)
 have H3:=ed.at h4.new
 refine⟨by omega,x.1,by rw[cell_of H1];rfl,by omega,y.1,by rw[cell_of H3];rfl,by omega,x.2,by rw[cell_of H1];rfl,by omega,y.2,by rw[cell_of H3];rfl,(cmpC _ _ _).use ?_⟩
 rintro _ _ ⟨rfl,rfl⟩
 refine⟨_,rfl,by rw[cell_of H3];rfl,by rw[cell_of H1];rfl,(cmpC _ _ _).use ?_⟩
 rintro _ _ ⟨rfl,rfl⟩
 refine⟨_,rfl,by decide,fun b15 w16 a16=>(c157 (xs:=[cmpV x.1 y.1,cmpV x.2 y.2]) (OwS.new (cs:=[iv (cmpV x.1 y.1),iv (cmpV x.2 y.2)]) (n:=2) (sz:=1) a16 rfl).rd (by simp)).use ?_⟩
 rintro _ _ ⟨rfl,rfl⟩
 refine⟨_,rfl,_,rfl,?_,((h2.ch _).trans (h4.ch _)).trans (ed.trans (a16.ch _))⟩
 unfold SfP.key
 simp only[orI]
 unfold cmpV
 unfold SfP.Q at hx hy
 split<;>(repeat' split at*)<;>omega
def ahQ(hs:List Nd)(i kk:Nat)(p:Int×Int):Prop:=∃(k j:Nat)(a b:Nd),k<j/\(j<i\/(j=i/\k<kk))/\hs[k]? =some a/\hs[j]? =some b/\p=(a.v.1,b.v.1)/\cnfP a b
def AhP(hs:List Nd)(p:Int×Int):Prop:=∃(k j:Nat)(a b:Nd),k<j/\hs[k]? =some a/\hs[j]? =some b/\p=(a.v.1,b.v.1)/\cnfP a b
theorem ahQ_zero{hs:List Nd}(p:Int×Int):¬ahQ hs 0 0 p:=by
 rintro⟨k,j,a,b,h1,h2,_⟩;omega
theorem ahQ_row{hs:List Nd}{i:Nat}(p:Int×Int):ahQ hs (i+1) 0 p↔ahQ hs i i p:=by
 constructor
 ·rintro⟨k,j,a,b,h1,h2,h3⟩;exact⟨k,j,a,b,h1,by omega,h3⟩
 ·rintro⟨k,j,a,b,h1,h2,h3⟩;exact⟨k,j,a,b,h1,by omega,h3⟩
theorem ahQ_all{hs:List Nd}(p:Int×Int):ahQ hs hs.length 0 p↔AhP hs p:=by
 constructor
 ·rintro⟨k,j,a,b,h1,_,h3⟩;exact⟨k,j,a,b,h1,h3⟩
 ·rintro⟨k,j,a,b,h1,h3,h4,h5⟩
  have:=(List.getElem?_eq_some_iff.1 h4).1
  exact⟨k,j,a,b,h1,by omega,h3,h4,h5⟩
theorem ahQ_step{hs:List Nd}{i k:Nat}{a b:Nd}(hk:k<i)(ha:hs[k]? =some a)(hb:hs[i]? =some b)(p:Int×Int):ahQ hs i (k+1) p↔ahQ hs i k p\/(p=(a.v.1,b.v.1)/\cnfP a b):=by
 constructor
 ·rintro⟨k',j,a',b',h1,h2,h3,h4,h5⟩
  by_cases he:j=i/\k'=k
  ·obtain⟨rfl,rfl⟩:=he
   rw[ha] at h3;rw[hb] at h4
   cases h3;cases h4
   exact .inr h5
  ·exact .inl ⟨k',j,a',b',h1,by omega,h3,h4,h5⟩
 ·rintro(⟨k',j,a',b',h1,h2,h3⟩|h)
  ·exact⟨k',j,a',b',h1,by omega,h3⟩
  ·exact⟨k,i,a,b,hk,by omega,ha,hb,h⟩
def SgR(hs:List Nd):Prop:=∀n∈hs, -9223372036854775808<=n.v.1/\n.v.1<=9223372036854775807
theorem AhP.q{hs:List Nd}(hq:SgR hs){p:Int×Int}(h:AhP hs p):SfP.Q p:=by
 obtain⟨k,j,a,b,_,h1,h2,rfl,_⟩:=h
 exact⟨hq a (List.mem_of_getElem? h1),hq b (List.mem_of_getElem? h2)⟩
theorem c113{w:World}{t:Sl}{hs:List Nd}(hH:Hst w t hs)(hl:hs.length<=1000)(hq:SgR hs):
  Cw 113 #[slV t] w fun v w'=>∃t',∃xs:List (Int×Int),v=slV t'/\xs.Pairwise (fun x y=>SfP.key x<SfP.key y)/\(∀p,p∈xs↔AhP hs p)/\xs.length<=1000000/\OwS w' t' 2 (xs.flatMap sv)/\Ext w w'/\∀j∈blk t',w.heap.size<=j:=by
 have htn:=hH.n
 refine F113_ok t w _ fun b1 w2 a2=>?_
 have e2:Ext w w2:=a2.ch _
 have p2:=a2.here
 have hL:hs.length*hs.length<=1000000:=Nat.le_trans (Nat.mul_le_mul hl hl) (by decide)
 let I:Nat->Nat->Sl->List (Int×Int)->World->Prop:=fun i kk so xs W=>OwS W so 2 (xs.flatMap sv)/\PrS W b1 xs/\xs.Nodup/\(∀p,p∈xs↔ahQ hs i kk p)/\xs.length<=i*hs.length+kk/\Ext w W/\(∀j∈blk so,w.heap.size<j)
 refine⟨fun m x W=>∃(i:Nat)(so:Sl)(xs:List (Int×Int)),i<=hs.length/\m+i=hs.length/\x=(so,(i:Int))/\I i 0 so xs W,⟨hs.length,0,⟨none,0,0⟩,[],Nat.zero_le _,rfl,rfl,.nil _ _,.new a2,.nil,fun p=>⟨fun h=>(by cases h),fun h=>absurd h (ahQ_zero p)⟩,by simp,e2,by simp[blk]⟩,?_⟩
 rintro m _ W g ⟨i,so,xs,hi,hmi,rfl,hO,hM,hnd,hmem,hxl,hE,hb⟩
 unfold F113j1
 refine IfB.dec (fun hlt=>?_) fun hge=>?_
 ·have hi':i<hs.length:=by dsimp only at hlt;omega
  have hiL:(i+1)*hs.length=i*hs.length+hs.length:=Nat.succ_mul _ _
  have hiL2:(i+1)*hs.length<=1000000:=Nat.le_trans (Nat.mul_le_mul_right _ hi') hL
  have hx:hs[i]? =some hs[i]:=List.getElem?_eq_getElem hi'
  generalize hs[i]=nb at hx
  obtain⟨a,o,hp,hc⟩:=(hH.ext hE).at hx
  refine⟨a,o,hp,(⟨by omega,by omega⟩:(0:Int)<=(i:Int)/\(i:Int)<(t.n:Int)),nb.v,by rw[Int.toNat_natCast];exact hc,boxNd rfl fun b13 w15 hb13 hs15 h15 e15 _=>⟨(⟨by omega,by have:=hH.cap;omega⟩:(0:Int)<=(i:Int)/\(i:Int)<=(t.c:Int)),?_⟩⟩
  refine⟨fun n x W'=>∃(k:Nat)(so:Sl)(xs:List (Int×Int)),k<=i/\n+k=i/\x=(so,(k:Int))/\I i k so xs W'/\W'.heap[b13]? =some (.cells (nC nb.v).toArray 53 (0,0))/\(∀j∈blk so,j≠b13),
   ⟨i,0,so,xs,Nat.zero_le _,rfl,rfl,⟨hO.ext e15,hM.ext e15,hnd,hmem,hxl,hE.trans e15,hb⟩,h15,fun j hj e=>by have:=hO.lt j hj;omega⟩,?_⟩
  rintro n _ w20 g ⟨k,so',ys,hk,hnk,rfl,⟨hO',hM',hnd',hmem',hyl,hE',hb'⟩,h13,hb13'⟩
  have hon:=owsN sv_len (by omega) hO'
  unfold F113j2
  dsimp only
  rw[Int.toNat_natCast]
  refine IfB.dec (fun hlt2=>?_) fun hge2=>?_
  ·have hk':k<i:=by omega
   have hy:hs[k]? =some hs[k]:=List.getElem?_eq_getElem (by omega)
   generalize hs[k]=na at hy
   have hW:=hH.ext hE'
   obtain⟨a2',o2,hp2,hc2⟩:=hW.at hy
   have hstep:=ahQ_step hk' hy hx
   have w1:IntKind.i64.wrap ((k:Int)+1)=((k+1:Nat):Int):=by rw[wrap_of (by omega) (by omega)];rfl
   unfold F113k1
   dsimp only
   rw[slAddr_zero,Int.toNat_natCast]
   refine⟨a2',o2,hp2,⟨by omega,hlt2⟩,na.v,by rw[Int.toNat_natCast];exact hc2,boxNd rfl fun b26 w28 hb26 hs28 h28 e28 _=>⟨na.v.1,by rw[cell_of h28];rfl,nb.v.1,by rw[cell_of (e28.at h13)];rfl,boxSp (x:=(na.v.1,nb.v.1)) rfl fun b31 w33 hb31 hs33 h33 e33 _=>⟨(na.v.1,nb.v.1),cellsAt_of h33 fun q v hv=>by simpa using hv,?_⟩⟩⟩
   have e2033:Ext w20 w33:=e28.trans e33
   have stay:∀ {W':World},Ext w20 W'->(∀p,p∈ys↔ahQ hs i (k+1) p)->∃b53,b53<n/\∃(k':Nat)(so:Sl)(xs:List (Int×Int)),k'<=i/\b53+k'=i/\(({ p:=so'.1,n:=so'.2,c:=so'.3 }:Sl),IntKind.i64.wrap ((k:Int)+1))=(so,(k':Int))/\I i k' so xs W'/\W'.heap[b13]? =some (.cells (nC nb.v).toArray 53 (0,0))/\(∀j∈blk so,j≠b13):=fun{W'} e hm=>
    ⟨n-1,by omega,k+1,so',ys,hk',by omega,by rw[w1],⟨hO'.ext e,hM'.ext e,hnd',hm,by omega,hE'.trans e,hb'⟩,e.at h13,hb13'⟩
   refine(hM'.ext e2033).get pairT (na.v.1,nb.v.1) (fun hin=>⟨true,rfl,IfB.no rfl ⟨rfl,stay e2033 fun p=>?_⟩⟩) fun hno=>⟨false,rfl,IfB.yes rfl ⟨na.v,cellsAt_of (e33.at h28) fun q v hv=>by simpa using hv,nb.v,cellsAt_of (e2033.at h13) fun q v hv=>by simpa using hv,(c165 ((hW.get hy).ext e2033) ((hW.get hx).ext e2033)).use ?_⟩⟩
   ·rw[hstep,<-hmem']
    exact⟨.inl,fun h=>h.elim id fun h=>h.1 ▸ hin⟩
   ·rintro _ w41 ⟨r,rfl,hr,e41⟩
    have e2041:Ext w20 w41:=e2033.trans e41
    refine⟨r,rfl,IfB.intro (fun h=>⟨(na.v.1,nb.v.1),cellsAt_of (e41.at h33) fun q v hv=>by simpa using hv,?_⟩) fun h=>⟨rfl,stay e2041 fun p=>?_⟩⟩
    ·refine(hM'.ext e2041).put pairT hno fun w44 hM44 hC44=>?_
     have hb1l:=(hM'.ext e2041).lt
     have z1:=e2041.size;have z2:=hE'.size
     have x44:Ext w w44:=(hE'.trans e2041).chN hC44 fun j e=>by omega
     have n31:b31≠b1:=by have:=hM'.lt;have:=e28.size;omega
     refine⟨(na.v.1,nb.v.1),cellsAt_of (hC44.at (e41.at h33) n31) fun q v hv=>by simpa using hv,by decide,fun b46 w47 a47=>?_⟩
     have e47:Ext w44 w47:=a47.ch _
     have z47:=e47.size;have z44:=hC44.size
     have hO47:=((hO'.ext e2041).ch hC44 fun j hj e=>by have:=hb' j hj;omega).ext e47
     refine hO47.lit (new:=sv (na.v.1,nb.v.1)) (T':=193) a47.new rfl (sv_one _) rfl rfl (by omega) (by decide) fun s' w' ho' hn' hC' hbk=>⟨rfl,n-1,by omega,k+1,s',ys++[(na.v.1,nb.v.1)],hk',by omega,by rw[w1],⟨?_,?_,?_,fun p=>?_,by rw[List.length_append,List.length_singleton];omega,(x44.trans e47).chN hC' fun j hj=>by have:=hb' j hj;omega,?_⟩,?_,?_⟩
     ·rw[List.flatMap_append];simpa using ho'
     ·exact(hM44.ext e47).ch hC' fun hj=>by have:=hb' b1 hj;omega
     ·rw[List.nodup_append]
      exact⟨hnd',by simp,fun x hx' y hy' e=>hno (by rw[List.mem_singleton.1 hy'] at e;rw[<-e];exact hx')⟩
     ·rw[List.mem_append,List.mem_singleton,hmem',hstep]
      exact or_congr Iff.rfl ⟨fun e=>⟨e,hr.1 h⟩,fun e=>e.1⟩
     ·intro j hj
      rcases hbk j hj with h'|h'
      ·exact hb' j h'
      ·omega
     ·have n13:b13≠b1:=by have:=hM.lt;omega
      exact hC'.at (e47.at (hC44.at (e2041.at h13) n13)) fun hj=>hb13' b13 hj rfl
     ·intro j hj
      rcases hbk j hj with h'|h'
      ·exact hb13' j h'
      ·have:=heap_lt h13;omega
    ·rw[hstep,<-hmem']
     refine⟨.inl,fun h'=>h'.elim id fun h'=>?_⟩
     rw[hr.2 h'.2] at h;cases h
  ·have hk':k=i:=by omega
   subst hk'
   exact⟨rfl,m-1,by omega,k+1,so',ys,hi',by omega,by rw[wrap_of (by omega) (by omega)];rfl,hO',hM',hnd',fun p=>(hmem' p).trans (ahQ_row p).symm,by omega,hE',hb'⟩
 ·have hi':i=hs.length:=by dsimp only at hge;omega
  subst hi'
  have hm:∀p,p∈xs↔AhP hs p:=fun p=>(hmem p).trans (ahQ_all p)
  refine(SfP.c166 c167 hO (by omega) fun x hx=>((hm x).1 hx).q hq).use ?_
  rintro _ w56 ⟨rfl,ys,hperm,hsort,hO56,hC56⟩
  refine⟨(),rfl,so,ys,rfl,?_,fun p=>hperm.mem_iff.trans (hm p),by rw[hperm.length_eq];omega,hO56,hE.chN hC56 fun j hj=>by have:=hb j hj;omega,fun j hj=>by have:=hb j hj;omega⟩
  have hnd2:ys.Nodup:=hperm.nodup_iff.2 hnd
  refine(hsort.and (List.pairwise_iff_forall_sublist.2 ?_)).imp (R:=fun x y=>SfP.key x<=SfP.key y/\SfP.key x≠SfP.key y) fun⟨h1,h2⟩=>by omega
  intro x y hxy he
  have hxm:x∈ys:=hxy.subset (by simp)
  have hym:y∈ys:=hxy.subset (by simp)
  have q1:=((hm x).1 (hperm.mem_iff.1 hxm)).q hq
  have q2:=((hm y).1 (hperm.mem_iff.1 hym)).q hq
  have hxe:x=y:=by
   unfold SfP.key at he
   unfold SfP.Q at q1 q2
   rw[Prod.ext_iff];omega
  have:=(List.pairwise_iff_forall_sublist.1 hnd2) hxy
  exact this hxe
def F132j2(t0:Sl)(R:RV)(n4:Int)(y14:Nat->Int×Int->World->Prop)(b16:Nat)(x17:Int×Int)(w18:World):Prop:=IfB (decide (x17.snd<(((t0.n-n4.toNat:Nat):Int):Int))) (Qx (slAddr t0.1 t0.3 n4.toNat 1) x17.2 ((t0.2-n4.toNat:Nat):Int) fun b21 b22=>Qi w18.drew b21 (b22+x17.2.toNat) fun n23=>Qx (slAddr t0.1 t0.3 n4.toNat 1) (IntKind.i64.wrap (x17.2-1)) ((t0.2-n4.toNat:Nat):Int) fun b24 b25=>Qi w18.drew b24 (b25+(IntKind.i64.wrap (x17.2-1)).toNat) fun n26=>IfB (n23 != n26) (Qx (slAddr t0.1 t0.3 n4.toNat 1) x17.2 ((t0.2-n4.toNat:Nat):Int) fun b27 b28=>Qi w18.drew b27 (b28+x17.2.toNat) fun n29=>Qx t0.1 x17.1 (t0.2:Int) fun b30 b31=>#[Qz n29].size=1/\StoreP w18.drew b30 (b31+x17.1.toNat) [Qz n29] fun w32=>Qn y14 b16 (IntKind.i64.wrap (x17.1+1),IntKind.i64.wrap (x17.2+1)) w32) (Qn y14 b16 (x17.1,IntKind.i64.wrap (x17.2+1)) w18.drew)) ((0<=x17.1/\x17.1<=(t0.2:Int))/\match slAddr t0.1 t0.3 x17.1.toNat 1 with|none=>(0<=x17.1/\x17.1<=(t0.3:Int))/\R (Value.slice (slAddr t0.1 t0.3 0 1) x17.1.toNat t0.3) w18|some ({ block:=b36,off:=b37,spot:=none }:Addr)=>StoreP w18 b36 b37 (zc #[Qz 0] (t0.2-x17.1.toNat)) fun w38=>(0<=x17.1/\x17.1<=(t0.3:Int))/\R (Value.slice (slAddr t0.1 t0.3 0 1) x17.1.toNat t0.3) w38|some y39=>False)
def F132j1(t0:Sl)(R:RV)(y1:Nat->Int->World->Prop)(b3:Nat)(n4:Int)(w5:World):Prop:=IfB (decide (n4<(t0.n:Int))) (Qx t0.1 n4 (t0.2:Int) fun b8 b9=>Qi w5.drew b8 (b9+n4.toNat) fun n10=>Qx t0.1 (IntKind.i64.wrap (n4-1)) (t0.2:Int) fun b11 b12=>Qi w5.drew b11 (b12+(IntKind.i64.wrap (n4-1)).toNat) fun n13=>IfB (n10 == n13) ((0<=n4/\n4<=(t0.2:Int))/\Ql (α:=Int×Int) (n4,1) w5.drew fun y14 b16 x17 w18=>(F132j2 t0 R n4 y14 b16 x17 w18)) (Qn y1 b3 (IntKind.i64.wrap (n4+1)) w5.drew)) (R (Qy t0) w5)
theorem F132_ok(t0:Sl)(w:World)(R:RV)(h:IfB (decide ((t0.n:Int)<2)) (R (Qy t0) w) (Ql (α:=Int) 1 w fun y1 b3 n4 w5=>(F132j1 t0 R y1 b3 n4 w5))):Cw 132 #[Qy t0] w R:=
 ckF Tryz.func132 (nd (nd (.node (nd (.loop [(3,oi)] (rg [2,5,10,59]) (nd (.node (.node (.draw (sts [0,1,2,3,4,5,6,7,8,9] .fin)) (.node (nd (.node (nd (.loop [(3,oi),(5,oi)] (rg [3,3,5,5,29,53]) (nd (.node (.node (.draw (sts [0,1,2,3,4,5,6,7,8,9] .fin)) .nil) .nil)))) .nil)) .nil)) .nil)))) .nil))) h (by kernel_rfl) (by kernel_rfl)
theorem c132{w:World}{t:Sl}{xs:List Int}(ho:OwS w t 1 (xs.map iv))(hl:xs.length<=1000000):Cw 132 #[slV t] w fun v w'=>∃t',v=slV t'/\OwS w' t' 1 ((compactL xs).map iv)/\t'.p=t.p/\Ch (fun i=>i∈blk t) w w':=by
 have hn:=owsI ho
 have hcap:=ho.cap
 refine F132_ok t w _ (IfB.dec (fun h2=>?_) fun h2=>?_)
 ·have:compactL xs=xs:=by
   match xs,hn with
   | [],_=>rfl
   | [x],_=>rfl
   | x::y::l,hn=>simp at hn;omega
  exact⟨t,rfl,by rw[this];exact ho,rfl,Ch.refl _ _⟩
 ·have hx2:2<=xs.length:=by omega
  obtain⟨b,hp⟩:=ho.ptr (by omega)
  have hbk:blk t=[b]:=by simp[blk,hp]
  have last_take:∀ {m:Nat}{x:Int},xs[m]? =some x->(xs.take (m+1)).getLast?=some x:=fun h=>by rw[take_succ_get h,List.getLast?_append];rfl
  have step:∀ {m:Nat}{x y:Int},xs[m]? =some x->xs[m+1]? =some y->compactL (xs.take (m+2))=compactL (xs.take (m+1))++if x=y then [] else [y]:=fun hx hy=>by
   rw[take_succ_get hy,compactL_append,last_take hx]
   simp
  refine⟨fun n x W=>∃k:Nat,x=(k:Int)/\1<=k/\n+k=xs.length/\compactL (xs.take k)=xs.take k/\Ext w W,⟨xs.length-1,1,rfl,by omega,by omega,?_,Ch.refl _ _⟩,?_⟩
  ·match xs,hx2 with
   | x::y::l,_=>rfl
  ·rintro n _ W g ⟨k,rfl,hk1,hnk,hcp,eW⟩
   unfold F132j1
   refine IfB.dec (fun hlt=>?_) fun hge=>?_
   ·have hk:k<xs.length:=by omega
    obtain⟨m,rfl⟩:∃m,k=m+1:=⟨k-1,by omega⟩
    have hy:xs[m+1]? =some xs[m+1]:=List.getElem?_eq_getElem hk
    have hx:xs[m]? =some (xs[m]'(by omega)):=List.getElem?_eq_getElem _
    generalize xs[m+1]=y at hy
    generalize xs[m]'(by omega)=x at hx
    have hst:=step hx hy
    have ed:=extDrew W
    have eW':=eW.trans ed
    obtain⟨a,ha,hcy⟩:=owsI_get (ho.ext eW') hy
    obtain⟨a',ha',hcx⟩:=owsI_get (ho.ext eW') hx
    rw[hp] at ha ha';cases ha;cases ha'
    have hm1:IntKind.i64.wrap (((m+1:Nat):Int)-(1:Int))=(m:Int):=by rw[wrap_of (by omega) (by omega)];omega
    rw[hm1]
    refine⟨b,0,hp,⟨by omega,hlt⟩,y,by rw[Int.toNat_natCast];exact hcy,b,0,hp,⟨by omega,by omega⟩,x,by rw[Int.toNat_natCast];exact hcx,IfB.intro (fun he=>?_) fun he=>?_⟩
    ·have he:y=x:=by simpa using he
     subst he
     rw[if_pos rfl,List.append_nil,hcp] at hst
     refine⟨⟨by omega,by omega⟩,?_⟩
     refine⟨fun n' x' W'=>∃(j:Nat)(gs:List Int),1<=j/\n'+(m+1+j)=xs.length/\(compactL (xs.take (m+1+j))).length+gs.length=m+j/\x'=(((compactL (xs.take (m+1+j))).length:Int),(j:Int))/\OwS W' t 1 ((compactL (xs.take (m+1+j))++gs++xs.drop (m+j)).map iv)/\Ch (fun i=>i∈blk t) w W',
      ⟨xs.length-(m+2),1,[],by omega,by omega,?_,?_,?_,eW'.mono fun _ _ h=>h.elim⟩,?_⟩
     ·rw[hst,List.length_take];simp;omega
     ·rw[hst,List.length_take,Nat.min_eq_left (by omega)];rfl
     ·rw[hst,List.append_nil,List.take_append_drop];exact ho.ext eW'
     ·rintro n' _ W' g' ⟨j,gs,hj1,hnj,hlen,rfl,hO,hC⟩
      generalize hkd:compactL (xs.take (m+1+j))=kd at hlen hO
      have hsa:slAddr t.p t.c (((m+1:Nat):Int)).toNat 1=some ⟨b,m+1,none⟩:=by
       rw[Int.toNat_natCast,hp,slAddr_some,if_neg (by omega)];simp
      unfold F132j2
      refine IfB.dec (fun hlt'=>?_) fun hge'=>?_
      ·rw[Int.toNat_natCast] at hlt'
       have hlt'':m+1+j<xs.length:=by dsimp only at hlt';omega
       have hz:xs[m+1+j]? =some xs[m+1+j]:=List.getElem?_eq_getElem hlt''
       have hv:xs[m+j]? =some (xs[m+j]'(by omega)):=List.getElem?_eq_getElem _
       have hd1:xs.drop (m+j)=xs[m+j]'(by omega)::xs.drop (m+1+j):=by rw[show m+1+j=m+j+1 by omega];exact List.drop_eq_getElem_cons _
       have hd2:xs.drop (m+1+j)=xs[m+1+j]::xs.drop (m+1+(j+1)):=by rw[show m+1+(j+1)=m+1+j+1 by omega];exact List.drop_eq_getElem_cons _
       generalize xs[m+1+j]=z at hz hd2
       generalize xs[m+j]'(by omega)=v at hv hd1
       have hst2:compactL (xs.take (m+1+(j+1)))=kd++if v=z then [] else [z]:=by
        have:=step (m:=m+j) hv (by rw[show m+j+1=m+1+j by omega];exact hz)
        rw[show m+j+2=m+1+(j+1) by omega,show m+j+1=m+1+j by omega,hkd] at this
        exact this
       have hLz:(kd++gs++xs.drop (m+j))[m+1+j]? =some z:=by
        rw[List.getElem?_append_right (by rw[List.length_append];omega),List.length_append,show m+1+j-(kd.length+gs.length)=1 by omega,hd1,hd2];rfl
       have hLv:(kd++gs++xs.drop (m+j))[m+j]? =some v:=by
        rw[List.getElem?_append_right (by rw[List.length_append];omega),List.length_append,show m+j-(kd.length+gs.length)=0 by omega,hd1];rfl
       have ed':=extDrew W'
       have hOd:=hO.ext ed'
       obtain⟨a,ha,hcz⟩:=owsI_get hOd hLz
       obtain⟨a',ha',hcv⟩:=owsI_get hOd hLv
       rw[hp] at ha ha';cases ha;cases ha'
       have hj1':IntKind.i64.wrap ((j:Int)-(1:Int))=((j-1:Nat):Int):=wm1 (by omega) (by omega)
       have hL:(kd++gs++xs.drop (m+j)).length=xs.length:=by rw[List.length_append,List.length_append,List.length_drop];omega
       dsimp only
       rw[hj1',hsa]
       simp only[Int.toNat_natCast]
       have hzc:W'.drew.cell? ⟨b,m+1+j,none⟩=some (iv z):=by rw[Nat.zero_add] at hcz;exact hcz
       have hvc:W'.drew.cell? ⟨b,m+1+(j-1),none⟩=some (iv v):=by rw[Nat.zero_add] at hcv;rw[show m+1+(j-1)=m+j by omega];exact hcv
       refine⟨b,m+1,rfl,⟨by omega,by omega⟩,z,hzc,b,m+1,rfl,⟨by omega,by omega⟩,v,hvc,IfB.intro (fun hne=>?_) fun heq=>?_⟩
       ·have hne:z≠v:=by simpa using hne
        rw[if_neg (fun h=>hne h.symm)] at hst2
        refine⟨b,m+1,rfl,⟨by omega,by omega⟩,z,hzc,b,0,hp,⟨by omega,by show (kd.length:Int)<(t.n:Int);omega⟩,rfl,?_⟩
        rw[Nat.zero_add]
        refine hOd.store hp (by show _+1<=_;omega) (oneIv z) fun w32 hO32 hC32=>⟨(by trivial),n'-1,by omega,j+1,(gs++[v]).tail,by omega,by omega,?_,?_,?_,(hC.then ed' fun _ _ h=>h.elim).then hC32 fun i _ e=>by rw[hbk,e];simp⟩
        ·rw[hst2];simp;omega
        ·rw[hst2,wp1 (by omega),wp1 (by omega)];simp
        ·rw[show ([iv z]).length=1 from rfl,setI (by omega)] at hO32
         rw[hst2]
         have:(kd++gs++xs.drop (m+j)).set kd.length z=kd++[z]++(gs++[v]).tail++xs.drop (m+(j+1)):=by
          rw[hd1,show m+(j+1)=m+1+j by omega]
          cases gs with
          | nil=>simp
          | cons g0 gs=>simp
         rw[<-this];exact hO32
       ·have heq:z=v:=by simpa using heq
        subst heq
        rw[if_pos rfl,List.append_nil] at hst2
        refine⟨(by trivial),n'-1,by omega,j+1,gs++[z],by omega,by omega,by rw[hst2];simp;omega,?_,?_,hC.then ed' fun _ _ h=>h.elim⟩
        ·rw[hst2,wp1 (by omega)]
        ·rw[hst2]
         rw[hd1] at hOd
         rw[show m+(j+1)=m+1+j by omega]
         simpa using hOd
      ·rw[Int.toNat_natCast] at hge'
       dsimp only at hge'
       have hjn:m+1+j=xs.length:=by omega
       rw[hjn,List.take_length] at hkd
       have hkl:kd.length<t.n:=by omega
       refine⟨⟨by dsimp only;omega,by show (kd.length:Int)<=(t.n:Int);omega⟩,?_⟩
       dsimp only
       rw[Int.toNat_natCast,hp,slAddr_some]
       have hcut:=hO.cut (k:=kd.length) (by omega)
       rw[Nat.mul_one,<-List.map_take,List.append_assoc,List.take_append_of_le_length (Nat.le_refl _),List.take_length] at hcut
       dsimp only
       rw[if_neg (by omega),Nat.zero_add,Nat.mul_one]
       refine hcut.storeTail hp (by dsimp only;omega) (by rw[zc_len];show kd.length+(t.n-kd.length)*1<=t.c*1;omega) (zc_one (by intro x hx;simp at hx;subst hx;rfl) _) fun w25 hO25 hC25=>⟨⟨by omega,by omega⟩,?_⟩
       rw[<-hp,slAddr_zero]
       exact⟨⟨t.p,kd.length,t.c⟩,rfl,by rw[hkd];exact hO25,rfl,hC.then hC25 fun i _ e=>by rw[hbk,e];simp⟩
    ·have hne:x≠y:=by intro h;subst h;simp at he
     rw[if_neg hne] at hst
     refine⟨rfl,n-1,by omega,m+2,wp1 (by omega),by omega,by omega,?_,eW'⟩
     rw[hst,hcp,take_succ_get hy]
   ·have:k=xs.length:=by omega
    subst this
    rw[List.take_length] at hcp
    exact⟨t,rfl,by rw[hcp];exact ho.ext eW,rfl,eW.mono fun _ _ h=>h.elim⟩
structure SgL(hs:List Nd)(l:List Int):Prop where
 srt:l.Pairwise (· < ·)
 mem:∀k,k∈l↔∃n∈hs,n.v.1=k
theorem c168{w:World}{t:Sl}{hs:List Nd}(hH:Hst w t hs):
  Cw 168 #[slV t] w fun v w'=>∃t',∃l:List Int,v=slV t'/\SgL hs l/\l.length<=hs.length/\OwS w' t' 1 (l.map iv)/\Ext w w'/\∀j∈blk t',w.heap.size<=j:=by
 have htn:=hH.n
 have hlen:=hH.len
 refine F168_ok t w _ ⟨fun m x W=>∃(i:Nat)(so:Sl),i<=hs.length/\m+i=hs.length/\x=(so,(i:Int))/\OwS W so 1 (((hs.take i).map fun n=>n.v.1).map iv)/\Ext w W/\∀j∈blk so,w.heap.size<=j,⟨hs.length,0,⟨none,0,0⟩,Nat.zero_le _,rfl,rfl,.nil _ _,Ch.refl _ _,by simp[blk]⟩,?_⟩
 rintro m _ W g ⟨i,so,hi,hmi,rfl,hO,hE,hb⟩
 have hon:=hO.len1
 rw[List.length_map,List.length_map,List.length_take,Nat.min_eq_left hi] at hon
 unfold F168j1
 refine IfB.dec (fun hlt=>?_) fun hge=>?_
 ·have hi':i<hs.length:=by dsimp only at hlt;omega
  have hx:hs[i]? =some hs[i]:=List.getElem?_eq_getElem hi'
  have htk:=take_succ_get hx
  generalize hs[i]=n at hx htk
  obtain⟨a,o,hp,hc⟩:=(hH.ext hE).at hx
  refine⟨a,o,hp,(⟨by omega,by omega⟩:(0:Int)<=(i:Int)/\(i:Int)<(t.n:Int)),n.v,by rw[Int.toNat_natCast];exact hc,boxNd rfl fun b11 w13 hb11 hs13 h13 e13 _=>⟨n.v.1,by rw[cell_of h13];rfl,by decide,fun b15 w16 a16=>?_⟩⟩
  have e16:Ext W w16:=e13.trans (a16.ch _)
  refine(hO.ext e16).lit (new:=[iv n.v.1]) (T':=3) a16.new rfl (oneIv _) rfl rfl (by omega) (by decide) fun s' w' ho' hn' hC' hbk=>⟨rfl,m-1,by omega,i+1,s',hi',by omega,by rw[wrap_of (by omega) (by omega)];rfl,?_,(hE.trans e16).chN hC' hb,fun j hj=>?_⟩
  ·rw[htk,List.map_append,List.map_append];exact ho'
  ·rcases hbk j hj with h|h
   ·exact hb j h
   ·have:=hE.size;have:=e16.size;omega
 ·have hi':i=hs.length:=by dsimp only at hge;omega
  subst hi'
  rw[List.take_length] at hO
  refine(c179 hO (by rw[List.length_map];exact hlen)).use ?_
  rintro _ w22 ⟨rfl,xs,hp,hs',hO22,hC22⟩
  have hxl:xs.length=hs.length:=by rw[hp.length_eq,List.length_map]
  refine⟨(),rfl,(c132 hO22 (by omega)).use ?_⟩
  rintro _ w25 ⟨s26,rfl,hO25,hp25,hC25⟩
  have hcl:=compactL_len xs
  refine⟨s26,rfl,s26,compactL xs,rfl,⟨compactL_sorted hs',fun k=>?_⟩,by omega,hO25,(hE.chN hC22 hb).chN hC25 hb,fun j hj=>hb j (by unfold blk at hj ⊢;rw[hp25] at hj;exact hj)⟩
  rw[compactL_mem,hp.mem_iff,List.mem_map]
theorem c217{w:World}{t:Sl}{xs:List (Int×Int)}{t1:Nat×Array Value}{q:Int×Int->Bool}(h:Rd w t 2 (xs.flatMap sv))(hl:xs.length<=1000000)
  (hq:∀(x:Int×Int)(W:World),x∈xs->Ext w W->∀R':RV,(∀w',Ext W w'->R' (.bool (q x)) w')->Cx t1.1 { toList:=prV x::t1.2.toList } W R'):
  Cw 217 #[slV t,.func (.func t1.1) #[] t1.2] w fun v w'=>v=iv (idxV (xs.findIdx? q))/\Ext w w':=by
 refine F217_ok t t1 w _ ?_
 have hn:=rdN sv_len (by omega) h
 have e:F217 t t1 w (fun v w'=>v=iv (idxV (xs.findIdx? q))/\Ext w w')=IndexF Tryz.prog (fun W b o i (x:Int×Int)=>CellsAt W b (o+i*2) [.int .i64 x.1,.int .i64 x.2]) prV t t1 w (fun v w'=>v=iv (idxV (xs.findIdx? q))/\Ext w w'):=rfl
 rw[e]
 refine IndexF_of xs id q hn (by omega) (fun i x W hx e=>?_) (fun i x W hx e R' hR=>hq x W (List.mem_of_getElem? hx) e R' hR) fun w' e=>⟨rfl,e⟩
 obtain⟨hi,_⟩:=List.getElem?_eq_some_iff.1 hx
 obtain⟨b,o,hp,hc⟩:=(h.ext e).elem (i:=i) (by omega) (by omega) (flatGet sv_len hx)
 exact⟨b,o,hp,hc⟩
theorem c170{w:World}{t:Sl}{xs:List (Int×Int)}{t1:Nat×Array Value}{q:Int×Int->Bool}(h:Rd w t 2 (xs.flatMap sv))(hl:xs.length<=1000000)
  (hq:∀(x:Int×Int)(W:World),x∈xs->Ext w W->∀R':RV,(∀w',Ext W w'->R' (.bool (q x)) w')->Cx t1.1 { toList:=prV x::t1.2.toList } W R'):
  Cw 170 #[slV t,.func (.func t1.1) #[] t1.2] w fun v w'=>v=.bool (xs.any q)/\Ext w w':=by
 refine F170_ok t t1 w _ ((c217 h hl hq).use ?_)
 rintro _ w2 ⟨rfl,e2⟩
 refine⟨_,rfl,?_,e2⟩
 congr 1
 cases hf:xs.findIdx? q with
 | none=>
  have:=List.findIdx?_eq_none_iff.1 hf
  rw[show xs.any q=false from by rw[List.any_eq_false];intro x hx;rw[this x hx];simp]
  simp[idxV]
 | some i=>
  obtain⟨hi,hqi,_⟩:=List.findIdx?_eq_some_iff_getElem.1 hf
  rw[show xs.any q=true from List.any_eq_true.2 ⟨_,List.getElem_mem hi,hqi⟩]
  simp[idxV]
def waitB(left:List Int)(s:Int)(p:Int×Int):Bool:=p.2 == s&&decide (p.1∈left)
theorem c169{w:World}{b1 b2:Nat}{tl:Sl}{left:List Int}{s:Int}(p:Int×Int)(h1:∃T,w.heap[b1]? =some (.cells #[iv s] T (0,0)))(h2:∃T,w.heap[b2]? =some (.cells #[slV tl] T (0,0)))(hr:Rd w tl 1 (left.map iv))(hl:left.length<=1000000):
  Cw 169 #[prV p,.pointer (some ⟨b1,0,none⟩),.pointer (some ⟨b2,0,none⟩)] w fun v w'=>v=.bool (waitB left s p)/\Ext w w':=by
 obtain⟨T1,h1⟩:=h1
 obtain⟨T2,h2⟩:=h2
 refine F169_ok p b1 b2 w _ fun b w2 a2=>?_
 have e2:Ext w w2:=a2.ch _
 refine⟨by omega,p.2,by rw[cell_of a2.new];rfl,s,by rw[cell_of (e2.at h1)];rfl,IfB.intro (fun he=>⟨tl,by rw[cell_of (e2.at h2)];rfl,by omega,p.1,by rw[cell_of a2.new];rfl,(c107 (hr.ext e2) hl p.1).use ?_⟩) fun hne=>⟨?_,e2⟩⟩
 ·rintro _ _ ⟨rfl,rfl⟩
  refine⟨_,rfl,?_,e2⟩
  unfold waitB;rw[he];rfl
 ·unfold waitB;rw[hne];rfl
def F114j2(R:RV)(s6:Sl)(b7:Nat)(y10:Nat->Sl->World->Prop)(b12:Nat)(s18:Sl)(y19:Nat->Sl×Int->World->Prop)(b21:Nat)(x22:Sl×Int)(w23:World):Prop:=IfB (decide (x22.snd<(s18.n:Int))) (Qx s18.1 x22.2 (s18.2:Int) fun b26 b27=>Qi w23 b26 (b27+x22.2.toNat) fun n28=>AllocP w23 (Obj.cells #[Qz 0] 3) fun b29 w30=>#[Qz n28].size=1/\StoreP w30 b29 0 [Qz n28] fun w31=>Qv' 170 #[Qy s6,Value.func (Fn.func 169) #[] #[Value.pointer (some ⟨b29,0,none⟩),Value.pointer (some ⟨b7,0,none⟩)]] w31 fun t34 w33=>IfB t34 (Qn y19 b21 ({ p:=x22.fst.1,n:=x22.fst.2,c:=x22.fst.3 },IntKind.i64.wrap (x22.2+1)) w33) (Qi w33 b29 0 fun n36=>1*1<=16777216/\AllocP w33 (Obj.cells #[Qz n36] 3) fun b37 w38=>∃(l39:List Value),ReadC w38 (some ⟨b37,0,none⟩) (1*1) l39/\AppendP tt3 3 w38 x22.fst.1 x22.fst.2 x22.fst.3 1 l39 fun s40 w41=>Qs w41 b7 0 fun s42=>Qu' 111 #[Qy s42] w41 fun s45 w44=>Qu' 171 #[Qy s45,Qz x22.2,Qz (IntKind.i64.wrap (x22.2+1))] w44 fun s48 w47=>#[Qy s48].size=1/\StoreP w47 b7 0 [Qy s48] fun w49=>Qn y10 b12 { p:=s40.1,n:=s40.2,c:=s40.3 } w49)) (R (Value.tuple #[Value.slice none 0 0,Value.bool false]) w23)
def F114j1(R:RV)(s6:Sl)(b7:Nat)(y10:Nat->Sl->World->Prop)(b12:Nat)(s13:Sl)(w14:World):Prop:=Qs w14 b7 0 fun s17=>IfB (decide (0<(s17.n:Int))) (Qs w14 b7 0 fun s18=>Ql (α:=Sl×Int) ({ p:=s13.1,n:=s13.2,c:=s13.3 },0) w14 fun y19 b21 x22 w23=>(F114j2 R s6 b7 y10 b12 s18 y19 b21 x22 w23)) (R (Value.tuple #[Qy s13,Value.bool true]) w14)
theorem F114_ok(t0:Sl)(w:World)(R:RV)(h:Cx 168 #[Qy t0] w fun v1 w2=>∃s3:Sl,v1=Qy s3/\Qu' 113 #[Qy t0] w2 fun s6 w5=>AllocP w5 (Obj.cells #[Value.slice none 0 0] 30) fun b7 w8=>#[Qy s3].size=1/\StoreP w8 b7 0 [Qy s3] fun w9=>Ql (α:=Sl) ({ p:=none,n:=0,c:=0 }) w9 fun y10 b12 s13 w14=>(F114j1 R s6 b7 y10 b12 s13 w14)):Cw 114 #[Qy t0] w R:=
 ckF Tryz.func114 (nd (nd (nd (nd (.node (.loop [(6,.one (.sl))] (rg [2,3,6,9,14,38]) (nd (.node (nd (.loop [(6,.one (.sl)),(19,oi)] (rg [6,9,19,38]) .nil)) .nil))) .nil))))) h (by kernel_rfl) (by kernel_rfl)
theorem c171{w:World}{t:Sl}{xs:List Int}{i:Nat}(h:OwS w t 1 (xs.map iv))(hi:i<xs.length)(hl:xs.length<=1000000):
  Cw 171 #[slV t,iv (i:Int),iv ((i+1:Nat):Int)] w fun v w'=>∃t',v=slV t'/\OwS w' t' 1 ((xs.eraseIdx i).map iv)/\t'.p=t.p/\Ch (fun j=>j∈blk t) w w':=by
 have hn:=owsI h
 refine F171_ok t (i:Int) ((i+1:Nat):Int) w _ ?_
 have e:∀R,F171 t (i:Int) ((i+1:Nat):Int) w R=DelF tt3 3 1 t (i:Int) ((i+1:Nat):Int) w R:=fun R=>rfl
 rw[e]
 refine DelF_of h rfl rfl (fun v hv=>by obtain⟨x,_,rfl⟩:=List.mem_map.1 hv;rfl) (by intro y hy;simp[Value.cells] at hy;subst hy;rfl) (by omega) (by omega) ⟨by omega,?_⟩ fun s' w' h1 h2 h3 h4=>⟨s',rfl,?_,h4,h3⟩
 ·show 2*t.n*8<=_
  omega
 ·rw[Nat.mul_one,Nat.mul_one] at h1
  rw[List.eraseIdx_eq_take_drop_succ,List.map_append,List.map_take,List.map_drop]
  exact h1
def freeB(ah:List (Int×Int))(left:List Int)(s:Int):Bool:= !(ah.any (waitB left s))
def ordGo(ah:List (Int×Int)):Nat->List Int->List Int->List Int×Bool
 | 0,_,out=>(out,true)
 | n+1,left,out=>match left.findIdx? (freeB ah left) with
  | none=>([],false)
  | some i=>ordGo ah n (left.eraseIdx i) (out++[left.getD i 0])
theorem c114{w:World}{t:Sl}{hs:List Nd}(hH:Hst w t hs)(hl:hs.length<=1000)(hq:SgR hs):
  Cw 114 #[slV t] w fun v w'=>∃t',∃l:List Int,∃ah:List (Int×Int),SgL hs l/\l.length<=hs.length/\(∀p,p∈ah↔AhP hs p)/\v=.tuple #[slV t',.bool (ordGo ah l.length l []).2]/\OwS w' t' 1 ((ordGo ah l.length l []).1.map iv)/\Ext w w'/\∀j∈blk t',w.heap.size<=j:=by
 refine F114_ok t w _ ((c168 hH).use ?_)
 rintro _ w2 ⟨s3,l,rfl,hSg,hll,ho3,e2,hb3⟩
 refine⟨s3,rfl,(c113 (hH.ext e2) hl hq).use ?_⟩
 rintro _ w5 ⟨s6,ah,rfl,_,hah,hal,ho6,e5,hb6⟩
 refine⟨s6,rfl,fun b7 w8 a8=>⟨rfl,store_one a8.new (by simp) rfl fun w9 u9=>?_⟩⟩
 have z2:=e2.size;have z5:=e5.size;have p8:=a8.here;have z8:=a8.size;have z9:=u9.size
 have x9:Ext w w9:=((e2.trans e5).trans (a8.ch _)).chN u9.ch fun j e=>by omega
 have y9:Ext w5 w9:=Ch.chN (a8.ch _) u9.ch fun j e=>by omega
 have hb6l:=ho6.lt
 have hb3l:=ho3.lt
 refine⟨fun m so W=>∃(left out:List Int)(tl:Sl),m=left.length/\out.length+left.length=l.length/\OwS W so 1 (out.map iv)/\W.heap[b7]? =some (.cells #[slV tl] 30 (0,0))/\OwS W tl 1 (left.map iv)/\ordGo ah left.length left out=ordGo ah l.length l []/\(Ext w W/\w9.heap.size<=W.heap.size)/\Rd W s6 2 (ah.flatMap sv)/\(∀j∈blk so,w9.heap.size<=j/\j∉blk tl)/\(∀j∈blk tl,w.heap.size<=j/\j≠b7),
  ⟨l.length,l,[],s3,rfl,by simp,.nil _ _,u9.new,(ho3.ext e5).ext y9,rfl,⟨x9,Nat.le_refl _⟩,(ho6.ext y9).rd,by simp[blk],fun j hj=>⟨hb3 j hj,by have:=hb3l j hj;omega⟩⟩,?_⟩
 rintro m so W g ⟨left,out,tl,rfl,hlen,hO,h7,hT,hgo,⟨hE,hz9⟩,hR6,hbo,hbt⟩
 have htn:=owsI hT
 have hon:=owsI hO
 unfold F114j1
 refine⟨tl,by rw[cell_of h7];rfl,IfB.dec (fun h0=>?_) fun h0=>?_⟩
 ·have h0':0<left.length:=by omega
  obtain⟨n',hn'⟩:∃n',left.length=n'+1:=⟨left.length-1,by omega⟩
  refine⟨tl,by rw[cell_of h7];rfl,fun q x W'=>∃i:Nat,i<=left.length/\q+i=left.length/\x=(so,(i:Int))/\Ext W W'/\∀j<i,∀s,left[j]? =some s->freeB ah left s=false,⟨left.length,0,Nat.zero_le _,rfl,rfl,Ch.refl _ _,fun j hj=>by omega⟩,?_⟩
  rintro q _ w23 g ⟨i,hi,hqi,rfl,e23,hno⟩
  unfold F114j2
  refine IfB.dec (fun hlt=>?_) fun hge=>?_
  ·have hi':i<left.length:=by dsimp only at hlt;omega
   have hx:left[i]? =some left[i]:=List.getElem?_eq_getElem hi'
   have hgd:left.getD i 0=left[i]:=by rw[List.getD_eq_getElem?_getD,hx];rfl
   generalize left[i]=s at hx hgd
   obtain⟨a,ha,hc⟩:=(hT.ext e23).elem1 (i:=i) (v:=iv s) (by rw[List.getElem?_map,hx];rfl)
   refine⟨a,0,ha,(⟨by omega,by omega⟩:(0:Int)<=(i:Int)/\(i:Int)<(tl.n:Int)),s,by dsimp only;rw[Int.toNat_natCast,Nat.zero_add];exact hc,fun b29 w30 a30=>⟨rfl,store_one a30.new (by simp) rfl fun w31 u31=>?_⟩⟩
   have p30:=a30.here;have z30:=a30.size;have z31:=u31.size
   have e31:Ext W w31:=(e23.trans (a30.ch _)).chN u31.ch fun j e=>by have:=e23.size;omega
   have H7:=e31.at h7
   refine(c170 (t1:=(169,#[.pointer (some ⟨b29,0,none⟩),.pointer (some ⟨b7,0,none⟩)])) (q:=waitB left s) (hR6.ext e31) hal fun x W' _ e' R' hR'=>(c169 x ⟨_,e'.at u31.new⟩ ⟨_,e'.at H7⟩ ((hT.ext e31).ext e').rd (by omega)).use fun v w' ⟨hv,e''⟩=>hv ▸ hR' w' e'').use ?_
   rintro _ w33 ⟨rfl,e33⟩
   have e2333:Ext w23 w33:=(Ch.chN (a30.ch _) u31.ch fun j e=>by omega).trans e33
   have w1:IntKind.i64.wrap ((i:Int)+1)=((i+1:Nat):Int):=by rw[wrap_of (by omega) (by omega)];rfl
   refine⟨_,rfl,IfB.intro (fun hany=>⟨rfl,q-1,by omega,i+1,hi',by omega,by rw[w1],e23.trans e2333,fun j hj s' hs'=>?_⟩) fun hany=>?_⟩
   ·by_cases hji:j=i
    ·subst hji
     rw[hx] at hs';cases hs'
     unfold freeB;rw[hany];rfl
    ·exact hno j (by omega) s' hs'
   ·have hfree:freeB ah left s=true:=by unfold freeB;rw[hany];rfl
    have hfi:left.findIdx? (freeB ah left)=some i:=by
     rw[List.findIdx?_eq_some_iff_getElem]
     refine⟨hi',?_,fun j hj=>?_⟩
     ·rw[List.getElem?_eq_getElem hi'] at hx
      rw[Option.some.inj hx];exact hfree
     ·have:=hno j hj _ (List.getElem?_eq_getElem (by omega))
      simp[this]
    have E33:Ext W w33:=e23.trans e2333
    have X33:Ext w w33:=hE.trans E33
    refine⟨s,by rw[cell_of (e33.at u31.new)];rfl,by decide,fun b37 w38 a38=>?_⟩
    have E38:Ext W w38:=E33.trans (a38.ch _)
    have zW:=E38.size
    refine(hO.ext E38).lit (new:=[iv s]) (T':=3) a38.new rfl (oneIv s) rfl rfl (by omega) (by decide) fun s40 w41 ho41 hn41 hC41 hb41=>?_
    have zE:=hE.size;have z41:=hC41.size
    have x9s:=x9.size
    have out41:∀j∈blk s40,w9.heap.size<=j:=fun j hj=>by
     rcases hb41 j hj with h|h
     ·exact(hbo j h).1
     ·omega
    have X41:Ext w w41:=(hE.trans E38).chN hC41 fun j hj=>by have:=(hbo j hj).1;omega
    have T41:OwS w41 tl 1 (left.map iv):=(hT.ext E38).ch hC41 fun j hj h=>(hbo j h).2 hj
    have H741:=hC41.at (E38.at h7) fun h=>by have:=(hbo b7 h).1;omega
    refine⟨tl,by rw[cell_of H741];rfl,(c111 T41.rd (by omega)).use ?_⟩
    rintro _ w44 ⟨s45,rfl,ho45,e44,hb45⟩
    dsimp only
    rw[w1]
    refine⟨s45,rfl,(c171 ho45 hi' (by omega)).use ?_⟩
    rintro _ w47 ⟨s48,rfl,ho48,hp48,hC48⟩
    have hb48:∀j∈blk s48,w41.heap.size<=j:=fun j hj=>hb45 j (by unfold blk at hj ⊢;rw[hp48] at hj;exact hj)
    have z44:=e44.size;have z48:=hC48.size
    have e47:Ext w41 w47:=e44.chN hC48 fun j hj=>hb45 j hj
    have hb7l:=heap_lt H741
    refine⟨s48,rfl,rfl,store_one (e47.at H741) (by simp) rfl fun w49 u49=>⟨rfl,n',by omega,left.eraseIdx i,out++[s],s48,?_,?_,?_,u49.new,?_,?_,?_,?_,fun j hj=>⟨out41 j hj,fun h=>by have:=hb48 j h;have:=ho41.lt j hj;omega⟩,fun j hj=>⟨by have:=hb48 j hj;have:=X41.size;omega,by have:=hb48 j hj;omega⟩⟩⟩
    ·rw[List.length_eraseIdx,if_pos hi'];omega
    ·rw[List.length_eraseIdx,if_pos hi',List.length_append,List.length_singleton];omega
    ·rw[List.map_append]
     exact(ho41.ext e47).ch u49.ch fun j hj e=>by have:=out41 j hj;omega
    ·exact ho48.ch u49.ch fun j hj e=>by have:=hb48 j hj;omega
    ·rw[<-hgo,hn']
     show ordGo ah (left.eraseIdx i).length _ _=match left.findIdx? (freeB ah left) with
      | none=>([],false)
      | some i=>ordGo ah n' (left.eraseIdx i) (out++[left.getD i 0])
     rw[hfi]
     dsimp only
     rw[hgd,List.length_eraseIdx,if_pos hi',hn'];rfl
    ·exact⟨(X41.trans e47).chN u49.ch fun j e=>by omega,by have:=u49.size;omega⟩
    ·refine(((hR6.ext E38).ch0 hC41 fun h0 j hj h=>?_).ext e47).ch0 u49.ch fun h0 j hj e=>?_
     ·have:=(hbo j h).1;have:=hb6l j hj;omega
     ·have:=hb6l j hj;omega
  ·have hi':i=left.length:=by dsimp only at hge;omega
   subst hi'
   have hnone:left.findIdx? (freeB ah left)=none:=List.findIdx?_eq_none_iff.2 fun s hs=>by
    obtain⟨j,hj,rfl⟩:=List.getElem_of_mem hs
    exact hno j hj _ (List.getElem?_eq_getElem hj)
   have hres:ordGo ah l.length l []=([],false):=by
    rw[<-hgo,hn']
    show (match left.findIdx? (freeB ah left) with
      | none=>([],false)
      | some i=>ordGo ah n' (left.eraseIdx i) (out++[left.getD i 0]))=_
    rw[hnone]
   exact⟨⟨none,0,0⟩,l,ah,hSg,hll,hah,by rw[hres],by rw[hres];exact .nil _ _,hE.trans e23,by simp[blk]⟩
 ·have h0':left=[]:=List.length_eq_zero_iff.1 (by omega)
  subst h0'
  have hres:ordGo ah l.length l []=(out,true):=by rw[<-hgo];rfl
  exact⟨so,l,ah,hSg,hll,hah,by rw[hres],by rw[hres];exact hO,hE,fun j hj=>by have:=(hbo j hj).1;have:=x9.size;omega⟩
theorem c51{w:World}{t:Sl}{hs:List Nd}(hH:Hst w t hs)(hl:hs.length<=1000)(hq:SgR hs):
  Cw 51 #[slV t] w fun v w'=>∃l:List Int,∃ah:List (Int×Int),SgL hs l/\(∀p,p∈ah↔AhP hs p)/\v=.bool (ordGo ah l.length l []).2/\Ext w w':=by
 refine F51_ok t w _ ((c114 hH hl hq).use ?_)
 rintro _ w2 ⟨t',l,ah,h1,_,h2,rfl,_,e2,_⟩
 exact⟨(t',_),rfl,l,ah,h1,h2,rfl,e2⟩
theorem freeB_iff{ah:List (Int×Int)}{left:List Int}{s:Int}:freeB ah left s=true↔¬ ∃a∈left,(a,s)∈ah:=by
 unfold freeB
 rw[Bool.not_eq_true',List.any_eq_false]
 constructor
 ·rintro h ⟨a,ha,hp⟩
  have:=h _ hp
  unfold waitB at this
  simp[ha] at this
 ·intro h p hp hw
  unfold waitB at hw
  simp only[Bool.and_eq_true,beq_iff_eq,decide_eq_true_eq] at hw
  exact h ⟨p.1,hw.2,by rw[<-hw.1];exact hp⟩
theorem freeB_no{ah:List (Int×Int)}{left:List Int}{s:Int}:freeB ah left s=false↔∃a∈left,(a,s)∈ah:=by
 rw[<-Bool.not_eq_true,freeB_iff]
 exact Classical.not_not
theorem SgL.uniq{hs:List Nd}{l m:List Int}(h:SgL hs l)(k:SgL hs m):l=m:=sorted_ext h.srt k.srt fun a=>(h.mem a).trans (k.mem a).symm
def exN(sa:Int)(s:Sl)(ws:List Spn):Nd:=⟨(sa,0,0,false,nilS,s),[],ws⟩
theorem ex_cnf{a b:Int}{s t:Sl}{x y:Spn}:cnfP (exN a s [x]) (exN b t [y])↔a≠b/\mtP [x] [y]:=by
 unfold cnfP exN
 constructor
 ·rintro⟨h,⟨k,_,⟨z,hz,_⟩⟩|h'|⟨k,⟨z,hz,_⟩,_⟩⟩
  ·cases hz
  ·exact⟨h,h'⟩
  ·cases hz
 ·exact fun h=>⟨h.1,.inr (.inl h.2)⟩
theorem mt55:mtP [(5,5)] [(5,5)]:=⟨5,⟨_,List.mem_singleton.2 rfl,by unfold mayS;omega,by omega,by omega⟩,⟨_,List.mem_singleton.2 rfl,by unfold mayS;omega,by omega,by omega⟩⟩
theorem mt66:mtP [(6,6)] [(6,6)]:=⟨6,⟨_,List.mem_singleton.2 rfl,by unfold mayS;omega,by omega,by omega⟩,⟨_,List.mem_singleton.2 rfl,by unfold mayS;omega,by omega,by omega⟩⟩
theorem mt56:¬mtP [(5,5)] [(6,6)]:=by
 rintro⟨k,h1,h2⟩
 rw[hasS_one] at h1 h2;omega
section
variable {p q:Sl}
def exH(p q:Sl):List Nd:=[exN 1 p [(5,5)],exN 2 p [(5,5)],exN 2 q [(6,6)],exN 1 q [(6,6)]]
theorem exAh(pr:Int×Int):AhP (exH p q) pr↔pr=(1,2)\/pr=(2,1):=by
 constructor
 ·rintro⟨k,j,a,b,hkj,ha,hb,rfl,hc⟩
  have hj:=(List.getElem?_eq_some_iff.1 hb).1
  have hj4:j<4:=hj
  match k,j,hkj,hj4,ha,hb with
  | 0,1,_,_,ha,hb=>cases ha;cases hb;exact .inl rfl
  | 0,2,_,_,ha,hb=>cases ha;cases hb;exact absurd (ex_cnf.1 hc).2 mt56
  | 0,3,_,_,ha,hb=>cases ha;cases hb;exact absurd rfl (ex_cnf.1 hc).1
  | 1,2,_,_,ha,hb=>cases ha;cases hb;exact absurd rfl (ex_cnf.1 hc).1
  | 1,3,_,_,ha,hb=>cases ha;cases hb;exact absurd (ex_cnf.1 hc).2 mt56
  | 2,3,_,_,ha,hb=>cases ha;cases hb;exact .inr rfl
  | k+3,j,h1,h2,_,_=>exact absurd h1 (by omega)
 ·rintro(rfl|rfl)
  ·exact⟨0,1,_,_,by omega,rfl,rfl,rfl,ex_cnf.2 ⟨by omega,mt55⟩⟩
  ·exact⟨2,3,_,_,by omega,rfl,rfl,rfl,ex_cnf.2 ⟨by omega,mt66⟩⟩
theorem exAh3(pr:Int×Int):AhP ((exH p q).take 3) pr↔pr=(1,2):=by
 constructor
 ·rintro⟨k,j,a,b,hkj,ha,hb,rfl,hc⟩
  have hj:=(List.getElem?_eq_some_iff.1 hb).1
  have hj4:j<3:=hj
  match k,j,hkj,hj4,ha,hb with
  | 0,1,_,_,ha,hb=>cases ha;cases hb;rfl
  | 0,2,_,_,ha,hb=>cases ha;cases hb;exact absurd (ex_cnf.1 hc).2 mt56
  | 1,2,_,_,ha,hb=>cases ha;cases hb;exact absurd rfl (ex_cnf.1 hc).1
  | k+2,j,h1,h2,_,_=>exact absurd h1 (by omega)
 ·rintro rfl
  exact⟨0,1,_,_,by omega,rfl,rfl,rfl,ex_cnf.2 ⟨by omega,mt55⟩⟩
theorem exSg:SgL (exH p q) [1,2]:=⟨by decide,fun k=>by simp[exH,exN];omega⟩
theorem exSg3:SgL ((exH p q).take 3) [1,2]:=⟨by decide,fun k=>by simp[exH,exN];omega⟩
theorem exR:SgR (exH p q):=fun n hn=>by
 simp only[exH,List.mem_cons,List.not_mem_nil,or_false] at hn
 rcases hn with rfl|rfl|rfl|rfl<;>simp[exN]
end
theorem c49(w:World):Cw 49 #[] w fun v w'=>v=.bool true/\Ext w w':=by
 refine F49_ok w _ ⟨by decide,fun b1 w2 a2=>⟨by decide,fun b3 w4 a4=>⟨by decide,fun b5 w6 a6=>?_⟩⟩⟩
 have e4:Ext w2 w4:=a4.ch _
 have e6:Ext w4 w6:=a6.ch _
 have E6:Ext w w6:=((a2.ch _).trans e4).trans e6
 have r5:Rd w6 ⟨some ⟨b1,0,none⟩,1,1⟩ 2 ([((5,5):Spn)].flatMap sv):=(((OwS.new (cs:=[((5,5):Spn)].flatMap sv) (n:=1) (sz:=2) a2 rfl).ext e4).ext e6).rd
 have r6:Rd w6 ⟨some ⟨b3,0,none⟩,1,1⟩ 2 ([((6,6):Spn)].flatMap sv):=((OwS.new (cs:=[((6,6):Spn)].flatMap sv) (n:=1) (sz:=2) a4 rfl).ext e6).rd
 have rn:Rd w6 nilS 2 (([]:List Spn).flatMap sv):=(OwS.nil w6 2).rd
 obtain⟨hs,hhs⟩:∃hs:List Nd,hs=exH ⟨some ⟨b1,0,none⟩,1,1⟩ ⟨some ⟨b3,0,none⟩,1,1⟩:=⟨_,rfl⟩
 have hH:Hst w6 ⟨some ⟨b5,0,none⟩,4,4⟩ hs:=by
  refine⟨?_,fun n hn=>?_,by rw[hhs];simp[exH],Nat.le_refl _⟩
  ·rw[hhs];exact(OwS.new (n:=4) (sz:=6) a6 rfl).rd
  ·rw[hhs] at hn
   simp only[exH,List.mem_cons,List.not_mem_nil,or_false] at hn
   rcases hn with rfl|rfl|rfl|rfl
   ·exact⟨rn,r5,by simp[exN],by simp[exN]⟩
   ·exact⟨rn,r5,by simp[exN],by simp[exN]⟩
   ·exact⟨rn,r6,by simp[exN],by simp[exN]⟩
   ·exact⟨rn,r6,by simp[exN],by simp[exN]⟩
 have hlen:hs.length=4:=by rw[hhs];rfl
 have hR:SgR hs:=by rw[hhs];exact exR
 refine(c113 hH (by omega) hR).use ?_
 rintro _ w8 ⟨s9,xs,rfl,hsrt,hmem,_,hO,e8,_⟩
 have hxs:xs.Perm [(1,2),(2,1)]:=by
  refine(List.perm_ext_iff_of_nodup ?_ (by decide)).2 fun p=>?_
  ·exact hsrt.imp fun h e=>by rw[e] at h;omega
  ·rw[hmem,hhs,exAh];simp
 have hn:=owsN sv_len (by omega) hO
 rw[hxs.length_eq] at hn
 have hn:s9.n=2:=hn
 refine⟨s9,rfl,IfB.yes (by simp[hn]) ((c51 (hH.ext e8) (by omega) hR).use ?_)⟩
 rintro _ w11 ⟨l,ah,hl,hah,rfl,e11⟩
 have hl12:l=[1,2]:=hl.uniq (by rw[hhs];exact exSg)
 have hno:(ordGo ah l.length l []).2=false:=by
  subst hl12
  have f1:freeB ah [1,2] 1=false:=freeB_no.2 ⟨2,by simp,(hah _).2 (by rw[hhs,exAh];simp)⟩
  have f2:freeB ah [1,2] 2=false:=freeB_no.2 ⟨1,by simp,(hah _).2 (by rw[hhs,exAh];simp)⟩
  show (ordGo ah 2 [1,2] []).2=false
  unfold ordGo
  rw[List.findIdx?_eq_none_iff.2 (by
   intro x hx
   simp only[List.mem_cons,List.not_mem_nil,or_false] at hx
   rcases hx with rfl|rfl
   ·exact f1
   ·exact f2)]
 rw[hno]
 refine⟨false,rfl,IfB.yes rfl ⟨⟨by omega,by omega⟩,?_⟩⟩
 rw[slAddr_zero]
 refine(c51 (t:=⟨some ⟨b5,0,none⟩,3,4⟩) (((hH.ext e8).ext e11).cut (k:=3) (by omega)) (by rw[List.length_take];omega) fun n hn=>hR n (List.mem_of_mem_take hn)).use ?_
 rintro _ w14 ⟨l',ah',hl',hah',rfl,e14⟩
 have hl12':l'=[1,2]:=hl'.uniq (by rw[hhs];exact exSg3)
 have hyes:(ordGo ah' l'.length l' []).2=true:=by
  subst hl12'
  have f1:freeB ah' [1,2] 1=true:=freeB_iff.2 fun⟨a,_,h⟩=>by
   have:=(hah' _).1 h
   rw[hhs,exAh3] at this
   simp at this
  have f2:freeB ah' [2] 2=true:=freeB_iff.2 fun⟨a,ha,h⟩=>by
   have:=(hah' _).1 h
   rw[hhs,exAh3] at this
   simp at ha this
   omega
  show (ordGo ah' 2 [1,2] []).2=true
  unfold ordGo
  rw[show [(1:Int),2].findIdx? (freeB ah' [1,2])=some 0 by rw[List.findIdx?_cons,f1];rfl]
  show (ordGo ah' 1 [2] _).2=true
  unfold ordGo
  rw[show [(2:Int)].findIdx? (freeB ah' [2])=some 0 by rw[List.findIdx?_cons,f2];rfl]
  rfl
 rw[hyes]
 exact⟨true,rfl,rfl,((E6.trans e8).trans e11).trans e14⟩
theorem eqArc(x y:ArcD):EqAt Tryz.prog 44 (.agg (aC x).toArray) (.agg (aC y).toArray) (x == y):=by
 have h:=eqAt_struct tbOk (d:=2) (by decide) (t:=44) (xs:=#[.int .i64 x.1,.int .i64 x.2.1,.int .i64 x.2.2]) (ys:=#[.int .i64 y.1,.int .i64 y.2.1,.int .i64 y.2.2]) (b:=(x.1 == y.1)&&((x.2.1 == y.2.1)&&((x.2.2 == y.2.2)&&true))) (by kernel_rfl) (by kernel_rfl)
 have e:(x == y)=((x.1 == y.1)&&((x.2.1 == y.2.1)&&((x.2.2 == y.2.2)&&true))):=by rw[Bool.and_true];rfl
 rw[e];exact h
section
variable {α:Type} [DecidableEq α]
def cpt1:α->List α->List α
 | _,[]=>[]
 | p,y::l=>if y=p then cpt1 y l else y::cpt1 y l
def cptL:List α->List α
 | []=>[]
 | x::l=>x::cpt1 x l
theorem cpt1_mem:∀ {l:List α}{p x:α},x∈p::cpt1 p l↔x∈p::l
 | [],p,x=>Iff.rfl
 | y::l,p,x=>by
  unfold cpt1
  have ih:=cpt1_mem (l:=l) (p:=y) (x:=x)
  simp only[List.mem_cons] at ih
  by_cases h:y=p
  ·rw[if_pos h]
   subst h
   simp only[List.mem_cons,ih]
   constructor
   ·rintro(h|h)<;>simp[h]
   ·rintro(h|h|h)<;>simp[h]
  ·rw[if_neg h]
   simp only[List.mem_cons,ih]
theorem cptL_mem{l:List α}{x:α}:x∈cptL l↔x∈l:=by
 cases l with
 | nil=>rfl
 | cons y l=>exact cpt1_mem
theorem cpt1_sorted{key:α->Int}:∀ {l:List α}{p:α},(∀x y,x∈p::l->y∈p::l->key x=key y->x=y)->(p::l).Pairwise (fun x y=>key x<=key y)->(p::cpt1 p l).Pairwise (fun x y=>key x<key y)
 | [],p,_,_=>by simp[cpt1]
 | y::l,p,hinj,h=>by
  obtain⟨h1,h2⟩:=List.pairwise_cons.1 h
  unfold cpt1
  have ih:=cpt1_sorted (key:=key) (fun a b ha hb=>hinj a b (List.mem_cons_of_mem _ ha) (List.mem_cons_of_mem _ hb)) h2
  by_cases he:y=p
  ·rw[if_pos he];subst he;exact ih
  ·rw[if_neg he]
   refine List.pairwise_cons.2 ⟨fun z hz=>?_,ih⟩
   have hpy:=h1 y (by simp)
   have hne:key p≠key y:=fun hk=>he (hinj p y (by simp) (by simp) hk).symm
   have hyz:=cpt1_mem.1 hz
   rcases List.mem_cons.1 hyz with rfl|hz'
   ·omega
   ·have:=(List.pairwise_cons.1 h2).1 z hz';omega
theorem cptL_sorted{key:α->Int}{l:List α}(hinj:∀x y,x∈l->y∈l->key x=key y->x=y)(h:l.Pairwise (fun x y=>key x<=key y)):(cptL l).Pairwise (fun x y=>key x<key y):=by
 cases l with
 | nil=>exact .nil
 | cons x l=>exact cpt1_sorted hinj h
theorem cpt1_len:∀(l:List α)(p:α),(cpt1 p l).length<=l.length
 | [],_=>Nat.le_refl _
 | y::l,p=>by
  unfold cpt1
  have:=cpt1_len l y
  split
  ·rw[List.length_cons];omega
  ·rw[List.length_cons,List.length_cons];omega
theorem cptL_len(l:List α):(cptL l).length<=l.length:=by
 cases l with
 | nil=>exact Nat.le_refl _
 | cons x l=>have:=cpt1_len l x;simp only[cptL,List.length_cons];omega
theorem cpt1_append:∀(l:List α)(p y:α),cpt1 p (l++[y])=cpt1 p l++if (p::l).getLast?=some y then [] else [y]
 | [],p,y=>by
  simp only[List.nil_append,cpt1,List.getLast?_singleton,Option.some.injEq]
  by_cases h:y=p
  ·rw[if_pos h,if_pos h.symm]
  ·rw[if_neg h,if_neg fun e=>h e.symm]
 | x::l,p,y=>by
  rw[List.cons_append]
  unfold cpt1
  rw[cpt1_append l x y,List.getLast?_cons_cons]
  split<;>rfl
theorem cptL_append{l:List α}{y:α}:cptL (l++[y])=cptL l++if l.getLast?=some y then [] else [y]:=by
 cases l with
 | nil=>rfl
 | cons x l=>
  show x::cpt1 x (l++[y])=(x::cpt1 x l)++_
  rw[cpt1_append];rfl
end
theorem c90{w:World}{t:Sl}{xs:List ArcD}(ho:OwS w t 3 (xs.flatMap aC))(hl:xs.length<=1000000):Cw 90 #[slV t] w fun v w'=>∃t',v=slV t'/\OwS w' t' 3 ((cptL xs).flatMap aC)/\t'.p=t.p/\Ch (fun i=>i∈blk t) w w':=by
 have hn:=owsN aC_len (by omega) ho
 have hcap:=ho.cap
 refine F90_ok t w _ (IfB.dec (fun h2=>?_) fun h2=>?_)
 ·have:cptL xs=xs:=by
   match xs,hn with
   | [],_=>rfl
   | [x],_=>rfl
   | x::y::l,hn=>simp at hn;omega
  exact⟨t,rfl,by rw[this];exact ho,rfl,Ch.refl _ _⟩
 ·have hx2:2<=xs.length:=by omega
  obtain⟨b,hp⟩:=ho.ptr (by omega)
  have hbk:blk t=[b]:=by simp[blk,hp]
  have last_take:∀ {m:Nat}{x:ArcD},xs[m]? =some x->(xs.take (m+1)).getLast?=some x:=fun h=>by rw[take_succ_get h,List.getLast?_append];rfl
  have step:∀ {m:Nat}{x y:ArcD},xs[m]? =some x->xs[m+1]? =some y->cptL (xs.take (m+2))=cptL (xs.take (m+1))++if x=y then [] else [y]:=fun hx hy=>by
   rw[take_succ_get hy,cptL_append,last_take hx]
   simp
  refine⟨fun n x W=>∃k:Nat,x=(k:Int)/\1<=k/\n+k=xs.length/\cptL (xs.take k)=xs.take k/\Ext w W,⟨xs.length-1,1,rfl,by omega,by omega,?_,Ch.refl _ _⟩,?_⟩
  ·match xs,hx2 with
   | x::y::l,_=>rfl
  ·rintro n _ W g ⟨k,rfl,hk1,hnk,hcp,eW⟩
   unfold F90j1
   refine IfB.dec (fun hlt=>?_) fun hge=>?_
   ·have hk:k<xs.length:=by omega
    obtain⟨m,rfl⟩:∃m,k=m+1:=⟨k-1,by omega⟩
    have hy:xs[m+1]? =some xs[m+1]:=List.getElem?_eq_getElem hk
    have hx:xs[m]? =some (xs[m]'(by omega)):=List.getElem?_eq_getElem _
    generalize xs[m+1]=y at hy
    generalize xs[m]'(by omega)=x at hx
    have hst:=step hx hy
    have ed:=extDrew W
    have eW':=eW.trans ed
    obtain⟨a,ha,hcy⟩:=(ho.ext eW').elem (i:=m+1) (by omega) (flatGet aC_len hy)
    obtain⟨a',ha',hcx⟩:=(ho.ext eW').elem (i:=m) (by omega) (flatGet aC_len hx)
    rw[hp] at ha ha';cases ha;cases ha'
    have hm1:IntKind.i64.wrap (((m+1:Nat):Int)-(1:Int))=(m:Int):=by rw[wrap_of (by omega) (by omega)];omega
    rw[hm1]
    refine⟨b,0,hp,⟨by omega,hlt⟩,y,by rw[Int.toNat_natCast,Nat.zero_add];exact hcy,b,0,hp,⟨by omega,by omega⟩,x,by rw[Int.toNat_natCast,Nat.zero_add];exact hcx,_,eqArc y x,IfB.intro (fun he=>?_) fun he=>?_⟩
    ·have he:y=x:=by simpa using he
     subst he
     rw[if_pos rfl,List.append_nil,hcp] at hst
     refine⟨⟨by omega,by omega⟩,?_⟩
     refine⟨fun n' x' W'=>∃(j:Nat)(gs:List ArcD),1<=j/\n'+(m+1+j)=xs.length/\(cptL (xs.take (m+1+j))).length+gs.length=m+j/\x'=(((cptL (xs.take (m+1+j))).length:Int),(j:Int))/\OwS W' t 3 ((cptL (xs.take (m+1+j))++gs++xs.drop (m+j)).flatMap aC)/\Ch (fun i=>i∈blk t) w W',
      ⟨xs.length-(m+2),1,[],by omega,by omega,?_,?_,?_,eW'.mono fun _ _ h=>h.elim⟩,?_⟩
     ·rw[hst,List.length_take];simp;omega
     ·rw[hst,List.length_take,Nat.min_eq_left (by omega)];rfl
     ·rw[hst,List.append_nil,List.take_append_drop];exact ho.ext eW'
     ·rintro n' _ W' g' ⟨j,gs,hj1,hnj,hlen,rfl,hO,hC⟩
      generalize hkd:cptL (xs.take (m+1+j))=kd at hlen hO
      have hsa:slAddr t.p t.c (((m+1:Nat):Int)).toNat 3=some ⟨b,(m+1)*3,none⟩:=by
       rw[Int.toNat_natCast,hp,slAddr_some,if_neg (by omega)];simp
      unfold F90j2
      refine IfB.dec (fun hlt'=>?_) fun hge'=>?_
      ·rw[Int.toNat_natCast] at hlt'
       have hlt'':m+1+j<xs.length:=by dsimp only at hlt';omega
       have hz:xs[m+1+j]? =some xs[m+1+j]:=List.getElem?_eq_getElem hlt''
       have hv:xs[m+j]? =some (xs[m+j]'(by omega)):=List.getElem?_eq_getElem _
       have hd1:xs.drop (m+j)=xs[m+j]'(by omega)::xs.drop (m+1+j):=by rw[show m+1+j=m+j+1 by omega];exact List.drop_eq_getElem_cons _
       have hd2:xs.drop (m+1+j)=xs[m+1+j]::xs.drop (m+1+(j+1)):=by rw[show m+1+(j+1)=m+1+j+1 by omega];exact List.drop_eq_getElem_cons _
       generalize xs[m+1+j]=z at hz hd2
       generalize xs[m+j]'(by omega)=v at hv hd1
       have hst2:cptL (xs.take (m+1+(j+1)))=kd++if v=z then [] else [z]:=by
        have:=step (m:=m+j) hv (by rw[show m+j+1=m+1+j by omega];exact hz)
        rw[show m+j+2=m+1+(j+1) by omega,show m+j+1=m+1+j by omega,hkd] at this
        exact this
       have hLz:(kd++gs++xs.drop (m+j))[m+1+j]? =some z:=by
        rw[List.getElem?_append_right (by rw[List.length_append];omega),List.length_append,show m+1+j-(kd.length+gs.length)=1 by omega,hd1,hd2];rfl
       have hLv:(kd++gs++xs.drop (m+j))[m+j]? =some v:=by
        rw[List.getElem?_append_right (by rw[List.length_append];omega),List.length_append,show m+j-(kd.length+gs.length)=0 by omega,hd1];rfl
       have ed':=extDrew W'
       have hOd:=hO.ext ed'
       obtain⟨a,ha,hcz⟩:=hOd.elem (i:=m+1+j) (by omega) (flatGet aC_len hLz)
       obtain⟨a',ha',hcv⟩:=hOd.elem (i:=m+j) (by omega) (flatGet aC_len hLv)
       rw[hp] at ha ha';cases ha;cases ha'
       have hj1':IntKind.i64.wrap ((j:Int)-(1:Int))=((j-1:Nat):Int):=wm1 (by omega) (by omega)
       have hL:(kd++gs++xs.drop (m+j)).length=xs.length:=by rw[List.length_append,List.length_append,List.length_drop];omega
       dsimp only
       rw[hj1',hsa]
       simp only[Int.toNat_natCast]
       have hzc:CellsAt W'.drew b ((m+1)*3+j*3) (aC z):=by rw[show (m+1)*3+j*3=(m+1+j)*3 by omega];exact hcz
       have hvc:CellsAt W'.drew b ((m+1)*3+(j-1)*3) (aC v):=by rw[show (m+1)*3+(j-1)*3=(m+j)*3 by omega];exact hcv
       refine⟨b,(m+1)*3,rfl,⟨by omega,by omega⟩,z,hzc,b,(m+1)*3,rfl,⟨by omega,by omega⟩,v,hvc,_,eqArc z v,IfB.intro (fun hne=>?_) fun heq=>?_⟩
       ·have hne:z≠v:=by simpa using hne
        rw[if_neg (fun h=>hne h.symm)] at hst2
        refine⟨b,(m+1)*3,rfl,⟨by omega,by omega⟩,z,hzc,b,0,hp,⟨by omega,by show (kd.length:Int)<(t.n:Int);omega⟩,rfl,?_⟩
        rw[Nat.zero_add]
        refine hOd.store (vs:=aC z) hp (by rw[aC_len];omega) (aC_one z) fun w32 hO32 hC32=>⟨(by trivial),n'-1,by omega,j+1,(gs++[v]).tail,by omega,by omega,?_,?_,?_,(hC.then ed' fun _ _ h=>h.elim).then hC32 fun i _ e=>by rw[hbk,e];simp⟩
        ·rw[hst2];simp;omega
        ·rw[hst2,wp1 (by omega),wp1 (by omega)];simp
        ·rw[aC_len,flatSet aC_len (by omega)] at hO32
         rw[hst2]
         have:(kd++gs++xs.drop (m+j)).set kd.length z=kd++[z]++(gs++[v]).tail++xs.drop (m+(j+1)):=by
          rw[hd1,show m+(j+1)=m+1+j by omega]
          cases gs with
          | nil=>simp
          | cons g0 gs=>simp
         rw[<-this];exact hO32
       ·have heq:z=v:=by simpa using heq
        subst heq
        rw[if_pos rfl,List.append_nil] at hst2
        refine⟨(by trivial),n'-1,by omega,j+1,gs++[z],by omega,by omega,by rw[hst2];simp;omega,?_,?_,hC.then ed' fun _ _ h=>h.elim⟩
        ·rw[hst2,wp1 (by omega)]
        ·rw[hst2]
         rw[hd1] at hOd
         rw[show m+(j+1)=m+1+j by omega]
         simpa using hOd
      ·rw[Int.toNat_natCast] at hge'
       dsimp only at hge'
       have hjn:m+1+j=xs.length:=by omega
       rw[hjn,List.take_length] at hkd
       have hkl:kd.length<t.n:=by omega
       refine⟨⟨by dsimp only;omega,by show (kd.length:Int)<=(t.n:Int);omega⟩,?_⟩
       dsimp only
       rw[Int.toNat_natCast,hp,slAddr_some]
       have hcut:=hO.cut (k:=kd.length) (by omega)
       rw[flatTake aC_len,List.append_assoc,List.take_append_of_le_length (Nat.le_refl _),List.take_length] at hcut
       dsimp only
       rw[if_neg (by omega),Nat.zero_add]
       refine hcut.storeTail hp (Nat.le_refl _) (by rw[zc_len];show kd.length*3+(t.n-kd.length)*3<=t.c*3;omega) (zc_one (by intro x hx;simp at hx;rcases hx with rfl|rfl|rfl<;>rfl) _) fun w25 hO25 hC25=>⟨⟨by omega,by omega⟩,?_⟩
       rw[<-hp,slAddr_zero]
       exact⟨⟨t.p,kd.length,t.c⟩,rfl,by rw[hkd];exact hO25,rfl,hC.then hC25 fun i _ e=>by rw[hbk,e];simp⟩
    ·have hne:x≠y:=by intro h;subst h;simp at he
     rw[if_neg hne] at hst
     refine⟨rfl,n-1,by omega,m+2,wp1 (by omega),by omega,by omega,?_,eW'⟩
     rw[hst,hcp,take_succ_get hy]
   ·have:k=xs.length:=by omega
    subst this
    rw[List.take_length] at hcp
    exact⟨t,rfl,by rw[hcp];exact ho.ext eW,rfl,eW.mono fun _ _ h=>h.elim⟩
theorem aC_all(xs:List ArcD):One (xs.flatMap aC):=by
 intro v hv
 obtain⟨x,_,hx⟩:=List.mem_flatMap.1 hv
 exact aC_one x v hx
theorem OwnA.uniq{hs:List Nd}{i:Nat}{xs ys:List ArcD}(h:OwnA hs i xs)(k:OwnA hs i ys):xs=ys:=by
 obtain⟨n,hn,h⟩:=h
 obtain⟨n',hn',k⟩:=k
 rw[hn] at hn';cases hn'
 rcases h with ⟨rfl,h⟩|⟨a,ma,a1,a2,a3,rfl,a4⟩<;>rcases k with ⟨rfl,k⟩|⟨b,mb,b1,b2,b3,rfl,b4⟩
 ·rfl
 ·exact absurd b3 (h b mb b1 b2)
 ·exact absurd a3 (k a ma a1 a2)
 ·have:a=b:=by
   rcases Nat.lt_trichotomy a b with h'|h'|h'
   ·exact absurd b3 (a4 b mb h' b1 b2)
   ·exact h'
   ·exact absurd a3 (b4 a ma h' a1 a2)
  rw[this]
theorem FstP.uniq{x:CatD}{hs:List Nd}{i:Nat}{d:Int}{f f':Nat}(h:FstP x hs i d f)(k:FstP x hs i d f'):f=f':=by
 have:=h.2 _ k.1;have:=k.2 _ h.1;omega
theorem LstP.uniq{x:CatD}{hs:List Nd}{i:Nat}{d:Int}{f f':Nat}(h:LstP x hs i d f)(k:LstP x hs i d f'):f=f':=by
 have:=h.2 _ k.1;have:=k.2 _ h.1;omega
theorem BtwP.uniq{x:CatD}{hs:List Nd}{a b:Nat}{xs ys:List ArcD}(h:BtwP x hs a b xs)(k:BtwP x hs a b ys):xs=ys:=by
 obtain⟨na,nb,l,f,h1,h2,h3,h4,rfl⟩:=h
 obtain⟨na',nb',l',f',k1,k2,k3,k4,rfl⟩:=k
 rw[h1] at k1;rw[h2] at k2;cases k1;cases k2
 rw[h3.uniq k3,h4.uniq k4]
def TwoP(hs:List Nd)(i k:Nat):Prop:=∃a b,hs[i]? =some a/\hs[k]? =some b/\b.v.1≠a.v.1
def ArcI(x:CatD)(hs:List Nd)(i:Nat)(e:ArcD):Prop:=(∃xs,OwnA hs i xs/\e∈xs)\/∃k xs,Dp hs i k/\TwoP hs i k/\BtwP x hs k i xs/\e∈xs
def ArcIn(x:CatD)(hs:List Nd)(e:ArcD):Prop:=∃i,i<hs.length/\ArcI x hs i e
structure ArcsP(x:CatD)(hs:List Nd)(ys:List ArcD):Prop where
 srt:ys.Pairwise fun a b=>SfA.key a<SfA.key b
 mem:HMay x hs->∀e,e∈ys↔ArcIn x hs e
 no:¬HMay x hs->ys=[]
theorem ArcIn.q{x:CatD}{hs:List Nd}{e:ArcD}(h:ArcIn x hs e):(0<=e.1/\e.1<(hs.length:Int))/\(0<=e.2.1/\e.2.1<(hs.length:Int))/\1<=e.2.2/\e.2.2<=4:=by
 obtain⟨i,hi,⟨xs,⟨n,hn,h⟩,he⟩|⟨k,xs,hd,_,⟨na,nb,l,f,h1,h2,h3,h4,rfl⟩,he⟩⟩:=h
 ·rcases h with ⟨rfl,_⟩|⟨k,m,k1,k2,k3,rfl,_⟩
  ·cases he
  ·rw[List.mem_singleton.1 he]
   exact⟨⟨by dsimp only;omega,by dsimp only;omega⟩,⟨by dsimp only;omega,by dsimp only;omega⟩,by dsimp only;omega,by dsimp only;omega⟩
 ·have hk:=Dp_lt hd
  have hl:=h3.1.lt (by omega)
  have hf:=h4.1.lt hi
  simp only[List.mem_cons,List.not_mem_nil,or_false] at he
  rcases he with rfl|rfl|rfl<;>exact⟨⟨by dsimp only;omega,by dsimp only;omega⟩,⟨by dsimp only;omega,by dsimp only;omega⟩,by dsimp only;omega,by dsimp only;omega⟩
theorem ArcIn.Q{x:CatD}{hs:List Nd}{e:ArcD}(h:ArcIn x hs e)(hl:hs.length<=100):SfA.Q e:=by
 obtain⟨h1,h2,h3⟩:=h.q
 exact⟨⟨by omega,by omega⟩,⟨by omega,by omega⟩,by omega,by omega⟩
theorem arcKey_inj{a b:ArcD}(ha:SfA.Q a)(hb:SfA.Q b)(h:SfA.key a=SfA.key b):a=b:=by
 obtain⟨a1,a2,a3⟩:=a
 obtain⟨b1,b2,b3⟩:=b
 obtain⟨h1,h2,h3⟩:=ha
 obtain⟨g1,g2,g3⟩:=hb
 unfold SfA.key at h
 dsimp only at*
 have e1:a1=b1:=by omega
 have e2:a2=b2:=by omega
 have e3:a3=b3:=by omega
 rw[e1,e2,e3]
set_option maxRecDepth 20000 in
theorem c30{w:World}{v:CatV}{x:CatD}{t:Sl}{hs:List Nd}(h:CatM w v x)(hH:Hst w t hs):
  Cw 30 #[cxV v,slV t] w fun r w'=>∃t' ys,r=slV t'/\ArcsP x hs ys/\OwS w' t' 3 (ys.flatMap aC)/\ys.length<=100000/\Ext w w'/\∀j∈blk t',w.heap.size<=j:=by
 have htn:=hH.n
 refine F30_ok v t w _ fun b1 w2 a2=>?_
 have e2:Ext w w2:=a2.ch _
 refine⟨v,cxN h a2.new (Ch.refl _ _),(c84 (h.ext e2) (hH.ext e2)).use ?_⟩
 rintro _ w7 ⟨r,rfl,hr,e7⟩
 have e27:=e2.trans e7
 refine⟨r,rfl,IfB.intro (fun h1=>⟨⟨none,0,0⟩,[],rfl,⟨.nil,fun hM=>?_,fun _=>rfl⟩,.nil _ _,by simp,e27,by simp[blk]⟩) fun h1=>?_⟩
 ·have h1:r=false:=by simpa using h1
  rw[hr.2 hM] at h1;cases h1
 have hM:=hr.1 (by simpa using h1)
 have hl100:=hM.len
 refine(c85 (hH.ext e27) (by omega)).use ?_
 rintro _ w10 ⟨tl,rows,rfl,hrl,hrow,hO,e10⟩
 have x10:Ext w2 w10:=e7.trans e10
 have E10:Ext w w10:=e27.trans e10
 have hR:=hO.rws
 have hRn:=hR.n
 have zz:=E10.size
 refine⟨tl,rfl,fun m z W=>∃(i:Nat)(so:Sl)(acc:List ArcD),i<=hs.length/\m+i=hs.length/\z=(so,(i:Int))/\OwS W so 3 (acc.flatMap aC)/\acc.length<=i*301/\(∀e,e∈acc↔∃i',i'<i/\ArcI x hs i' e)/\(∀j∈blk so,w10.heap.size<=j)/\Ext w10 W,
  ⟨hs.length,0,⟨none,0,0⟩,[],Nat.zero_le _,rfl,rfl,.nil _ _,by simp,fun e=>⟨fun h=>(by cases h),fun⟨i',h,_⟩=>absurd h (Nat.not_lt_zero _)⟩,by simp[blk],Ch.refl _ _⟩,?_⟩
 rintro m _ W g ⟨i,so,acc,hi,hm,rfl,ho,hal,hmem,hbk,eW⟩
 unfold F30j1
 have hon:=owsN aC_len (by omega) ho
 refine IfB.dec (fun hlt=>?_) fun hge=>?_
 ·dsimp only at hlt
  have hi':i<hs.length:=by omega
  have hrx:rows[i]? =some rows[i]:=List.getElem?_eq_getElem (by omega)
  generalize rows[i]=rw' at hrx
  have hRow:=hrow i rw' hrx
  have hRl:=hRow.len
  obtain⟨⟨pa,oa,hpa,hca⟩,_,hrn⟩:=(hR.ext eW).at hrx
  have ga:hs[i]? =some hs[i]:=List.getElem?_eq_getElem hi'
  generalize hs[i]=na at ga
  refine⟨pa,oa,hpa,⟨by dsimp only;omega,hlt⟩,rw'.1,by dsimp only;rw[Int.toNat_natCast];exact hca,(c86 (hH.ext (E10.trans eW)) hi').use ?_⟩
  rintro _ w23 ⟨s24,xo,rfl,hxo,hos,e23,hb23⟩
  have E23:Ext w10 w23:=eW.trans e23
  have hsn:=owsN aC_len (by omega) hos
  have hxl:xo.length<=1:=by
   obtain⟨n,_,⟨rfl,_⟩|⟨_,_,_,_,_,rfl,_⟩⟩:=hxo<;>simp
  refine⟨s24,rfl,_,hos.rd.2,OwS.append (new:=xo.flatMap aC) (cnt:=s24.n) (ho.ext e23) rfl rfl (by rw[flatLen aC_len,hsn]) (aC_all xo) ⟨by dsimp only;omega,Nat.le_trans (Nat.mul_le_mul (show 2*(so.n+s24.n)<=100000 by omega) (show _<=100000 by decide)) (by decide)⟩ fun s26 w27 ho27 hn27 hC27 hb27 _=>?_⟩
  rw[<-List.flatMap_append] at ho27
  have E27:Ext w10 w27:=E23.chN hC27 fun j hj=>hbk j hj
  have hbk27:∀j∈blk s26,w10.heap.size<=j:=fun j hj=>by
   rcases hb27 j hj with h'|h'
   ·exact hbk j h'
   ·have:=E23.size;omega
  refine⟨fun m' z V=>∃(q:Nat)(sq:Sl)(ac:List ArcD),q<=rw'.2.length/\m'+q=rw'.2.length/\z=(sq,(q:Int))/\OwS V sq 3 (ac.flatMap aC)/\ac.length<=i*301+1+q*3/\(∀e,e∈ac↔e∈acc\/e∈xo\/∃k:Nat,(k:Int)∈rw'.2.take q/\TwoP hs i k/\∃xs,BtwP x hs k i xs/\e∈xs)/\(∀j∈blk sq,w10.heap.size<=j)/\Ext w10 V,
   ⟨rw'.2.length,0,s26,acc++xo,Nat.zero_le _,rfl,rfl,ho27,by rw[List.length_append];omega,fun e=>by simp,hbk27,E27⟩,?_⟩
  rintro m' _ V g' ⟨q,sq,ac,hq,hmq,rfl,hoq,hql,hqm,hqb,eV⟩
  unfold F30j2
  have hqn:=owsN aC_len (by omega) hoq
  refine IfB.dec (fun hlt2=>?_) fun hge2=>?_
  ·dsimp only at hlt2
   have hq':q<rw'.2.length:=by omega
   have hk:rw'.2[q]? =some rw'.2[q]:=List.getElem?_eq_getElem hq'
   have hkm:rw'.2[q]∈rw'.2:=List.getElem_mem hq'
   have htk:=take_succ_get hk
   generalize rw'.2[q]=kz at hk hkm htk
   obtain⟨k,rfl,hdk⟩:=(hRow.mem kz).1 hkm
   have hki:=Dp_lt hdk
   have gb:hs[k]? =some hs[k]:=List.getElem?_eq_getElem (by omega)
   generalize hs[k]=nb at gb
   obtain⟨_,hrd,_⟩:=(hR.ext eV).at hrx
   obtain⟨pb,ob,hpb,hcb⟩:=hrd.elem1 (i:=q) (v:=iv (k:Int)) (by rw[List.getElem?_map,hk];rfl)
   have ed:=extDrew V
   have EV:Ext w V.drew:=(E10.trans eV).trans ed
   obtain⟨pc,oc,hpc,hcc⟩:=(hH.ext EV).at gb
   obtain⟨pd,od,hpd,hcd⟩:=(hH.ext EV).at ga
   have hw:IntKind.i64.wrap ((q:Int)+1)=((q+1:Nat):Int):=by rw[wrap_of (by omega) (by omega)];rfl
   refine⟨pb,ob,hpb,⟨by dsimp only;omega,by dsimp only;omega⟩,(k:Int),by dsimp only;rw[Int.toNat_natCast];exact hcb,pc,oc,hpc,⟨by omega,by omega⟩,nb.v.1,by rw[Int.toNat_natCast];exact hcc 0 _ rfl,pd,od,hpd,⟨by dsimp only;omega,by dsimp only;omega⟩,na.v.1,by dsimp only;rw[Int.toNat_natCast];exact hcd 0 _ rfl,IfB.intro (fun hne=>?_) fun heq=>?_⟩
   ·have hne:nb.v.1≠na.v.1:=by simpa using hne
    refine⟨v,cxN h a2.new ((x10.trans eV).trans ed),(c87 (h.ext EV) (hH.ext EV) hM (show k<hs.length by omega) hi').use ?_⟩
    rintro _ w48 ⟨s49,xb,rfl,hxb,hob,e48,hb48⟩
    have E48:Ext w10 w48:=(eV.trans ed).trans e48
    have hbn:=owsN aC_len (by omega) hob
    have hbl:xb.length=3:=by
     obtain⟨_,_,_,_,_,_,_,_,rfl⟩:=hxb;rfl
    refine⟨s49,rfl,_,hob.rd.2,OwS.append (new:=xb.flatMap aC) (cnt:=s49.n) ((hoq.ext ed).ext e48) rfl rfl (by rw[flatLen aC_len,hbn]) (aC_all xb) ⟨by dsimp only;omega,Nat.le_trans (Nat.mul_le_mul (show 2*(sq.n+s49.n)<=100000 by omega) (show _<=100000 by decide)) (by decide)⟩ fun s51 w52 ho52 hn52 hC52 hb52 _=>⟨rfl,m'-1,by omega,q+1,s51,ac++xb,hq',by omega,by dsimp only;rw[hw],by rw[<-List.flatMap_append] at ho52;exact ho52,by rw[List.length_append];omega,fun e=>?_,fun j hj=>?_,E48.chN hC52 fun j hj=>hqb j hj⟩⟩
    ·rw[List.mem_append,hqm,htk]
     constructor
     ·rintro((h'|h'|⟨k',h1,h2⟩)|h')
      ·exact .inl h'
      ·exact .inr (.inl h')
      ·exact .inr (.inr ⟨k',List.mem_append.2 (.inl h1),h2⟩)
      ·exact .inr (.inr ⟨k,by simp,⟨na,nb,ga,gb,hne⟩,xb,hxb,h'⟩)
     ·rintro(h'|h'|⟨k',h1,h2,xs,h3,h4⟩)
      ·exact .inl (.inl h')
      ·exact .inl (.inr (.inl h'))
      ·rcases List.mem_append.1 h1 with h1|h1
       ·exact .inl (.inr (.inr ⟨k',h1,h2,xs,h3,h4⟩))
       ·have:k'=k:=Int.ofNat.inj (List.mem_singleton.1 h1)
        subst this
        rw[hxb.uniq h3];exact .inr h4
    ·rcases hb52 j hj with h'|h'
     ·exact hqb j h'
     ·have:=E48.size;omega
   ·have heq:nb.v.1=na.v.1:=by simpa using heq
    refine⟨rfl,m'-1,by omega,q+1,sq,ac,hq',by omega,by dsimp only;rw[hw],hoq.ext ed,by omega,fun e=>?_,hqb,eV.trans ed⟩
    rw[hqm,htk]
    constructor
    ·rintro(h'|h'|⟨k',h1,h2⟩)
     ·exact .inl h'
     ·exact .inr (.inl h')
     ·exact .inr (.inr ⟨k',List.mem_append.2 (.inl h1),h2⟩)
    ·rintro(h'|h'|⟨k',h1,h2,xs,h3,h4⟩)
     ·exact .inl h'
     ·exact .inr (.inl h')
     ·rcases List.mem_append.1 h1 with h1|h1
      ·exact .inr (.inr ⟨k',h1,h2,xs,h3,h4⟩)
      ·have:k'=k:=Int.ofNat.inj (List.mem_singleton.1 h1)
       subst this
       obtain⟨a',b',g1,g2,g3⟩:=h2
       rw[ga] at g1;rw[gb] at g2;cases g1;cases g2
       exact absurd heq g3
  ·dsimp only at hge2
   have hwi:IntKind.i64.wrap ((i:Int)+1)=((i+1:Nat):Int):=by rw[wrap_of (by omega) (by omega)];rfl
   have hq':q=rw'.2.length:=by omega
   subst hq'
   have hal':ac.length<=(i+1)*301:=by omega
   refine⟨rfl,m-1,by omega,i+1,sq,ac,hi',by omega,by dsimp only;rw[hwi],hoq,hal',fun e=>?_,hqb,eV⟩
   rw[hqm,List.take_length,hmem]
   constructor
   ·rintro(⟨i',h1,h2⟩|h'|⟨k,h1,h2,xs,h3,h4⟩)
    ·exact⟨i',by omega,h2⟩
    ·exact⟨i,by omega,.inl ⟨xo,hxo,h'⟩⟩
    ·obtain⟨k',hk',hd⟩:=(hRow.mem (k:Int)).1 h1
     have:k=k':=Int.ofNat.inj hk'
     subst this
     exact⟨i,by omega,.inr ⟨k,xs,hd,h2,h3,h4⟩⟩
   ·rintro⟨i',h1,h2⟩
    rcases Nat.lt_or_ge i' i with h'|h'
    ·exact .inl ⟨i',h',h2⟩
    ·have:i'=i:=by omega
     subst this
     rcases h2 with ⟨xs,h3,h4⟩|⟨k,xs,hd,h3,h4,h5⟩
     ·rw[hxo.uniq h3];exact .inr (.inl h4)
     ·exact .inr (.inr ⟨k,(hRow.mem (k:Int)).2 ⟨k,rfl,hd⟩,h3,xs,h4,h5⟩)
 ·dsimp only at hge
  have hi':i=hs.length:=by omega
  subst hi'
  have hQ:∀e∈acc,SfA.Q e:=fun e he=>ArcIn.Q (x:=x) ((hmem e).1 he) hl100
  refine(SfA.c88 (cl:=(89,#[])) c89 ho (by omega) hQ).use ?_
  rintro _ w57 ⟨rfl,ys,hp,hsrt,ho57,hC57⟩
  have hpl:=hp.length_eq
  refine⟨(),rfl,(c90 ho57 (by omega)).use ?_⟩
  rintro _ w60 ⟨s61,rfl,ho60,hp60,hC60⟩
  have hcl:=cptL_len ys
  have hb61:∀j∈blk s61,w10.heap.size<=j:=fun j hj=>hbk j (by unfold blk at hj ⊢;rw[hp60] at hj;exact hj)
  refine⟨s61,rfl,s61,cptL ys,rfl,⟨cptL_sorted (fun a b ha hb=>arcKey_inj (hQ a (hp.mem_iff.1 ha)) (hQ b (hp.mem_iff.1 hb))) hsrt,fun _ e=>?_,fun hno=>absurd hM hno⟩,ho60,by omega,((E10.trans eW).chN hC57 fun j hj=>?_).chN hC60 fun j hj=>?_,fun j hj=>?_⟩
  ·rw[cptL_mem,hp.mem_iff,hmem];rfl
  ·have:=hbk j hj;omega
  ·have:=hbk j hj;omega
  ·have:=hb61 j hj;omega
def FnB(W:World)(b n:Nat)(f:Nat->Value):Prop:=∃T,W.heap[b]? =some (.cells ((List.range n).map f).toArray T (0,0))
theorem FnB.ch{F:Nat->Prop}{W W':World}{b n:Nat}{f:Nat->Value}(h:FnB W b n f)(e:Ch F W W')(hF:¬F b):FnB W' b n f:=h.elim fun T hT=>⟨T,e.at hT hF⟩
theorem FnB.ext{W W':World}{b n:Nat}{f:Nat->Value}(h:FnB W b n f)(e:Ext W W'):FnB W' b n f:=h.elim fun T hT=>⟨T,e.at hT⟩
theorem FnB.lt{W:World}{b n:Nat}{f:Nat->Value}(h:FnB W b n f):b<W.heap.size:=h.elim fun T hT=>heap_lt hT
theorem FnB.get{W:World}{b n:Nat}{f:Nat->Value}(h:FnB W b n f){j o:Nat}(hj:j<n)(ho:o=j):W.cell? ⟨b,o,none⟩=some (f j):=by
 subst ho
 obtain⟨T,hT⟩:=h
 rw[cell_of hT,List.getElem?_toArray,List.getElem?_map,List.getElem?_range hj];rfl
theorem FnB.put{W:World}{b n:Nat}{f:Nat->Value}(h:FnB W b n f){j o:Nat}(hj:j<n)(ho:o=j){v:Value}(h1:v.oneCell'=true){K:World->Prop}(hK:∀W',FnB W' b n (fun k=>if k=j then v else f k)->Ch (fun i=>i=b) W W'->K W'):StoreP W b o [v] K:=by
 subst ho
 obtain⟨T,hT⟩:=h
 refine store_one hT (by simpa using hj) h1 fun W' u=>hK W' ⟨T,?_⟩ u.ch
 have e:(((List.range n).map f).toArray.setIfInBounds o v)=((List.range n).map fun k=>if k=o then v else f k).toArray:=by
  rw[List.setIfInBounds_toArray]
  congr 1
  apply List.ext_getElem?
  intro k
  rw[List.getElem?_set,List.getElem?_map,List.getElem?_map,List.length_map,List.length_range]
  by_cases hk:k<n
  ·rw[List.getElem?_range hk]
   by_cases e:o=k
   ·subst e;simp[hk]
   ·rw[if_neg e,Option.map_some,Option.map_some,if_neg fun h=>e h.symm]
  ·rw[List.getElem?_eq_none (by simpa using hk)]
   by_cases e:o=k
   ·omega
   ·simp[e]
 rw[<-e];exact u.new
theorem FnB.new{w w':World}{b n:Nat}{T:TypeId}{v:Value}(a:IsAlloc w (.cells { toList:=zc #[v] n } T (0,0)) b w'):FnB w' b n fun _=>v:=by
 refine⟨T,?_⟩
 have e:zc #[v] n=(List.range n).map fun _=>v:=by
  rw[zc_all (v:=v) (by intro x hx;simpa using hx)]
  simp[List.map_const']
 have:=a.new
 rw[e] at this;exact this
theorem FnB.congr{W:World}{b n:Nat}{f g:Nat->Value}(h:FnB W b n f)(e:∀j,j<n->f j=g j):FnB W b n g:=by
 obtain⟨T,hT⟩:=h
 refine⟨T,?_⟩
 rw[hT,List.map_congr_left fun j hj=>e j (List.mem_range.1 hj)]
def holdB(out:List Nat)(j:Nat)(e:ArcD):Bool:=e.2.1 == (j:Int) && !(out.any fun k=>e.1 == (k:Int))
def holds(arcs:List ArcD)(out:List Nat)(j:Nat):Nat:=arcs.countP (holdB out j)
inductive TRun(arcs:List ArcD)(n:Nat):List Nat->Prop
 | nil:TRun arcs n []
 | snoc {out:List Nat} {i:Nat}:TRun arcs n out->i<n->i∉out->holds arcs out i=0->(∀j,j<i->j∈out\/0<holds arcs out j)->TRun arcs n (out++[i])
structure ToldP(arcs:List ArcD)(n:Nat)(out:List Nat):Prop where
 run:TRun arcs n out
 all:∀j,j<n->j∈out\/0<holds arcs out j
theorem TRun.nodup{arcs:List ArcD}{n:Nat}{out:List Nat}(h:TRun arcs n out):out.Nodup/\∀i∈out,i<n:=by
 induction h with
 | nil=>simp
 | snoc h hi hn _ _ ih=>
  refine⟨List.nodup_append.2 ⟨ih.1,by simp,fun a ha b hb=>?_⟩,fun j hj=>?_⟩
  ·rw[List.mem_singleton.1 hb];exact fun e=>hn (e ▸ ha)
  ·rcases List.mem_append.1 hj with hj|hj
   ·exact ih.2 j hj
   ·rw[List.mem_singleton.1 hj];exact hi
theorem TRun.len{arcs:List ArcD}{n:Nat}{out:List Nat}(h:TRun arcs n out):out.length<=n:=by
 have:=nodup_le (a:=out) (b:=List.range n) h.nodup.1 fun i hi=>List.mem_range.2 (h.nodup.2 i hi)
 simpa using this
theorem holdB_new{out:List Nat}{i:Nat}(hi:i∉out)(j:Nat)(e:ArcD):(e.1=(i:Int)->holdB (out++[i]) j e=false/\holdB out j e=(e.2.1 == (j:Int)))/\(e.1≠(i:Int)->holdB (out++[i]) j e=holdB out j e):=by
 unfold holdB
 rw[List.any_append]
 constructor
 ·intro h
  have h0:(out.any fun k=>e.1 == (k:Int))=false:=by
   rw[Bool.eq_false_iff];intro ht
   obtain⟨k,hk,hke⟩:=List.any_eq_true.1 ht
   have:(k:Int)=(i:Int):=by rw[<-h];exact(beq_iff_eq.1 hke).symm
   exact hi (Int.ofNat.inj this ▸ hk)
  rw[h0]
  simp[h]
 ·intro h
  have:([i].any fun k=>e.1 == (k:Int))=false:=by simp[h]
  rw[this,Bool.or_false]
theorem holds_snoc(l:List ArcD)(e:ArcD)(out:List Nat)(j:Nat):holds (l++[e]) out j=holds l out j+if holdB out j e then 1 else 0:=by
 unfold holds;rw[List.countP_append];simp[List.countP_cons]
theorem holds_cons(l:List ArcD)(e:ArcD)(out:List Nat)(j:Nat):holds (e::l) out j=holds l out j+if holdB out j e then 1 else 0:=by
 unfold holds;rw[List.countP_cons]
theorem holds_le(l:List ArcD)(out:List Nat)(j:Nat):holds l out j<=l.length:=List.countP_le_length
theorem c95{w:World}{t:Sl}{arcs:List ArcD}{n:Nat}(hR:Rd w t 3 (arcs.flatMap aC))(hl:arcs.length<=1000000)(hn:n<=1000)(hto:∀e∈arcs,0<=e.2.1/\e.2.1<(n:Int)):
  Cw 95 #[iv (n:Int),slV t] w fun v w'=>∃t' out,v=slV t'/\ToldP arcs n out/\OwS w' t' 1 (out.map fun k:Nat=>iv (k:Int))/\Ext w w'/\∀j∈blk t',w.heap.size<=j:=by
 have htn:=rdN aC_len (by omega) hR
 refine F95_ok (n:Int) t w _ ⟨⟨by omega,by omega,by omega,by omega⟩,fun b1 w2 a2=>?_⟩
 rw[Int.toNat_natCast] at a2
 have e2:Ext w w2:=a2.ch _
 have p2:=a2.here;have z2:=a2.size
 have h0:=FnB.new a2
 refine⟨fun m z W=>∃q:Nat,q<=arcs.length/\m+q=arcs.length/\z=(q:Int)/\FnB W b1 n (fun j=>iv (holds (arcs.take q) [] j:Nat))/\Ext w W,⟨_,0,Nat.zero_le _,rfl,rfl,h0.congr fun j _=>by simp[holds],e2⟩,?_⟩
 rintro m _ W g ⟨q,hq,hm,rfl,hf,eW⟩
 unfold F95j1
 simp only[Int.toNat_natCast]
 refine IfB.dec (fun hlt=>?_) fun hge=>?_
 ·have hq':q<arcs.length:=by omega
  have hx:arcs[q]? =some arcs[q]:=List.getElem?_eq_getElem hq'
  have hxm:arcs[q]∈arcs:=List.getElem_mem hq'
  have htk:=take_succ_get hx
  generalize arcs[q]=e at hx hxm htk
  have hte:=hto e hxm
  obtain⟨b,o,hp,hc⟩:=(hR.ext eW).elem (i:=q) (by omega) (by omega) (flatGet aC_len hx)
  refine⟨b,o,hp,⟨by omega,hlt⟩,e,hc,fun b13 w14 a14=>⟨rfl,store_all (vs:=aC e) a14.new rfl (aC_one e) fun w15 u15=>?_⟩⟩
  have e15:Ext W w15:=Ext.fresh a14 u15
  obtain⟨jt,hjt⟩:=Int.eq_ofNat_of_zero_le hte.1
  have hjn:jt<n:=by omega
  have hf15:=hf.ext e15
  have hle:=holds_le (arcs.take q) [] jt
  rw[List.length_take] at hle
  refine⟨_,boxAt (cs:=aC e) u15.new 1 (Ch.refl _ _),b1,0,rfl,hte,(holds (arcs.take q) [] jt:Nat),by rw[Nat.zero_add];exact hf15.get hjn (by omega),b1,0,rfl,hte,rfl,hf15.put hjn (by omega) rfl fun w22 hf22 hC22=>⟨(by trivial),m-1,by omega,q+1,hq',by omega,by rw[wrap_of (by omega) (by omega)];rfl,hf22.congr fun j hj=>?_,(eW.trans e15).chN hC22 fun i e=>by omega⟩⟩
  rw[htk,holds_snoc]
  have hb:holdB [] j e=(e.2.1 == (j:Int)):=by simp[holdB]
  rw[hb]
  by_cases h':j=jt
  ·subst h'
   rw[if_pos rfl,hjt,wrap_of (by omega) (by omega)];simp
  ·rw[if_neg h',hjt]
   have:((jt:Int) == (j:Int))=false:=by rw[beq_eq_false_iff_ne];intro h;exact h' (Int.ofNat.inj h).symm
   rw[this];simp
 have hq':q=arcs.length:=by omega
 subst hq'
 rw[List.take_length] at hf
 refine⟨⟨by omega,by omega,by omega,by omega⟩,fun b24 w25 a25=>?_⟩
 have e25:Ext W w25:=a25.ch _
 have p25:=a25.here;have z25:=a25.size
 have hlt1:=hf.lt
 have hd0:=FnB.new a25
 refine⟨fun m s V=>∃out:List Nat,TRun arcs n out/\m+out.length=n/\OwS V s 1 (out.map fun k:Nat=>iv (k:Int))/\(∀j∈blk s,b24<j)/\FnB V b1 n (fun j=>iv (holds arcs out j:Nat))/\FnB V b24 n (fun j=>.bool (decide (j∈out)))/\Ext w V,
  ⟨n,[],.nil,rfl,.nil _ _,by simp[blk],hf.ext e25,hd0.congr fun j _=>by simp,eW.trans e25⟩,?_⟩
 rintro m s V g2 ⟨out,hrun,hmo,hos,hbk,hfh,hfd,eV⟩
 have hbV:=hfd.lt
 refine⟨fun m' z V'=>V'=V/\∃i:Nat,i<=n/\m'+i=n/\z=(s,(i:Int))/\∀j,j<i->j∈out\/0<holds arcs out j,⟨n,rfl,0,Nat.zero_le _,rfl,rfl,fun j hj=>absurd hj (Nat.not_lt_zero _)⟩,?_⟩
 rintro m' _ _ g3 ⟨rfl,i,hi,hmi,rfl,hlow⟩
 unfold F95j3
 simp only[Int.toNat_natCast]
 refine IfB.dec (fun hlt=>?_) fun hge2=>?_
 ·skip
  have hin:i<n:=by omega
  have hbi:(0:Int)<=(i:Int)/\(i:Int)<(n:Int):=⟨by omega,by omega⟩
  have hw:IntKind.i64.wrap ((i:Int)+1)=((i+1:Nat):Int):=by rw[wrap_of (by omega) (by omega)];rfl
  have hhl:=holds_le arcs out i
  have up:(i∈out\/0<holds arcs out i)->∀j,j<i+1->j∈out\/0<holds arcs out j:=fun h j hj=>by
   rcases Nat.lt_or_ge j i with h'|h'
   ·exact hlow j h'
   ·rw[show j=i by omega];exact h
  refine⟨b24,0,rfl,hbi,decide (i∈out),by rw[Nat.zero_add];exact hfd.get hin rfl,IfB.intro (fun h1=>⟨(by trivial),m'-1,by omega,(by trivial),i+1,by omega,by omega,by rw[hw],up (.inl (of_decide_eq_true h1))⟩) fun h1=>⟨b1,0,rfl,hbi,(holds arcs out i:Nat),by rw[Nat.zero_add];exact hfh.get hin rfl,IfB.dec (fun h2=>⟨(by trivial),m'-1,by omega,(by trivial),i+1,by omega,by omega,by rw[hw],up (.inr (by omega))⟩) fun h2=>⟨b24,0,rfl,hbi,rfl,hfd.put hin (by omega) rfl fun w50 hd50 hC50=>⟨by decide,fun b51 w52 a52=>?_⟩⟩⟩⟩
  have hni:i∉out:=of_decide_eq_false h1
  have hz:holds arcs out i=0:=by omega
  have hrun':TRun arcs n (out++[i]):=hrun.snoc hin hni hz hlow
  have z50:=hC50.size
  have hlen:=hrun.len
  have e52:Ext w50 w52:=a52.ch _
  have z52:=a52.size;have p52:=a52.here
  have hos52:OwS w52 s 1 (out.map fun k:Nat=>iv (k:Int)):=(hos.ch hC50 fun j hj e=>by have:=hbk j hj;omega).ext e52
  have hsn:=hos52.len
  rw[List.length_map,Nat.mul_one] at hsn
  refine hos52.lit (new:=[iv (i:Int)]) a52.new rfl (by intro v hv;rw[List.mem_singleton.1 hv];rfl) rfl rfl (by omega) (by decide) fun s54 w55 hos55 hn55 hC55 hb55=>?_
  have hbk55:∀j∈blk s54,b24<j:=fun j hj=>by
   rcases hb55 j hj with h'|h'
   ·exact hbk j h'
   ·omega
  have hd55:FnB w55 b24 n (fun j=>.bool (decide (j∈out++[i]))):=((hd50.ext e52).ch hC55 fun h=>by have:=hbk _ h;omega).congr fun j hj=>by
   by_cases h':j=i
   ·simp[h']
   ·simp[h']
  have hh55:FnB w55 b1 n (fun j=>iv (holds arcs out j:Nat)):=((hfh.ch hC50 (by omega)).ext e52).ch hC55 fun h=>by have:=hbk _ h;omega
  have E55:Ext w w55:=((eV.chN hC50 fun j e=>by have:=eW.size;omega).trans e52).chN hC55 fun j hj=>by have:=hbk j hj;have:=eW.size;omega
  have hos55':OwS w55 s54 1 ((out++[i]).map fun k:Nat=>iv (k:Int)):=by rw[List.map_append];exact hos55
  refine⟨fun m4 z V=>∃q:Nat,q<=arcs.length/\m4+q=arcs.length/\z=(q:Int)/\OwS V s54 1 ((out++[i]).map fun k:Nat=>iv (k:Int))/\FnB V b24 n (fun j=>.bool (decide (j∈out++[i])))/\FnB V b1 n (fun j=>iv (holds (arcs.take q) (out++[i]) j+holds (arcs.drop q) out j:Nat))/\Ext w V,
   ⟨_,0,Nat.zero_le _,rfl,rfl,hos55',hd55,hh55.congr fun j _=>by simp[holds],E55⟩,?_⟩
  rintro m4 _ V4 g4 ⟨q,hq,hmq,rfl,ho4,hd4,hh4,e4⟩
  unfold F95j4
  simp only[Int.toNat_natCast]
  refine IfB.dec (fun hlq=>?_) fun hgq=>?_
  ·have hq':q<arcs.length:=by omega
   have hx:arcs[q]? =some arcs[q]:=List.getElem?_eq_getElem hq'
   have hxm:arcs[q]∈arcs:=List.getElem_mem hq'
   have htk:=take_succ_get hx
   have hdr:=List.drop_eq_getElem_cons hq'
   generalize arcs[q]=e at hx hxm htk hdr
   have hte:=hto e hxm
   obtain⟨jt,hjt⟩:=Int.eq_ofNat_of_zero_le hte.1
   have hjn:jt<n:=by omega
   obtain⟨b,o,hp,hc⟩:=(hR.ext e4).elem (i:=q) (by omega) (by omega) (flatGet aC_len hx)
   refine⟨b,o,hp,⟨by omega,hlq⟩,e,hc,fun b66 w67 a67=>⟨rfl,store_all (vs:=aC e) a67.new rfl (aC_one e) fun w68 u68=>?_⟩⟩
   have e68:Ext V4 w68:=Ext.fresh a67 u68
   have hwq:IntKind.i64.wrap ((q:Int)+1)=((q+1:Nat):Int):=by rw[wrap_of (by omega) (by omega)];rfl
   refine⟨_,boxAt (cs:=aC e) u68.new 0 (Ch.refl _ _),IfB.intro (fun he=>?_) fun he=>⟨(by trivial),m4-1,by omega,q+1,hq',by omega,hwq,ho4.ext e68,hd4.ext e68,(hh4.ext e68).congr fun j hj=>?_,e4.trans e68⟩⟩
   ·have he:e.1=(i:Int):=by simpa using he
    have hl1:=holds_le (arcs.take q) (out++[i]) jt
    have hl2:=holds_le (arcs.drop q) out jt
    rw[List.length_take] at hl1
    rw[List.length_drop] at hl2
    have hhb:=(holdB_new hni jt e).1 he
    have hone:holdB out jt e=true:=by rw[hhb.2,hjt];simp
    have hval:holds (arcs.drop q) out jt=holds (arcs.drop (q+1)) out jt+1:=by rw[hdr,holds_cons,hone];rfl
    refine⟨_,boxAt (cs:=aC e) u68.new 1 (Ch.refl _ _),b1,0,rfl,hte,(holds (arcs.take q) (out++[i]) jt+holds (arcs.drop q) out jt:Nat),by rw[Nat.zero_add];exact(hh4.ext e68).get hjn (by omega),b1,0,rfl,hte,rfl,(hh4.ext e68).put hjn (by omega) rfl fun w76 hf76 hC76=>⟨(by trivial),m4-1,by omega,q+1,hq',by omega,hwq,(ho4.ext e68).ch hC76 fun j hj e=>by have:=hbk55 j hj;omega,(hd4.ext e68).ch hC76 (by omega),hf76.congr fun j hj=>?_,(e4.trans e68).chN hC76 fun j e=>by omega⟩⟩
    rw[htk,holds_snoc,((holdB_new hni j e).1 he).1]
    by_cases h':j=jt
    ·subst h'
     rw[if_pos rfl,hval,wrap_of (by omega) (by omega)]
     congr 1
     simp
     omega
    ·rw[if_neg h',hdr,holds_cons,((holdB_new hni j e).1 he).2,hjt]
     have:((jt:Int) == (j:Int))=false:=by rw[beq_eq_false_iff_ne];intro h;exact h' (Int.ofNat.inj h).symm
     rw[this];simp
   ·have he:e.1≠(i:Int):=by simpa using he
    rw[htk,holds_snoc,hdr,holds_cons,(holdB_new hni j e).2 he]
    congr 1
    omega
  ·have hq':q=arcs.length:=by omega
   subst hq'
   have hml:=hrun'.len
   rw[List.length_append,List.length_singleton] at hml
   refine⟨(by trivial),m-1,by omega,out++[i],hrun',by rw[List.length_append,List.length_singleton];omega,ho4,hbk55,hh4.congr fun j _=>?_,hd4,e4⟩
   rw[List.take_length,List.drop_length];simp[holds]
 ·skip
  have hii:i=n:=by omega
  subst hii
  exact⟨s,out,rfl,⟨hrun,hlow⟩,hos,eV,fun j hj=>by have:=hbk j hj;have:=eW.size;omega⟩
theorem ArcsP.to{x:CatD}{hs:List Nd}{ys:List ArcD}(h:ArcsP x hs ys):∀e∈ys,0<=e.2.1/\e.2.1<(hs.length:Int):=fun e he=>by
 by_cases hM:HMay x hs
 ·exact(((h.mem hM e).1 he).q).2.1
 ·rw[h.no hM] at he;cases he
theorem c34{w:World}{v:CatV}{x:CatD}{t:Sl}{hs:List Nd}(h:CatM w v x)(hH:Hst w t hs)(hl:hs.length<=1000):
  Cw 34 #[cxV v,slV t] w fun r w'=>∃b,r=.bool b/\(b=true->HMay x hs)/\(HMay x hs->∃ys out,ArcsP x hs ys/\ToldP ys hs.length out/\(b=true↔out.length=hs.length))/\Ext w w':=by
 have htn:=hH.n
 refine F34_ok v t w _ fun b1 w2 a2=>?_
 have e2:Ext w w2:=a2.ch _
 refine⟨v,cxN h a2.new (Ch.refl _ _),(c84 (h.ext e2) (hH.ext e2)).use ?_⟩
 rintro _ w7 ⟨r,rfl,hr,e7⟩
 have E7:=e2.trans e7
 refine⟨r,rfl,IfB.intro (fun h1=>⟨v,cxN h a2.new e7,(c30 (h.ext E7) (hH.ext E7)).use ?_⟩) fun h1=>⟨false,rfl,fun h=>(by cases h),fun hM=>?_,E7⟩⟩
 ·rintro _ w13 ⟨s14,ys,rfl,hA,ho,hyl,e13,_⟩
  refine⟨s14,rfl,?_⟩
  rw[show (t.2:Int)=((hs.length:Nat):Int) by rw[htn]]
  refine(c95 ho.rd (by omega) hl hA.to).use ?_
  rintro _ w16 ⟨s17,out,rfl,hT,ho2,e16,_⟩
  have hn2:=ho2.len
  rw[List.length_map,Nat.mul_one] at hn2
  refine⟨s17,rfl,_,rfl,fun _=>hr.1 h1,fun _=>⟨ys,out,hA,hT,?_⟩,(E7.trans e13).trans e16⟩
  rw[beq_iff_eq,hn2]
  exact⟨fun h=>Int.ofNat.inj h,fun h=>by rw[h]⟩
 ·have h1:r=false:=h1
  rw[hr.2 hM] at h1;cases h1
theorem TRun.at{arcs:List ArcD}{n:Nat}{L:List Nat}(h:TRun arcs n L):∀ {p q:List Nat}{a:Nat},L=p++a::q->a<n/\a∉p/\holds arcs p a=0/\∀j,j<a->j∈p\/0<holds arcs p j:=by
 induction h with
 | nil=>intro p q a h;simp at h
 | @snoc out i h1 h2 h3 h4 h5 ih=>
  intro p q a h
  rcases List.eq_nil_or_concat q with rfl|⟨q',z,rfl⟩
  ·obtain⟨e1,e2⟩:=List.append_inj' h rfl
   cases e2;subst e1
   exact⟨h2,h3,h4,h5⟩
  ·have:out++[i]=(p++a::q')++[z]:=by rw[h];simp
   exact ih (List.append_inj' this rfl).1
theorem least{P:Nat->Prop}:∀ {n k:Nat},k<=n->P k->∃f,P f/\∀j,P j->f<=j:=by
 intro n
 induction n with
 | zero=>intro k hk h;exact⟨k,h,fun j _=>by omega⟩
 | succ n ih=>
  intro k hk h
  by_cases hx:∃j,j<=n/\P j
  ·obtain⟨j,hj,hp⟩:=hx;exact ih hj hp
  ·refine⟨k,h,fun j hj=>?_⟩
   rcases Nat.lt_or_ge j k with h'|h'
   ·exact absurd ⟨j,by omega,hj⟩ hx
   ·exact h'
theorem greatest{P:Nat->Prop}{n k:Nat}(h:P k)(hb:∀j,P j->j<n):∃l,P l/\∀j,P j->j<=l:=by
 obtain⟨m,⟨j,hj,hm⟩,hmin⟩:=least (P:=fun m=>∃j,P j/\m+j=n) (n:=n) (k:=n-k) (by omega) ⟨k,h,by have:=hb k h;omega⟩
 refine⟨j,hj,fun i hi=>?_⟩
 have h1:=hb i hi
 have h2:=hmin (n-i) ⟨i,hi,by omega⟩
 omega
theorem get_lt{α:Type}{l:List α}{i:Nat}{a:α}(h:l[i]? =some a):i<l.length:=(List.getElem?_eq_some_iff.1 h).1
theorem InP.sym{x:CatD}{hs:List Nd}(hM:HMay x hs){i k:Nat}{d:Int}(h:InP x hs i k d):InP x hs k i d:=by
 rcases h with rfl|⟨a,b,ha,hb,h1,h2,h3,h4⟩
 ·exact .inl rfl
 ·exact .inr ⟨b,a,hb,ha,h1.symm,h3,h2,by rw[hM.cls hb ha h1.symm];exact h4.symm⟩
theorem InP.tr{x:CatD}{hs:List Nd}(hM:HMay x hs){i j k:Nat}{d:Int}(h:InP x hs i j d)(g:InP x hs j k d):InP x hs i k d:=by
 rcases h with rfl|⟨a,b,ha,hb,h1,h2,h3,h4⟩
 ·exact g
 ·rcases g with rfl|⟨b',c,hb',hc,g1,g2,g3,g4⟩
  ·exact .inr ⟨a,b,ha,hb,h1,h2,h3,h4⟩
  ·rw[hb] at hb';cases hb'
   exact .inr ⟨a,c,ha,hc,h1.trans g1,h2,g3,h4.trans (by rw[hM.cls ha hb h1];exact g4)⟩
theorem InP.saga{x:CatD}{hs:List Nd}{i k:Nat}{d:Int}{a:Nd}(h:InP x hs i k d)(ha:hs[i]? =some a):∃b,hs[k]? =some b/\b.v.1=a.v.1:=by
 rcases h with rfl|⟨a',b,ha',hb,h1,_⟩
 ·exact⟨a,ha,rfl⟩
 ·rw[ha] at ha';cases ha';exact⟨b,hb,h1.symm⟩
theorem LstP.ex{x:CatD}{hs:List Nd}{i:Nat}(hi:i<hs.length)(d:Int):∃l,LstP x hs i d l:=greatest (P:=fun k=>InP x hs i k d) (.inl rfl) fun _ h=>h.lt hi
theorem FstP.ex{x:CatD}{hs:List Nd}{i:Nat}(hi:i<hs.length)(d:Int):∃l,FstP x hs i d l:=least (P:=fun k=>InP x hs i k d) (Nat.le_refl i) (.inl rfl)
def ArcE(x:CatD)(hs:List Nd)(a b:Nat):Prop:=∃c:Int,ArcIn x hs ((a:Int),(b:Int),c)
theorem arc_own{x:CatD}{hs:List Nd}:∀ {n i k:Nat}{m nd:Nd},i<=n->hs[k]? =some m->hs[i]? =some nd->m.v.1=nd.v.1->k<i->TC (ArcE x hs) k i:=by
 intro n
 induction n with
 | zero=>intro i k m nd h1 h2 h3 h4 h5;omega
 | succ n ih=>
  intro i k m nd h1 h2 h3 h4 h5
  obtain⟨j,⟨hj,nj,hnj,hsj⟩,hmax⟩:=greatest (P:=fun j=>j<i/\∃nj,hs[j]? =some nj/\nj.v.1=nd.v.1) (n:=i) (k:=k) ⟨h5,m,h2,h4⟩ fun j h=>h.1
  have harc:ArcE x hs j i:=⟨1,i,get_lt h3,.inl ⟨_,⟨nd,h3,.inr ⟨j,nj,hj,hnj,hsj,rfl,fun q mq g1 g2 g3 g4=>by have:=hmax q ⟨g2,mq,g3,g4⟩;omega⟩⟩,by simp⟩⟩
  have hkj:=hmax k ⟨h5,m,h2,h4⟩
  rcases Nat.lt_or_ge k j with h|h
  ·exact(ih (by omega) h2 hnj (h4.trans hsj.symm) h).more harc
  ·have:k=j:=by omega
   subst this;exact .one harc
theorem arc_btw{x:CatD}{hs:List Nd}{i k l f:Nat}{ni nk:Nd}(hd:Dp hs i k)(hi:hs[i]? =some ni)(hk:hs[k]? =some nk)(hne:nk.v.1≠ni.v.1)(hl:LstP x hs k ni.v.2.1 l)(hf:FstP x hs i nk.v.2.1 f):ArcE x hs k i/\ArcE x hs l i/\ArcE x hs k f:=by
 have h0:BtwP x hs k i [((k:Int),(i:Int),2),((l:Int),(i:Int),3),((k:Int),(f:Int),4)]:=⟨nk,ni,l,f,hk,hi,hl,hf,rfl⟩
 have h1:∀e,e∈[((k:Int),(i:Int),(2:Int)),((l:Int),(i:Int),3),((k:Int),(f:Int),4)]->ArcIn x hs e:=fun e he=>⟨i,get_lt hi,.inr ⟨k,_,hd,⟨ni,nk,hi,hk,hne⟩,h0,he⟩⟩
 exact⟨⟨2,h1 _ (by simp)⟩,⟨3,h1 _ (by simp)⟩,⟨4,h1 _ (by simp)⟩⟩
theorem arc_inv{x:CatD}{hs:List Nd}{a b:Nat}(h:ArcE x hs a b):(∃m n,a<b/\hs[a]? =some m/\hs[b]? =some n/\m.v.1=n.v.1)\/∃i k ni nk l f,Dp hs i k/\hs[i]? =some ni/\hs[k]? =some nk/\nk.v.1≠ni.v.1/\LstP x hs k ni.v.2.1 l/\FstP x hs i nk.v.2.1 f/\((a=k/\b=i)\/(a=l/\b=i)\/(a=k/\b=f)):=by
 obtain⟨c,i,hi,h⟩:=h
 rcases h with ⟨xs,⟨n,hn,h⟩,he⟩|⟨k,xs,hd,⟨ni,nk,h1,h2,h3⟩,⟨nk',ni',l,f,g1,g2,g3,g4,rfl⟩,he⟩
 ·rcases h with ⟨rfl,_⟩|⟨k,m,k1,k2,k3,rfl,_⟩
  ·cases he
  ·have:=List.mem_singleton.1 he
   simp only[Prod.mk.injEq] at this
   have ea:a=k:=by omega
   have eb:b=i:=by omega
   subst ea eb
   exact .inl ⟨m,n,k1,k2,hn,k3⟩
 ·rw[h2] at g1;rw[h1] at g2;cases g1;cases g2
  refine .inr ⟨i,k,ni,nk,l,f,hd,h1,h2,h3,g3,g4,?_⟩
  simp only[List.mem_cons,List.not_mem_nil,or_false,Prod.mk.injEq] at he
  omega
structure FairR(x:CatD)(hs:List Nd)(r:Nat->Nat):Prop where
 inj:∀i j,i<hs.length->j<hs.length->r i=r j->i=j
 keep:∀i k,EdP hs i k->r k<r i
 fair:∀o a b u no na,hs[o]? =some no->hs[a]? =some na->na.v.1≠no.v.1->InP x hs a b no.v.2.1->r a<=r o->r o<=r b->InP x hs a u no.v.2.1->¬(Dp hs o u\/Dp hs u o)
theorem dp_rank{hs:List Nd}{r:Nat->Nat}(h:∀i k,EdP hs i k->r k<r i){i k:Nat}(hd:Dp hs i k):r k<r i:=by
 induction hd with
 | one e=>exact h _ _ e
 | more _ e ih=>have:=h _ _ e;omega
theorem FairR.arc{x:CatD}{hs:List Nd}{r:Nat->Nat}(hM:HMay x hs)(h:FairR x hs r){a b:Nat}(e:ArcE x hs a b):r a<r b:=by
 rcases arc_inv e with ⟨m,n,h1,h2,h3,h4⟩|⟨i,k,ni,nk,l,f,hd,hi,hk,hne,hl,hf,hab⟩
 ·exact h.keep _ _ ⟨h1,n,m,h3,h2,.inl h4.symm⟩
 ·have hki:=dp_rank h.keep hd
  rcases hab with ⟨rfl,rfl⟩|⟨rfl,rfl⟩|⟨rfl,rfl⟩
  ·exact hki
  ·apply Nat.lt_of_not_le;intro hle
   exact h.fair b k a k ni nk hi hk hne hl.1 (by omega) hle (.inl rfl) (.inl hd)
  ·apply Nat.lt_of_not_le;intro hle
   obtain⟨nf,hnf,hsf⟩:=hf.1.saga hi
   exact h.fair a b i i nk nf hk hnf (by rw[hsf];exact fun e=>hne e.symm) (hf.1.sym hM) hle (by omega) (hf.1.sym hM) (.inr hd)
theorem tc_rank{E:Nat->Nat->Prop}{r:Nat->Nat}(h:∀a b,E a b->r a<r b){a b:Nat}(t:TC E a b):r a<r b:=by
 induction t with
 | one e=>exact h _ _ e
 | more _ e ih=>have:=h _ _ e;omega
theorem fair_of{x:CatD}{hs:List Nd}{r:Nat->Nat}(hM:HMay x hs)(inj:∀i j,i<hs.length->j<hs.length->r i=r j->i=j)(hr:∀a b,ArcE x hs a b->r a<r b):FairR x hs r:=by
 have own:∀ {k i:Nat}{m n:Nd},hs[k]? =some m->hs[i]? =some n->m.v.1=n.v.1->k<i->r k<r i:=fun h1 h2 h3 h4=>tc_rank hr (arc_own (Nat.le_refl _) h1 h2 h3 h4)
 have dp:∀ {i k:Nat},Dp hs i k->k<hs.length->i<hs.length->r k<r i:=fun{i k} hd hk hi=>by
  have hlt:=Dp_lt hd
  have gi:hs[i]? =some hs[i]:=List.getElem?_eq_getElem hi
  have gk:hs[k]? =some hs[k]:=List.getElem?_eq_getElem hk
  by_cases he:hs[k].v.1=hs[i].v.1
  ·exact own gk gi he hlt
  ·obtain⟨l,hl⟩:=LstP.ex (x:=x) hk hs[i].v.2.1
   obtain⟨f,hf⟩:=FstP.ex (x:=x) hi hs[k].v.2.1
   exact hr _ _ (arc_btw hd gi gk he hl hf).1
 refine⟨inj,fun i k h=>?_,fun o a b u no na ho ha hne hab h1 h2 hau hd=>?_⟩
 ·obtain⟨hlt,a,b,ga,gb,_⟩:=id h
  exact dp (.one h) (get_lt gb) (get_lt ga)
 ·obtain⟨nu,hu,hsu⟩:=hau.saga ha
  obtain⟨nb,hb,hsb⟩:=hab.saga ha
  rcases hd with hd|hd
  ·obtain⟨l,hl⟩:=LstP.ex (x:=x) (get_lt hu) no.v.2.1
   obtain⟨f,hf⟩:=FstP.ex (x:=x) (get_lt ho) nu.v.2.1
   have h3:=hr _ _ (arc_btw hd ho hu (by rw[hsu];exact hne) hl hf).2.1
   have hbl:=hl.2 b ((hau.sym hM).tr hM hab)
   obtain⟨nl,hnl,hsl⟩:=hl.1.saga hu
   rcases Nat.lt_or_ge b l with h'|h'
   ·have:=own hb hnl (hsb.trans (hsu.symm.trans hsl.symm)) h';omega
   ·have:b=l:=by omega
    subst this;omega
  ·obtain⟨l,hl⟩:=LstP.ex (x:=x) (get_lt ho) nu.v.2.1
   obtain⟨f,hf⟩:=FstP.ex (x:=x) (get_lt hu) no.v.2.1
   have h3:=hr _ _ (arc_btw hd hu ho (by rw[hsu];exact fun e=>hne e.symm) hl hf).2.2
   have hfa:=hf.2 a (hau.sym hM)
   obtain⟨nf,hnf,hsf⟩:=hf.1.saga hu
   rcases Nat.lt_or_ge f a with h'|h'
   ·have:=own hnf ha (hsf.trans hsu) h';omega
   ·have:f=a:=by omega
    subst this;omega
def pos:List Nat->Nat->Nat
 | [],_=>0
 | x::l,i=>if x=i then 0 else pos l i+1
theorem pos_mem:∀ {p:List Nat}{a:Nat}(q:List Nat),a∈p->pos (p++q) a<p.length
 | x::p,a,q,h=>by
  rw[List.cons_append,pos,List.length_cons]
  by_cases e:x=a
  ·rw[if_pos e];omega
  ·rw[if_neg e]
   have:=pos_mem (p:=p) q ((List.mem_cons.1 h).resolve_left fun h=>e h.symm)
   omega
theorem pos_not:∀ {p:List Nat}{b:Nat}(q:List Nat),b∉p->pos (p++b::q) b=p.length
 | [],b,q,_=>by rw[List.nil_append,pos,if_pos rfl];rfl
 | x::p,b,q,h=>by
  rw[List.cons_append,pos,if_neg (fun e=>h (by rw[e];exact List.mem_cons_self ..)),pos_not q fun h'=>h (List.mem_cons_of_mem _ h'),List.length_cons]
theorem pos_get:∀ {l:List Nat}{a:Nat},a∈l->l[pos l a]? =some a
 | x::l,a,h=>by
  rw[pos]
  by_cases e:x=a
  ·rw[if_pos e,e];rfl
  ·rw[if_neg e,List.getElem?_cons_succ]
   exact pos_get ((List.mem_cons.1 h).resolve_left fun h=>e h.symm)
theorem full_mem{out:List Nat}{n:Nat}(hn:out.Nodup)(hl:∀i∈out,i<n)(h:out.length=n){i:Nat}(hi:i<n):i∈out:=by
 refine Classical.byContradiction fun hno=>?_
 have:=nodup_le (a:=i::out) (b:=List.range n) (List.nodup_cons.2 ⟨hno,hn⟩) fun j hj=>by
  rcases List.mem_cons.1 hj with rfl|hj
  ·exact List.mem_range.2 hi
  ·exact List.mem_range.2 (hl j hj)
 rw[List.length_cons,List.length_range] at this
 omega
theorem full_miss{out:List Nat}{n:Nat}(h:out.length<n):∃i,i<n/\i∉out:=by
 refine Classical.byContradiction fun hno=>?_
 have:=nodup_le (a:=List.range n) (b:=out) List.nodup_range fun j hj=>Classical.byContradiction fun h'=>hno ⟨j,List.mem_range.1 hj,h'⟩
 rw[List.length_range] at this
 omega
theorem holds_pos{arcs:List ArcD}{out:List Nat}{j:Nat}:0<holds arcs out j↔∃e∈arcs,e.2.1=(j:Int)/\∀k∈out,e.1≠(k:Int):=by
 unfold holds
 rw[List.countP_pos_iff]
 refine exists_congr fun e=>and_congr_right fun _=>?_
 unfold holdB
 rw[Bool.and_eq_true,beq_iff_eq,Bool.not_eq_true']
 refine and_congr_right fun _=>⟨fun h k hk he=>?_,fun h=>?_⟩
 ·rw[List.any_eq_false] at h
  exact h k hk (beq_iff_eq.2 he)
 ·rw[List.any_eq_false]
  exact fun k hk he=>h k hk (beq_iff_eq.1 he)
theorem told_rank{arcs:List ArcD}{n:Nat}{out:List Nat}(hT:ToldP arcs n out)(hl:out.length=n){a b:Nat}{c:Int}(he:((a:Int),(b:Int),c)∈arcs)(hb:b<n):pos out a<pos out b:=by
 have hnd:=hT.run.nodup
 obtain⟨p,q,hpq⟩:=List.append_of_mem (full_mem hnd.1 hnd.2 hl hb)
 obtain⟨h1,h2,h3,_⟩:=hT.run.at hpq
 have:¬0<holds arcs p b:=by omega
 rw[holds_pos] at this
 have ha:a∈p:=Classical.byContradiction fun h=>this ⟨_,he,rfl,fun k hk e=>h (by rw[show a=k from Int.ofNat.inj e];exact hk)⟩
 rw[hpq,pos_not q h2]
 exact pos_mem _ ha
theorem told_full{arcs:List ArcD}{n:Nat}{out:List Nat}(hT:ToldP arcs n out){r:Nat->Nat}(hr:∀e∈arcs,∃a b:Nat,e.1=(a:Int)/\e.2.1=(b:Int)/\a<n/\r a<r b):out.length=n:=by
 have hlen:=hT.run.len
 refine Classical.byContradiction fun hne=>?_
 obtain⟨i0,h0,h0'⟩:=full_miss (out:=out) (n:=n) (by omega)
 obtain⟨m,⟨i,hi,hio,rfl⟩,hmin⟩:=least (P:=fun m=>∃i,i<n/\i∉out/\r i=m) (Nat.le_refl _) ⟨i0,h0,h0',rfl⟩
 obtain⟨e,he,h1,h2⟩:=holds_pos.1 ((hT.all i hi).resolve_left hio)
 obtain⟨a,b,ha,hb,han,hab⟩:=hr e he
 have:b=i:=Int.ofNat.inj (hb.symm.trans h1)
 subst this
 have:=hmin (r a) ⟨a,han,fun h=>h2 a h ha,rfl⟩
 omega
theorem arc_of{x:CatD}{hs:List Nd}{ys:List ArcD}(hM:HMay x hs)(hA:ArcsP x hs ys){e:ArcD}(he:e∈ys):∃a b:Nat,e.1=(a:Int)/\e.2.1=(b:Int)/\a<hs.length/\b<hs.length/\ArcE x hs a b:=by
 have h:=(hA.mem hM e).1 he
 obtain⟨⟨h1,h2⟩,⟨h3,h4⟩,_⟩:=h.q
 obtain⟨e1,e2,e3⟩:=e
 obtain⟨a,rfl⟩:=Int.eq_ofNat_of_zero_le h1
 obtain⟨b,rfl⟩:=Int.eq_ofNat_of_zero_le h3
 exact⟨a,b,rfl,rfl,by dsimp only at h2;omega,by dsimp only at h4;omega,e3,h⟩
theorem ArcE.lt{x:CatD}{hs:List Nd}{a b:Nat}(h:ArcE x hs a b):a<hs.length/\b<hs.length:=by
 obtain⟨c,h⟩:=h
 have:=h.q
 dsimp only at this
 omega
theorem told_fair{x:CatD}{hs:List Nd}{ys:List ArcD}{out:List Nat}(hM:HMay x hs)(hA:ArcsP x hs ys)(hT:ToldP ys hs.length out)(hl:out.length=hs.length):FairR x hs (pos out):=by
 have hnd:=hT.run.nodup
 refine fair_of hM (fun i j hi hj e=>?_) fun a b ⟨c,h⟩=>told_rank hT hl ((hA.mem hM _).2 h) (ArcE.lt ⟨c,h⟩).2
 have h1:=pos_get (full_mem hnd.1 hnd.2 hl hi)
 have h2:=pos_get (full_mem hnd.1 hnd.2 hl hj)
 rw[e,h2] at h1
 exact(Option.some.inj h1).symm
theorem told_iff{x:CatD}{hs:List Nd}{ys:List ArcD}{out:List Nat}(hM:HMay x hs)(hA:ArcsP x hs ys)(hT:ToldP ys hs.length out):out.length=hs.length↔∃r,FairR x hs r:=
 ⟨fun h=>⟨_,told_fair hM hA hT h⟩,fun⟨r,h⟩=>told_full hT (r:=r) fun e he=>by
  obtain⟨a,b,h1,h2,h3,h4,h5⟩:=arc_of hM hA he
  exact⟨a,b,h1,h2,h3,h.arc hM h5⟩⟩
theorem HMay.other{x y:CatD}{hs:List Nd}(h:HMay x hs)(hc:CatOk y)(he:y.1=x.1):HMay y hs:=by
 refine⟨hc,h.len,fun i n hn=>?_⟩
 have o:=h.ok i n hn
 exact⟨o.s0,o.c0,by rw[he];exact o.cn,o.st0,o.rs,o.ws,by unfold nSt;rw[he];exact o.nx⟩
theorem mem_erase{α:Type}:∀ {l:List α}{i:Nat}{t x:α},l[i]? =some x->t∈l->t≠x->t∈l.eraseIdx i
 | y::l,0,t,x,hx,ht,hn=>by
  cases hx
  exact(List.mem_cons.1 ht).resolve_left hn
 | y::l,i+1,t,x,hx,ht,hn=>by
  rw[List.eraseIdx_cons_succ]
  rcases List.mem_cons.1 ht with rfl|ht
  ·exact List.mem_cons_self ..
  ·exact List.mem_cons_of_mem _ (mem_erase hx ht hn)
theorem freeB_iff2{ah:List (Int×Int)}{left:List Int}{s:Int}:freeB ah left s=true↔∀p∈ah,p.2=s->p.1∉left:=by
 unfold freeB waitB
 rw[Bool.not_eq_true',List.any_eq_false]
 refine forall_congr' fun p=>forall_congr' fun hp=>?_
 simp only[Bool.and_eq_true,beq_iff_eq,decide_eq_true_eq,List.contains_iff_mem,not_and]
theorem ordGo_rank{ah:List (Int×Int)}:∀ {n:Nat}{left out:List Int},left.length=n->(ordGo ah n left out).2=true->∃f:Int->Nat,(∀s t,s∈left->t∈left->f s=f t->s=t)/\∀p∈ah,p.1∈left->p.2∈left->f p.1<f p.2:=by
 intro n
 induction n with
 | zero=>
  intro left out hl _
  have:left=[]:=List.eq_nil_of_length_eq_zero hl
  subst this
  exact⟨fun _=>0,fun s t hs=>(by cases hs),fun p _ h=>(by cases h)⟩
 | succ n ih=>
  intro left out hl h
  unfold ordGo at h
  cases hf:left.findIdx? (freeB ah left) with
  | none=>rw[hf] at h;cases h
  | some i=>
   rw[hf] at h
   dsimp only at h
   obtain⟨hi,hfree,_⟩:=List.findIdx?_eq_some_iff_getElem.1 hf
   have hx:left[i]? =some left[i]:=List.getElem?_eq_getElem hi
   have hlen:(left.eraseIdx i).length=n:=by rw[List.length_eraseIdx,if_pos hi];omega
   generalize left[i]=x at hx hfree
   obtain⟨f,hinj,hlt⟩:=ih hlen h
   have hx0:∀t,t=x->(if t=x then 0 else f t+1)=0:=fun t e=>if_pos e
   have hx1:∀t,t≠x->(if t=x then 0 else f t+1)=f t+1:=fun t e=>if_neg e
   refine⟨fun t=>if t=x then 0 else f t+1,fun s t hs ht e=>?_,fun p hp h1 h2=>?_⟩
   ·(try dsimp only at e)
    by_cases es:s=x<;>by_cases et:t=x
    ·rw[es,et]
    ·rw[hx0 s es,hx1 t et] at e;omega
    ·rw[hx1 s es,hx0 t et] at e;omega
    ·rw[hx1 s es,hx1 t et] at e
     exact hinj s t (mem_erase hx hs es) (mem_erase hx ht et) (by omega)
   ·(try dsimp only)
    have h3:p.2≠x:=fun e=>freeB_iff2.1 hfree p hp e h1
    rw[hx1 _ h3]
    by_cases e:p.1=x
    ·rw[hx0 _ e];omega
    ·rw[hx1 _ e]
     have:=hlt p hp (mem_erase hx h1 e) (mem_erase hx h2 h3)
     omega
theorem ordGo_full{ah:List (Int×Int)}{f:Int->Nat}:∀ {n:Nat}{left out:List Int},left.length=n->(∀p∈ah,p.1∈left->p.2∈left->f p.1<f p.2)->(ordGo ah n left out).2=true:=by
 intro n
 induction n with
 | zero=>intro left out _ _;rfl
 | succ n ih=>
  intro left out hl h
  unfold ordGo
  cases hf:left.findIdx? (freeB ah left) with
  | none=>
   exfalso
   have hno:=List.findIdx?_eq_none_iff.1 hf
   have hx:left[0]? =some (left[0]'(by omega)):=List.getElem?_eq_getElem (by omega)
   obtain⟨m,⟨s,hs,rfl⟩,hmin⟩:=least (P:=fun m=>∃s,s∈left/\f s=m) (Nat.le_refl _) ⟨_,List.mem_of_getElem? hx,rfl⟩
   have:=hno s hs
   rw[Bool.eq_false_iff] at this
   refine this (freeB_iff2.2 fun p hp e h1=>?_)
   have h2:=h p hp h1 (e ▸ hs)
   have h3:=hmin _ ⟨p.1,h1,rfl⟩
   rw[e] at h2
   omega
  | some i=>
   (try dsimp only)
   obtain⟨hi,_,_⟩:=List.findIdx?_eq_some_iff_getElem.1 hf
   have sub:∀ {t:Int},t∈left.eraseIdx i->t∈left:=fun ht=>(List.eraseIdx_sublist left i).subset ht
   exact ih (by rw[List.length_eraseIdx,if_pos hi];omega) fun p hp h1 h2=>h p hp (sub h1) (sub h2)
theorem InP.whole{x:CatD}{hs:List Nd}(hM:HMay x hs)(hcl:∀c d i,brkB x c d i=false)(hb:∀n∈hs,n.v.2.2.2.1=false){i k:Nat}{d:Int}{a b:Nd}(ha:hs[i]? =some a)(hb':hs[k]? =some b)(he:a.v.1=b.v.1):InP x hs i k d:=by
 refine .inr ⟨a,b,ha,hb',he,hb a (List.mem_of_getElem? ha),hb b (List.mem_of_getElem? hb'),?_⟩
 have u0:∀c d k,unitN x c d k=0:=fun c d k=>by
  induction k with
  | zero=>rfl
  | succ k ih=>rw[unitN,ih,hcl];rfl
 unfold uN
 rw[u0,u0]
theorem cnfP_sym{a b:Nd}(h:cnfP a b):cnfP b a:=by
 obtain⟨h1,h2⟩:=h
 refine⟨fun e=>h1 e.symm,?_⟩
 have sw:∀ {xs ys:List Spn},mtP xs ys->mtP ys xs:=fun⟨k,q1,q2⟩=>⟨k,q2,q1⟩
 rcases h2 with h|h|h
 ·exact .inr (.inr (sw h))
 ·exact .inr (.inl (sw h))
 ·exact .inl (sw h)
theorem serial_fair{x:CatD}{hs:List Nd}{l:List Int}{ah:List (Int×Int)}(hM:HMay x hs)(hcl:∀c d i,brkB x c d i=false)(hb:∀n∈hs,n.v.2.2.2.1=false)(hl:SgL hs l)(ha:∀p,p∈ah↔AhP hs p):(ordGo ah l.length l []).2=true↔∃r,FairR x hs r:=by
 have hlen:=hM.len
 constructor
 ·intro h
  obtain⟨f,hinj,hlt⟩:=ordGo_rank rfl h
  have hf:∀ {i:Nat}{n:Nd},hs[i]? =some n->(match hs[i]? with|some n=>f n.v.1*1000+i|none=>i)=f n.v.1*1000+i:=fun hn=>by rw[hn]
  have hmem:∀ {i:Nat}{n:Nd},hs[i]? =some n->n.v.1∈l:=fun hn=>(hl.mem _).2 ⟨_,List.mem_of_getElem? hn,rfl⟩
  refine⟨fun i=>match hs[i]? with|some n=>f n.v.1*1000+i|none=>i,fun i j hi hj e=>?_,fun i k ⟨hlt',a,b,ga,gb,hd⟩=>?_,fun o a b u no na ho ha' hne hab h1 h2 hau hd=>?_⟩
  ·(try dsimp only at e)
   rw[hf (List.getElem?_eq_getElem hi),hf (List.getElem?_eq_getElem hj)] at e
   omega
  ·(try dsimp only)
   rw[hf ga,hf gb]
   have:=get_lt ga
   rcases hd with hd|hd
   ·rw[hd];omega
   ·have hp:(b.v.1,a.v.1)∈ah:=(ha _).2 ⟨k,i,b,a,hlt',gb,ga,rfl,cnfP_sym hd⟩
    have:=hlt _ hp (hmem gb) (hmem ga)
    (try dsimp only at this)
    omega
  ·(try dsimp only at h1 h2)
   obtain⟨nb,hnb,hsb⟩:=hab.saga ha'
   rw[hf ha',hf ho] at h1
   rw[hf ho,hf hnb,hsb] at h2
   have:=get_lt ho;have:=get_lt ha';have:=get_lt hnb
   exact hne (hinj _ _ (hmem ha') (hmem ho) (by omega))
 ·rintro⟨r,h⟩
  have hmin:∀s:Int,∃m,s∈l->(∃i n,hs[i]? =some n/\n.v.1=s/\r i=m)/\∀i n,hs[i]? =some n->n.v.1=s->m<=r i:=fun s=>by
   by_cases hs':s∈l
   ·obtain⟨n,hn,he⟩:=(hl.mem s).1 hs'
    obtain⟨i,hi,rfl⟩:=List.getElem_of_mem hn
    obtain⟨m,hm,hall⟩:=least (P:=fun m=>∃i n,hs[i]? =some n/\n.v.1=s/\r i=m) (Nat.le_refl _) ⟨i,_,List.getElem?_eq_getElem hi,he,rfl⟩
    exact⟨m,fun _=>⟨hm,fun i n h1 h2=>hall _ ⟨i,n,h1,h2,rfl⟩⟩⟩
   ·exact⟨0,fun h=>absurd h hs'⟩
  refine ordGo_full (f:=fun s=>(hmin s).choose) rfl fun p hp h1 h2=>?_
  obtain⟨k,j,a,b,hkj,ga,gb,rfl,hc⟩:=(ha p).1 hp
  have q1:=(hmin a.v.1).choose_spec h1
  obtain⟨⟨m,nm,gm,hms,hrm⟩,_⟩:=(hmin b.v.1).choose_spec h2
  have q2:=q1.2 k a ga rfl
  have hE:EdP hs j k:=⟨hkj,b,a,gb,ga,.inr (cnfP_sym hc)⟩
  have hrk:=h.keep j k hE
  dsimp only
  rw[<-hrm]
  refine Nat.lt_of_le_of_lt q2 (Nat.lt_of_not_le fun hle=>?_)
  exact h.fair k m j j a nm ga gm (by rw[hms];exact fun e=>hc.1 e.symm) (InP.whole hM hcl hb gm gb hms) hle (by omega) (InP.whole hM hcl hb gm gb hms) (.inr (.one hE))
def closedD(x:CatD):CatD:=(x.1,List.replicate 16 0)
theorem brk_closed{x:CatD}(c d:Nat):brk (closedD x) c d=0:=by
 unfold brk closedD
 dsimp only
 rw[List.getD_eq_getElem?_getD,List.getElem?_replicate]
 split<;>rfl
theorem closed_ok{x:CatD}(h:CatOk x):CatOk (closedD x):=by
 refine⟨h.n1,h.n4,h.cls,h.names,fun c d hc hd=>?_⟩
 rw[brk_closed]
 unfold topB
 split
 ·exact⟨Int.le_refl _,by have:=(pow_range (Nat.le_refl (nSt (closedD x) c-1))).1;omega⟩
 ·exact⟨Int.le_refl _,by omega⟩
theorem closed_brk{x:CatD}(c d i:Nat):brkB (closedD x) c d i=false:=by
 unfold brkB
 rw[brk_closed]
 simp
theorem rep_one{A:Nat->Prop}{w:World}:∀ {t:Ty}{x:t.den}{cs:List Value},rep A w t x cs->One cs
 | .int _,_,_,h=>by rw[h.1];intro v hv;rw[List.mem_singleton.1 hv];rfl
 | .bool,_,_,h=>by rw[show _=_ from h];intro v hv;rw[List.mem_singleton.1 hv];rfl
 | .str,_,_,h=>by rw[h.1];intro v hv;rw[List.mem_singleton.1 hv];rfl
 | .pair a b,_,_,h=>by
  obtain⟨c,d,rfl,h1,h2⟩:=h
  exact One.append (rep_one h1) (rep_one h2)
 | .sl e,_,_,h=>by obtain⟨s,rfl,_⟩:=h;intro v hv;rw[List.mem_singleton.1 hv];rfl
 | .arr n e,l,_,h=>by
  obtain⟨hn,css,hl,hr,rfl⟩:=h
  intro v hv
  obtain⟨c,hc,hv⟩:=List.mem_flatten.1 hv
  obtain⟨i,hi,rfl⟩:=List.getElem_of_mem hc
  exact rep_one (hr i _ _ (List.getElem?_eq_getElem hi) (List.getElem?_eq_getElem (by omega))) v hv
def flatT:Ty->Bool
 | .pair a b=>flatT a&&flatT b
 | .sl _=>false
 | .arr _ e=>flatT e
 | _=>true
theorem rep_flat{A B:Nat->Prop}{w w':World}:∀ {t:Ty}{x:t.den}{cs:List Value},flatT t=true->rep A w t x cs->rep B w' t x cs
 | .int _,_,_,_,h=>h
 | .bool,_,_,_,h=>h
 | .str,_,_,_,h=>h
 | .pair a b,_,_,hf,h=>by
  obtain⟨c,d,rfl,h1,h2⟩:=h
  unfold flatT at hf
  rw[Bool.and_eq_true] at hf
  exact⟨c,d,rfl,rep_flat hf.1 h1,rep_flat hf.2 h2⟩
 | .arr n e,l,_,hf,h=>by
  obtain⟨hn,css,hl,hr,rfl⟩:=h
  exact⟨hn,css,hl,fun i c x hc hx=>rep_flat (t:=e) hf (hr i c x hc hx),rfl⟩
abbrev RS(A:Nat->Prop)(w:World)(e:Ty)(s:Sl)(l:List e.den):Prop:=rep A w (.sl e) l [slV s]
theorem RS.mk{A:Nat->Prop}{w:World}{e:Ty}{s:Sl}{l:List e.den}{css:List (List Value)}(hl:css.length=l.length)(hr:∀(i:Nat) c x,css[i]? =some c->l[i]? =some x->rep A w e x c)(hR:Rd w s e.sz css.flatten)(hn:s.n=l.length)(hc:s.n<=s.c)(hm:s.n<=maxLen)(hA:∀i∈blk s,A i):RS A w e s l:=
 ⟨s,rfl,hn,hc,hm,fun _=>hA,css,hl,hr,hR⟩
theorem RS.mono{A B:Nat->Prop}{w:World}{e:Ty}{s:Sl}{l:List e.den}(h:RS A w e s l)(hB:∀i,A i->B i):RS B w e s l:=rep_mono hB h
theorem RS.all{A:Nat->Prop}{w:World}{e:Ty}{s:Sl}{l:List e.den}(h:RS A w e s l):SlR w e s l:=rep_mono (fun _ _=>trivial) h
theorem RS.ch{A F:Nat->Prop}{w w':World}{e:Ty}{s:Sl}{l:List e.den}(h:RS A w e s l)(hc:Ch F w w')(hF:∀i,A i->¬F i):RS A w' e s l:=rep_ch hc hF h
theorem SlR.copy{w:World}{e:Ty}{s:Sl}{l:List e.den}(h:SlR w e s l)(hf:flatT e=true):∃cs,Rd w s e.sz cs/\One cs/\∀(A:Nat->Prop) w' t',OwS w' t' e.sz cs->t'.n=s.n->(∀i∈blk t',A i)->RS A w' e t' l:=by
 obtain⟨css,h1,h2,h3⟩:=h.rd
 have hn:=h.n
 have hc:=h.cap
 refine⟨_,h3,fun v hv=>?_,fun A w' t' ho hn' hA=>RS.mk h1 (fun i c x hc hx=>rep_flat hf (h2 i c x hc hx)) ho.rd (by omega) ho.cap (by omega) hA⟩
 obtain⟨c,hc,hv⟩:=List.mem_flatten.1 hv
 obtain⟨i,hi,rfl⟩:=List.getElem_of_mem hc
 exact rep_one (h2 i _ _ (List.getElem?_eq_getElem hi) (List.getElem?_eq_getElem (by omega))) v hv
theorem flatMap_flat{α:Type}(f:α->List Value)(l:List α):(l.map f).flatten=l.flatMap f:=by rw[List.flatMap_def]
theorem le_max{n:Nat}(h:n<=1000000):n<=maxLen:=Nat.le_trans h (by decide+kernel)
abbrev StpN(A:Nat->Prop)(w:World)(s:Sl×Sl)(x:StpD):Prop:=RS A w tyIns s.1 x.1/\RS A w tySpT s.2 x.2
theorem rep_stpN{A:Nat->Prop}{w:World}{x:StpD}{cs:List Value}(h:rep A w tyStp x cs):∃s:Sl×Sl,cs=stC s/\StpN A w s x:=by
 obtain⟨c,d,rfl,h1,h2⟩:=h
 obtain⟨s,rfl,_⟩:=id h1
 obtain⟨t,rfl,_⟩:=id h2
 exact⟨(s,t),rfl,h1,h2⟩
theorem RS.steps{A:Nat->Prop}{w:World}{s:Sl}{l:List StpD}(h:RS A w tyStp s l):∃ss:List (Sl×Sl),ss.length=l.length/\Rd w s 2 (ss.flatMap stC)/\∀(i:Nat) y x,ss[i]? =some y->l[i]? =some x->StpN A w y x:=by
 obtain⟨t,ns,ht,h1,h2,h3,h4,h5,h6⟩:=rep_list (f:=stC) (Q:=fun x n=>StpN A w n x) h fun x _ c hc=>rep_stpN hc
 have:=slEq ht;subst this
 exact⟨ns,h2,h1,fun i y x hy hx=>h6 i x y hx hy⟩
theorem RS.mkSteps{A:Nat->Prop}{w:World}{s:Sl}{l:List StpD}{ss:List (Sl×Sl)}(hl:ss.length=l.length)(ho:OwS w s 2 (ss.flatMap stC))(hm:l.length<=1000000)(hr:∀(i:Nat) y x,ss[i]? =some y->l[i]? =some x->StpN A w y x)(hA:∀i∈blk s,A i):RS A w tyStp s l:=by
 have h1:=ho.len
 have h2:(ss.flatMap stC).length=ss.length*2:=flatLen stC_len _
 have h3:s.n=l.length:=by omega
 refine RS.mk (css:=ss.map stC) (by simp[hl]) (fun i c x hc hx=>?_) (by rw[flatMap_flat];exact ho.rd) h3 ho.cap (le_max (by omega)) hA
 rw[List.getElem?_map] at hc
 obtain⟨y,hy,rfl⟩:=Option.map_eq_some_iff.1 hc
 obtain⟨g1,g2⟩:=hr i y x hy hx
 exact⟨[_],[_],rfl,g1,g2⟩
structure ClsN(A:Nat->Prop)(w:World)(v:ClsV)(x:ClsD):Prop where
 nm:v.1=x.1
 ar:v.2.1=x.2.1
 st:RS A w tyStp v.2.2.1 x.2.2.1
 co:RS A w tyStp v.2.2.2.1 x.2.2.2.1
 re:v.2.2.2.2=x.2.2.2.2
 sz:x.1.size<=maxLen
theorem ClsN.ch{A F:Nat->Prop}{w w':World}{v:ClsV}{x:ClsD}(h:ClsN A w v x)(hc:Ch F w w')(hF:∀i,A i->¬F i):ClsN A w' v x:=⟨h.nm,h.ar,h.st.ch hc hF,h.co.ch hc hF,h.re,h.sz⟩
theorem ClsN.ext{A:Nat->Prop}{w w':World}{v:ClsV}{x:ClsD}(h:ClsN A w v x)(e:Ext w w'):ClsN A w' v x:=h.ch e fun _ _=>id
theorem rep_clsN{A:Nat->Prop}{w:World}{x:ClsD}{cs:List Value}(h:rep A w tyCls x cs):∃v:ClsV,cs=clsC v/\ClsN A w v x:=by
 obtain⟨c1,d1,rfl,⟨rfl,hz⟩,c2,d2,rfl,⟨rfl,_⟩,c3,d3,rfl,h3,c4,d4,rfl,h4,h5⟩:=h
 have h5:d4=[.bool x.2.2.2.2]:=h5
 subst h5
 obtain⟨s,e3,_⟩:=id h3
 obtain⟨t,e4,_⟩:=id h4
 subst e3;subst e4
 exact⟨(x.1,x.2.1,s,t,x.2.2.2.2),rfl,rfl,rfl,h3,h4,rfl,hz⟩
theorem RS.classes{A:Nat->Prop}{w:World}{s:Sl}{l:List ClsD}(h:RS A w tyCls s l):∃vs:List ClsV,vs.length=l.length/\Rd w s 5 (vs.flatMap clsC)/\∀(i:Nat) y x,vs[i]? =some y->l[i]? =some x->ClsN A w y x:=by
 obtain⟨t,ns,ht,h1,h2,h3,h4,h5,h6⟩:=rep_list (f:=clsC) (Q:=fun x n=>ClsN A w n x) h fun x _ c hc=>rep_clsN hc
 have:=slEq ht;subst this
 exact⟨ns,h2,h1,fun i y x hy hx=>h6 i x y hx hy⟩
theorem RS.mkClasses{A:Nat->Prop}{w:World}{s:Sl}{l:List ClsD}{vs:List ClsV}(hl:vs.length=l.length)(ho:OwS w s 5 (vs.flatMap clsC))(hm:l.length<=1000000)(har:∀x∈l, -9223372036854775808<=x.2.1/\x.2.1<=9223372036854775807)(hr:∀(i:Nat) y x,vs[i]? =some y->l[i]? =some x->ClsN A w y x)(hA:∀i∈blk s,A i):RS A w tyCls s l:=by
 have h1:=ho.len
 have h2:(vs.flatMap clsC).length=vs.length*5:=flatLen clsC_len _
 have h3:s.n=l.length:=by omega
 refine RS.mk (css:=vs.map clsC) (by simp[hl]) (fun i c x hc hx=>?_) (by rw[flatMap_flat];exact ho.rd) h3 ho.cap (le_max (by omega)) hA
 rw[List.getElem?_map] at hc
 obtain⟨y,hy,rfl⟩:=Option.map_eq_some_iff.1 hc
 obtain⟨y1,y2,y3,y4,y5⟩:=y
 obtain⟨g1,g2,g3,g4,g5,g6⟩:=hr i _ x hy hx
 dsimp only at g1 g2 g3 g4 g5
 subst g1;subst g2;subst g5
 exact⟨[_],_,rfl,⟨rfl,g6⟩,[_],_,rfl,⟨rfl,har x (List.mem_of_getElem? hx)⟩,[_],_,rfl,g3,[_],_,rfl,g4,rfl⟩
def GxOUby0:ByteArray:=(ByteArray.mk (Array.mk ([] )))
set_option linter.unusedVariables false
set_option maxRecDepth 100000
def F147j1(R:RV)(s3:Sl)(y4:Nat->Int->World->Prop)(b6:Nat)(n7:Int)(w8:World):Prop:=IfB (decide (n7<(s3.n:Int))) (Qx s3.1 n7 (s3.2:Int) fun b11 b12=>∃(x13:Sl×Sl),CellsAt w8 b11 (b12+n7.toNat*2) [Qy x13.fst,Qy x13.snd]/\AllocP w8 (Obj.cells #[Value.slice none 0 0,Value.slice none 0 0] 99) fun b14 w15=>#[Qy x13.fst,Qy x13.snd].size=2/\StoreP w15 b14 0 [Qy x13.fst,Qy x13.snd] fun w16=>Qs w16.drew b14 (0+0) fun s17=>Qs w16.drew b14 (0+1) fun s18=>Qu' 196 #[Qy s17] w16.drew fun s21 w20=>w20.cell? ⟨b14,0+1,none⟩=some (Qy s18)/\Qu' 197 #[Qy s18] w20 fun s24 w23=>Qx s3.1 n7 (s3.2:Int) fun b25 b26=>#[Qy s21,Qy s24].size=2/\StoreP w23 b25 (b26+n7.toNat*2) [Qy s21,Qy s24] fun w27=>Qn y4 b6 (IntKind.i64.wrap (n7+1)) w27) (R (Qy s3) w8)
theorem F147_ok(t0:Sl)(w:World)(R:RV)(h:Cx 195 #[Qy t0] w fun v1 w2=>∃s3:Sl,v1=Qy s3/\Ql (α:=Int) 0 w2 fun y4 b6 n7 w8=>(F147j1 R s3 y4 b6 n7 w8)):Cw 147 #[Qy t0] w R:=
 ckF Tryz.func147 (nd (nd (.node (nd (.loop [(10,oi)] (rg [4,5,10,25]) (nd (nd (.node (nd (.draw (sts [0,1,2,3,5,6] (.ac 4 [6,5,1,0] (.ac 7 [1,0] (sts [8,9] (.ac 10 [] .fin .non)) .non) .non)))) .nil))))) .nil))) h (by kernel_rfl) (by kernel_rfl)
def F78k1(s10:Sl)(n14:Int)(w15:World)(b1:Nat)(b13:Nat)(y11:Nat->Int->World->Prop):Prop:=Qx s10.1 n14 (s10.2:Int) fun b18 b19=>∃(x20:ByteArray×Int×Sl×Sl×Bool),CellsAt w15 b18 (b19+n14.toNat*5) (lC49 x20)/\AllocP w15 (Obj.cells #[Value.string GxOUby0,Qz 0,Value.slice none 0 0,Value.slice none 0 0,Value.bool false] 49) fun b21 w22=>(lC49 x20).toArray.size=5/\StoreP w22 b21 0 (lC49 x20) fun w23=>Qs w23.drew b1 (0+0) fun s24=>Qs w23.drew b1 (0+0) fun s25=>Qs w23.drew b21 (0+2) fun s26=>Qs w23.drew b21 (0+3) fun s27=>Qu' 147 #[Qy s26] w23.drew fun s30 w29=>w29.cell? ⟨b21,0+3,none⟩=some (Qy s27)/\w29.cell? ⟨b1,0+0,none⟩=some (Qy s25)/\w29.cell? ⟨b1,0+0,none⟩=some (Qy s24)/\Qu' 147 #[Qy s27] w29 fun s33 w32=>w32.cell? ⟨b1,0+0,none⟩=some (Qy s25)/\w32.cell? ⟨b1,0+0,none⟩=some (Qy s24)/\Qx s24.1 n14 (s24.2:Int) fun b34 b35=>#[Qy s30].size=1/\StoreP w32 b34 (b35+n14.toNat*5+2) [Qy s30] fun w36=>w36.cell? ⟨b1,0+0,none⟩=some (Qy s25)/\Qx s25.1 n14 (s25.2:Int) fun b37 b38=>#[Qy s33].size=1/\StoreP w36 b37 (b38+n14.toNat*5+3) [Qy s33] fun w39=>Qn y11 b13 (IntKind.i64.wrap (n14+1)) w39
def F78j1(R:RV)(b1:Nat)(b3:Nat)(s10:Sl)(y11:Nat->Int->World->Prop)(b13:Nat)(n14:Int)(w15:World):Prop:=IfB (decide (n14<(s10.n:Int))) (F78k1 s10 n14 w15 b1 b13 y11) (∃(x41:Sl×List Value),CellsN w15 b1 0 17 (Qy x41.fst::x41.2)/\(Array.mk (Qy x41.fst::x41.2 )).size=17/\StoreP w15 b3 0 (Qy x41.fst::x41.2) fun w44=>∃(x45:Sl×List Value),CellsN w44 b3 0 17 (Qy x45.fst::x45.2)/\R (Value.agg { toList:=Qy x45.fst::x45.2 }) w44)
theorem F78_ok(t0:Sl×List Value)(w:World)(R:RV)(h:AllocP w (Obj.cells { toList:=Qy t0.fst::t0.2 } 26) fun b1 w2=>AllocP w2 (Obj.cells #[Value.slice none 0 0,Qz 0,Qz 0,Qz 0,Qz 0,Qz 0,Qz 0,Qz 0,Qz 0,Qz 0,Qz 0,Qz 0,Qz 0,Qz 0,Qz 0,Qz 0,Qz 0] 26) fun b3 w4=>Qs w4 b1 (0+0) fun s5=>Qu' 146 #[Qy s5] w4 fun s8 w7=>#[Qy s8].size=1/\StoreP w7 b1 (0+0) [Qy s8] fun w9=>Qs w9 b1 (0+0) fun s10=>Ql (α:=Int) 0 w9 fun y11 b13 n14 w15=>(F78j1 R b1 b3 s10 y11 b13 n14 w15)):Cw 78 #[Value.agg { toList:=Qy t0.fst::t0.2 }] w R:=
 ckF Tryz.func78 (nd (nd (.node (nd (.loop [(12,oi)] (rg [3,4,12,33]) (nd (nd (.node (nd (.draw (sts [0,1,2,3,4,5,6,7,9,10] (.ac 8 (rg [0,5,9,10]) (.ac 11 (rg [0,5]) (sts [12,13] (.ac 14 [5,4,3] (sts [15,16] (.ac 17 [] .fin .non)) .non)) .non) .non)))) .nil))))) .nil))) h (by kernel_rfl) (by kernel_rfl)
theorem F50_ok(t0:Sl×List Value)(w:World)(R:RV)(h:AllocP w (Obj.cells { toList:=Qy t0.fst::t0.2 } 26) fun b1 w2=>AllocP w2 (Obj.cells #[Value.slice none 0 0,Qz 0,Qz 0,Qz 0,Qz 0,Qz 0,Qz 0,Qz 0,Qz 0,Qz 0,Qz 0,Qz 0,Qz 0,Qz 0,Qz 0,Qz 0,Qz 0] 26) fun b3 w4=>∃(x5:Sl×List Value),CellsN w4 b1 0 17 (Qy x5.fst::x5.2)/\Cx 78 #[Value.agg { toList:=Qy x5.fst::x5.2 }] w4 fun v8 w9=>∃(x10:Sl×List Value),v8=Value.agg { toList:=Qy x10.fst::x10.2 }/\(Array.mk (Qy x10.fst::x10.2 )).size=17/\StoreP w9 b1 0 (Qy x10.fst::x10.2) fun w11=>#[Qz 0,Qz 0,Qz 0,Qz 0,Qz 0,Qz 0,Qz 0,Qz 0,Qz 0,Qz 0,Qz 0,Qz 0,Qz 0,Qz 0,Qz 0,Qz 0].size=16/\StoreP w11 b1 (0+1) [Qz 0,Qz 0,Qz 0,Qz 0,Qz 0,Qz 0,Qz 0,Qz 0,Qz 0,Qz 0,Qz 0,Qz 0,Qz 0,Qz 0,Qz 0,Qz 0] fun w12=>∃(x13:Sl×List Value),CellsN w12 b1 0 17 (Qy x13.fst::x13.2)/\(Array.mk (Qy x13.fst::x13.2 )).size=17/\StoreP w12 b3 0 (Qy x13.fst::x13.2) fun w16=>∃(x17:Sl×List Value),CellsN w16 b3 0 17 (Qy x17.fst::x17.2)/\R (Value.agg { toList:=Qy x17.fst::x17.2 }) w16):Cw 50 #[Value.agg { toList:=Qy t0.fst::t0.2 }] w R:=
 ckF Tryz.func50 .nil h (by kernel_rfl) (by kernel_rfl)
def F146(t0:Sl)(w:World)(R:RV):Prop:=IfB t0.1.isNone (R (Value.slice none 0 0) w) (0*5<=16777216/\AllocP w (Obj.cells #[] 49) fun b1 w2=>∃(l3:List Value),ReadC w2 t0.1 (t0.2*5) l3/\AppendP tt49 49 w2 (some ⟨b1,0,none⟩) 0 0 t0.2 l3 fun s4 w5=>R (Qy s4) w5)
theorem F146_ok(t0:Sl)(w:World)(R:RV)(h:F146 t0 w R):Cw 146 #[Qy t0] w R:=
 ckF Tryz.func146 .nil h (by kernel_rfl) (by kernel_rfl)
def F195(t0:Sl)(w:World)(R:RV):Prop:=IfB t0.1.isNone (R (Value.slice none 0 0) w) (0*2<=16777216/\AllocP w (Obj.cells #[] 99) fun b1 w2=>∃(l3:List Value),ReadC w2 t0.1 (t0.2*2) l3/\AppendP tt99 99 w2 (some ⟨b1,0,none⟩) 0 0 t0.2 l3 fun s4 w5=>R (Qy s4) w5)
theorem F195_ok(t0:Sl)(w:World)(R:RV)(h:F195 t0 w R):Cw 195 #[Qy t0] w R:=
 ckF Tryz.func195 .nil h (by kernel_rfl) (by kernel_rfl)
def F196(t0:Sl)(w:World)(R:RV):Prop:=IfB t0.1.isNone (R (Value.slice none 0 0) w) (0*9<=16777216/\AllocP w (Obj.cells #[] 95) fun b1 w2=>∃(l3:List Value),ReadC w2 t0.1 (t0.2*9) l3/\AppendP tt95 95 w2 (some ⟨b1,0,none⟩) 0 0 t0.2 l3 fun s4 w5=>R (Qy s4) w5)
theorem F196_ok(t0:Sl)(w:World)(R:RV)(h:F196 t0 w R):Cw 196 #[Qy t0] w R:=
 ckF Tryz.func196 .nil h (by kernel_rfl) (by kernel_rfl)
def F197(t0:Sl)(w:World)(R:RV):Prop:=IfB t0.1.isNone (R (Value.slice none 0 0) w) (0*5<=16777216/\AllocP w (Obj.cells #[] 217) fun b1 w2=>∃(l3:List Value),ReadC w2 t0.1 (t0.2*5) l3/\AppendP tt217 217 w2 (some ⟨b1,0,none⟩) 0 0 t0.2 l3 fun s4 w5=>R (Qy s4) w5)
theorem F197_ok(t0:Sl)(w:World)(R:RV)(h:F197 t0 w R):Cw 197 #[Qy t0] w R:=
 ckF Tryz.func197 .nil h (by kernel_rfl) (by kernel_rfl)
def F14j1(t1:Sl)(R:RV)(b1:Nat)(y18:Nat->Int->World->Prop)(b20:Nat)(n21:Int)(w22:World):Prop:=IfB (decide (n21<(t1.n:Int))) (Qx t1.1 n21 (t1.2:Int) fun b25 b26=>Qb w22 b25 (b26+n21.toNat*6+3) fun t27=>IfB t27 (R (Value.bool true) w22) (Qn y18 b20 (IntKind.i64.wrap (n21+1)) w22)) (∃(x29:Sl×List Value),CellsN w22 b1 0 17 (Qy x29.fst::x29.2)/\Cx 50 #[Value.agg { toList:=Qy x29.fst::x29.2 }] w22 fun v32 w33=>∃(x34:Sl×List Value),v32=Value.agg { toList:=Qy x34.fst::x34.2 }/\Qv' 34 #[Value.agg { toList:=Qy x34.fst::x34.2 },Qy t1] w33 fun t37 w36=>Qv' 51 #[Qy t1] w36 fun t40 w39=>R (Value.bool (t37 == t40)) w39)
theorem F14_ok(t0:Sl×List Value)(t1:Sl)(w:World)(R:RV)(h:AllocP w (Obj.cells { toList:=Qy t0.fst::t0.2 } 26) fun b1 w2=>Qv' 49 #[] w2 fun t5 w4=>IfB (!t5) (R (Value.bool false) w4) (∃(x6:Sl×List Value),CellsN w4 b1 0 17 (Qy x6.fst::x6.2)/\Qv' 29 #[Value.agg { toList:=Qy x6.fst::x6.2 },Qy t1] w4 fun t11 w10=>IfB t11 (R (Value.bool true) w10) (∃(x12:Sl×List Value),CellsN w10 b1 0 17 (Qy x12.fst::x12.2)/\Qv' 31 #[Value.agg { toList:=Qy x12.fst::x12.2 },Qy t1] w10 fun t17 w16=>IfB (!t17) (R (Value.bool true) w16) (Ql (α:=Int) 0 w16 fun y18 b20 n21 w22=>(F14j1 t1 R b1 y18 b20 n21 w22))))):Cw 14 #[Value.agg { toList:=Qy t0.fst::t0.2 },Qy t1] w R:=
 ckF Tryz.func14 (nd (nd (nd (.node (nd (.loop [(5,oi)] (rg [4,5,17,27]) .nil)) .nil)))) h (by kernel_rfl) (by kernel_rfl)
theorem flatPut{α:Type}{f:α->List Value}{sz:Nat}(hf:∀x,(f x).length=sz){x y:α}{k:Nat}{v:Value}(hk:k<sz)(hy:f y=(f x).set k v):∀ {l:List α}{i:Nat},l[i]? =some x->(l.flatMap f).set (i*sz+k) v=(l.set i y).flatMap f
 | [],_,h=>by cases h
 | a::l,0,h=>by
  cases h
  rw[List.set_cons_zero,List.flatMap_cons,List.flatMap_cons,Nat.zero_mul,Nat.zero_add,List.set_append_left _ _ (by rw[hf];exact hk),hy]
 | a::l,i+1,h=>by
  rw[List.set_cons_succ,List.flatMap_cons,List.flatMap_cons,List.set_append_right _ _ (by rw[hf,Nat.add_mul];omega),hf,Nat.add_mul,show i*sz+1*sz+k-sz=i*sz+k by omega,flatPut hf hk hy (l:=l) h]
theorem putOne{cs:List Value}{o:Nat}{v:Value}(h:o<cs.length):cs.take o++[v]++cs.drop (o+1)=cs.set o v:=by
 rw[List.set_eq_take_append_cons_drop,if_pos h];simp
theorem c146{w:World}{t:Sl}{cs:List Value}(h:Rd w t 5 cs)(h1:One cs)(hl:t.n<=1000000):Cw 146 #[slV t] w fun v w'=>∃t',v=slV t'/\OwS w' t' 5 cs/\t'.n=t.n/\Ext w w'/\∀i∈blk t',w.heap.size<=i:=by
 refine F146_ok t w _ ?_
 have e:∀R,F146 t w R=CloneF tt49 49 5 t w R:=fun _=>rfl
 rw[e]
 refine CloneF_of h rfl rfl h1 ⟨by omega,Nat.le_trans (Nat.mul_le_mul (show 2*t.n<=2000000 by omega) (show _<=1000 by decide)) (by decide)⟩ (fun s' w' h1 h2 h3 h4=>⟨s',rfl,h1,h2,h3,h4⟩) fun hp=>?_
 have h2:=h.2
 rw[hp] at h2
 have:cs=[]:=h2
 have h3:=h.1
 rw[this] at h3
 simp at h3;omega
theorem c195{w:World}{t:Sl}{cs:List Value}(h:Rd w t 2 cs)(h1:One cs)(hl:t.n<=1000000):Cw 195 #[slV t] w fun v w'=>∃t',v=slV t'/\OwS w' t' 2 cs/\t'.n=t.n/\Ext w w'/\∀i∈blk t',w.heap.size<=i:=by
 refine F195_ok t w _ ?_
 have e:∀R,F195 t w R=CloneF tt99 99 2 t w R:=fun _=>rfl
 rw[e]
 refine CloneF_of h rfl rfl h1 ⟨by omega,Nat.le_trans (Nat.mul_le_mul (show 2*t.n<=2000000 by omega) (show _<=1000 by decide)) (by decide)⟩ (fun s' w' h1 h2 h3 h4=>⟨s',rfl,h1,h2,h3,h4⟩) fun hp=>?_
 have h2:=h.2
 rw[hp] at h2
 have:cs=[]:=h2
 have h3:=h.1
 rw[this] at h3
 simp at h3;omega
theorem c196{w:World}{t:Sl}{cs:List Value}(h:Rd w t 9 cs)(h1:One cs)(hl:t.n<=1000000):Cw 196 #[slV t] w fun v w'=>∃t',v=slV t'/\OwS w' t' 9 cs/\t'.n=t.n/\Ext w w'/\∀i∈blk t',w.heap.size<=i:=by
 refine F196_ok t w _ ?_
 have e:∀R,F196 t w R=CloneF tt95 95 9 t w R:=fun _=>rfl
 rw[e]
 refine CloneF_of h rfl rfl h1 ⟨by omega,Nat.le_trans (Nat.mul_le_mul (show 2*t.n<=2000000 by omega) (show _<=1000 by decide)) (by decide)⟩ (fun s' w' h1 h2 h3 h4=>⟨s',rfl,h1,h2,h3,h4⟩) fun hp=>?_
 have h2:=h.2
 rw[hp] at h2
 have:cs=[]:=h2
 have h3:=h.1
 rw[this] at h3
 simp at h3;omega
theorem c197{w:World}{t:Sl}{cs:List Value}(h:Rd w t 5 cs)(h1:One cs)(hl:t.n<=1000000):Cw 197 #[slV t] w fun v w'=>∃t',v=slV t'/\OwS w' t' 5 cs/\t'.n=t.n/\Ext w w'/\∀i∈blk t',w.heap.size<=i:=by
 refine F197_ok t w _ ?_
 have e:∀R,F197 t w R=CloneF tt217 217 5 t w R:=fun _=>rfl
 rw[e]
 refine CloneF_of h rfl rfl h1 ⟨by omega,Nat.le_trans (Nat.mul_le_mul (show 2*t.n<=2000000 by omega) (show _<=1000 by decide)) (by decide)⟩ (fun s' w' h1 h2 h3 h4=>⟨s',rfl,h1,h2,h3,h4⟩) fun hp=>?_
 have h2:=h.2
 rw[hp] at h2
 have:cs=[]:=h2
 have h3:=h.1
 rw[this] at h3
 simp at h3;omega
theorem c147{w:World}{t:Sl}{l:List StpD}(h:StsR w t l)(hl:l.length<=1000)(hc:∀s∈l,s.1.length<=1000/\s.2.length<=1000):
  Cw 147 #[slV t] w fun v w'=>∃t',v=slV t'/\RS (fun j=>w.heap.size<=j) w' tyStp t' l/\Ext w w':=by
 obtain⟨ss,hsl,hrd,hss⟩:=RS.steps (rep_old (by decide) h)
 have hn:=h.n
 refine F147_ok t w _ ((c195 hrd (stC_all ss) (by omega)).use ?_)
 rintro _ w2 ⟨t3,rfl,ho,htn,e2,hb⟩
 have hbl:∀j∈blk t3,j<w2.heap.size:=ho.lt
 refine⟨t3,rfl,fun m x W=>∃(i:Nat)(zs:List (Sl×Sl)),i<=l.length/\m+i=l.length/\x=(i:Int)/\zs.length=l.length/\OwS W t3 2 (zs.flatMap stC)/\(∀(k:Nat) y x,zs[k]? =some y->l[k]? =some x->StpN (fun j=>j∉blk t3/\(k<i->w.heap.size<=j)) W y x)/\Ch (fun j=>j∈blk t3) w2 W,⟨l.length,0,ss,Nat.zero_le _,rfl,rfl,hsl,ho,fun k y x hy hx=>?_,Ch.refl _ _⟩,?_⟩
 ·obtain⟨g1,g2⟩:=hss k y x hy hx
  have hA:∀j,j<w.heap.size->j∉blk t3/\(k<0->w.heap.size<=j):=fun j hj=>⟨fun h=>by have:=hb j h;omega,fun h=>by omega⟩
  exact⟨(g1.ch e2 fun _ _=>id).mono hA,(g2.ch e2 fun _ _=>id).mono hA⟩
 rintro m _ W g ⟨i,zs,hi,hmi,rfl,hzl,hoz,hzs,hC⟩
 unfold F147j1
 refine IfB.dec (fun hlt=>?_) fun hge=>⟨t3,rfl,RS.mkSteps hzl hoz (by omega) (fun k y x hy hx=>?_) hb,e2.chN hC fun j hj=>hb j hj⟩
 ·have hi':i<l.length:=by omega
  have hx:l[i]? =some l[i]:=List.getElem?_eq_getElem hi'
  have hxm:l[i]∈l:=List.getElem_mem hi'
  have hy:zs[i]? =some (zs[i]'(by omega)):=List.getElem?_eq_getElem (by omega)
  generalize l[i]=x at hx hxm
  generalize zs[i]'_=y at hy
  obtain⟨g1,g2⟩:=hzs i y x hy hx
  obtain⟨hx1,hx2⟩:=hc x hxm
  obtain⟨b,o,hp,hcell⟩:=hoz.rd.elem (i:=i) (by omega) (by omega) (flatGet stC_len hy)
  refine⟨b,o,hp,⟨by omega,hlt⟩,y,by rw[Int.toNat_natCast];exact hcell,fun b14 w15 a15=>⟨rfl,store_all (vs:=stC y) a15.new rfl (stC_one y) fun w16 u16=>?_⟩⟩
  have ed:=extDrew w16
  have e16:Ext W w16.drew:=(Ext.fresh a15 u16).trans ed
  obtain⟨ca,ra,oa,ma⟩:=SlR.copy (g1.all.ext e16) (by decide)
  have na:=g1.all.n
  have nb:=g2.all.n
  refine⟨y.1,boxAt (cs:=stC y) u16.new 0 ed,y.2,boxAt (cs:=stC y) u16.new 1 ed,(c196 ra oa (by omega)).use ?_⟩
  rintro _ w20 ⟨s21,rfl,ho21,hn21,e20,hb21⟩
  obtain⟨cb,rb,ob,mb⟩:=SlR.copy ((g2.all.ext e16).ext e20) (by decide)
  refine⟨s21,rfl,boxAt (cs:=stC y) u16.new 1 (ed.trans e20),(c197 rb ob (by omega)).use ?_⟩
  rintro _ w23 ⟨s24,rfl,ho24,hn24,e23,hb24⟩
  have e23':Ext W w23:=(e16.trans e20).trans e23
  obtain⟨b',hp'⟩:=hoz.ptr (by omega)
  have hbb:b'∈blk t3:=by simp[blk,hp']
  have hz2:(zs.flatMap stC).length=l.length*2:=by rw[flatLen stC_len,hzl]
  refine⟨s24,rfl,b',0,hp',⟨by omega,hlt⟩,rfl,?_⟩
  rw[Int.toNat_natCast,Nat.zero_add]
  have zW:=e16.size;have z20:=e20.size;have z23:=e23.size;have zC:=hC.size;have z2:=e2.size
  refine(hoz.ext e23').store (vs:=stC (s21,s24)) hp' (by rw[stC_len];omega) (stC_one _) fun w27 ho27 hC27=>⟨rfl,m-1,by omega,i+1,zs.set i (s21,s24),hi',by omega,by rw[wrap_of (by omega) (by omega)];rfl,by rw[List.length_set,hzl],?_,fun k y' x' hy' hx'=>?_,(hC.trans (e23'.mono fun _ _ h=>h.elim)).trans (hC27.mono fun j _ hj=>by rw[hj];exact hbb)⟩
  ·rw[stC_len,flatSet stC_len (by omega)] at ho27
   exact ho27
  ·have keep:∀ {A:Nat->Prop}{e:Ty}{s:Sl}{q:List e.den},(∀j,A j->j∉blk t3)->RS A w23 e s q->RS A w27 e s q:=fun hA h=>RS.ch h hC27 fun j hj he=>hA j hj (by rw[he];exact hbb)
   rw[List.getElem?_set] at hy'
   by_cases hk:i=k
   ·subst hk
    rw[if_pos rfl,if_pos (by omega)] at hy'
    cases hy'
    rw[hx] at hx';cases hx'
    have n21:∀j∈blk s21,j∉blk t3/\(i<i+1->w.heap.size<=j):=fun j hj=>by
     have:=hb21 j hj
     exact⟨fun h=>by have:=hbl j h;omega,fun _=>by omega⟩
    have n24:∀j∈blk s24,j∉blk t3/\(i<i+1->w.heap.size<=j):=fun j hj=>by
     have:=hb24 j hj
     exact⟨fun h=>by have:=hbl j h;omega,fun _=>by omega⟩
    exact⟨keep (fun j hj=>hj.1) (ma _ w23 s21 (ho21.ext e23) hn21 n21),keep (fun j hj=>hj.1) (mb _ w23 s24 ho24 hn24 n24)⟩
   ·rw[if_neg hk] at hy'
    obtain⟨q1,q2⟩:=hzs k y' x' hy' hx'
    have up:∀j,(j∉blk t3/\(k<i->w.heap.size<=j))->j∉blk t3/\(k<i+1->w.heap.size<=j):=fun j hj=>⟨hj.1,fun h=>hj.2 (by omega)⟩
    exact⟨keep (fun j hj=>hj.1) ((q1.ch e23' fun _ _=>id).mono up),keep (fun j hj=>hj.1) ((q2.ch e23' fun _ _=>id).mono up)⟩
 ·have hk:k<l.length:=get_lt hx
  obtain⟨q1,q2⟩:=hzs k y x hy hx
  exact⟨q1.mono fun j hj=>hj.2 (by omega),q2.mono fun j hj=>hj.2 (by omega)⟩
theorem cxC_len{w:World}{v:CatV}{x:CatD}(h:CatM w v x):(cxC v).length=17:=by rw[List.length_cons,h.br,List.length_map,h.b16]
theorem cxC_one{w:World}{v:CatV}{x:CatD}(h:CatM w v x):One (cxC v):=by
 intro y hy
 rcases List.mem_cons.1 hy with rfl|hy
 ·rfl
 ·rw[h.br] at hy;obtain⟨n,_,rfl⟩:=List.mem_map.1 hy;rfl
theorem c78{w:World}{v:CatV}{x:CatD}(h:CatM w v x)(hk:CatOk x):
  Cw 78 #[cxV v] w fun r w'=>∃s:Sl,r=cxV (s,v.2)/\RS (fun j=>w.heap.size<=j) w' tyCls s x.1/\Ext w w':=by
 have h17:=cxC_len h
 have h1:=cxC_one h
 have hn:=h.cl.n
 have h4:=hk.n4
 obtain⟨vs,hvl,hrd,hvs⟩:=RS.classes (rep_old (by decide) h.cl)
 refine F78_ok v w _ fun b1 w2 a2 b3 w4 a4=>⟨v.1,boxAt (cs:=cxC v) a2.new 0 (a4.ch _),?_⟩
 have e2:Ext w w2:=a2.ch _
 have e4:Ext w2 w4:=a4.ch _
 have E4:=e2.trans e4
 have p2:=a2.here;have z2:=a2.size;have p4:=a4.here;have z4:=a4.size
 refine(c146 (hrd.ext E4) (flatOne clsC_one _) (by omega)).use ?_
 rintro _ w7 ⟨s8,rfl,ho,hsn,e7,hb⟩
 have z7:=e7.size
 refine⟨s8,rfl,rfl,storeC (e7.at (e4.at a2.new)) (by simp) (by simp) (by intro y hy;rw[List.mem_singleton.1 hy];rfl) fun w9 h9 c9=>?_⟩
 have hbl:∀j∈blk s8,j<w7.heap.size:=ho.lt
 have hb1:b1∉blk s8:=fun hj=>by have:=hb b1 hj;omega
 have hb3:b3∉blk s8:=fun hj=>by have:=hb b3 hj;omega
 have ho9:=ho.ch c9 fun j hj e=>hb1 (e ▸ hj)
 have E9:Ext w w9:=(E4.trans e7).chN c9 fun j hj=>by omega
 have B3:=c9.at (e7.at a4.new) (by omega)
 have H9:w9.heap[b1]? =some (.cells (cxC (s8,v.2)).toArray 26 (0,0)):=by
  rw[h9]
  show some (Obj.cells (spliceL (slV v.1::v.2) 0 [slV s8]).toArray _ _)=_
  simp[spliceL]
 have z9:=c9.size
 refine⟨s8,boxAt (cs:=cxC (s8,v.2)) H9 0 (Ch.refl _ _),fun m z W=>∃(i:Nat)(ys:List ClsV),i<=x.1.length/\m+i=x.1.length/\z=(i:Int)/\ys.length=x.1.length/\OwS W s8 5 (ys.flatMap clsC)/\(∀(k:Nat) y q,ys[k]? =some y->x.1[k]? =some q->ClsN (fun j=>j∉blk s8/\j≠b3/\(k<i->w.heap.size<=j)) W y q)/\Ch (fun j=>j∈blk s8) w9 W,⟨x.1.length,0,vs,Nat.zero_le _,rfl,rfl,hvl,ho9,fun k y q hy hq=>?_,Ch.refl _ _⟩,?_⟩
 ·obtain⟨g1,g2,g3,g4,g5,g6⟩:=(hvs k y q hy hq).ext E9
  have hA:∀j,j<w.heap.size->j∉blk s8/\j≠b3/\(k<0->w.heap.size<=j):=fun j hj=>⟨fun h=>by have:=hb j h;omega,by omega,fun h=>by omega⟩
  exact⟨g1,g2,g3.mono hA,g4.mono hA,g5,g6⟩
 rintro m _ W g ⟨i,ys,hi,hmi,rfl,hyl,hoy,hys,hC⟩
 unfold F78j1
 have B1:=hC.at H9 hb1
 have zC:=hC.size
 refine IfB.dec (fun hlt=>?_) fun hge=>?_
 ·have hi':i<x.1.length:=by omega
  have hx:x.1[i]? =some x.1[i]:=List.getElem?_eq_getElem hi'
  have hxm:x.1[i]∈x.1:=List.getElem_mem hi'
  have hy:ys[i]? =some (ys[i]'(by omega)):=List.getElem?_eq_getElem (by omega)
  have hqo:=hk.cls _ hxm
  generalize x.1[i]=q at hx hxm hqo
  generalize ys[i]'_=y at hy
  have hN:=hys i y q hy hx
  obtain⟨b,hp⟩:=hoy.ptr (by omega)
  have hbb:b∈blk s8:=by simp[blk,hp]
  obtain⟨b',hp',hcell⟩:=hoy.elem (i:=i) (by omega) (flatGet clsC_len hy)
  rw[hp] at hp';cases hp'
  have hbn:(0:Int)<=(i:Int)/\(i:Int)<(s8.n:Int):=⟨by omega,hlt⟩
  refine⟨b,0,hp,hbn,y,by rw[Int.toNat_natCast,Nat.zero_add];exact hcell,fun b21 w22 a22=>⟨rfl,store_all (vs:=clsC y) a22.new rfl (clsC_one y) fun w23 u23=>?_⟩⟩
  have ed:=extDrew w23
  have e23:Ext W w23.drew:=(Ext.fresh a22 u23).trans ed
  have z23:=e23.size
  have C1:=fun{V:World} (e:Ext w23.drew V)=>boxAt (cs:=cxC (s8,v.2)) B1 0 (e23.trans e)
  have C2:=fun{V:World} (k:Nat) (e:Ext w23.drew V)=>boxAt (cs:=clsC y) u23.new k (ed.trans e)
  refine⟨s8,C1 (Ch.refl _ _),s8,C1 (Ch.refl _ _),y.2.2.1,C2 2 (Ch.refl _ _),y.2.2.2.1,C2 3 (Ch.refl _ _),(c147 ((hN.st.all).ext e23) (by have:=hqo.l4;omega) fun s hs=>?_).use ?_⟩
  ·have:=(hqo.st s hs).1.l8;have:=(hqo.st s hs).2.l4;omega
  rintro _ w29 ⟨s30,rfl,hr30,e29⟩
  have z29:=e29.size
  refine⟨s30,rfl,C2 3 e29,C1 e29,C1 e29,(c147 (((hN.co.all).ext e23).ext e29) (by have:=hqo.l4;have:=hqo.cl;omega) fun s hs=>?_).use ?_⟩
  ·have hco:=hqo.co s hs
   have h2:=hco.2.l4
   rcases hco.1 with h1|⟨h1,_⟩
   ·rw[h1];exact⟨by simp,by omega⟩
   ·have:=h1.l8;omega
  rintro _ w32 ⟨s33,rfl,hr33,e32⟩
  have z32:=e32.size
  have e32':Ext W w32:=(e23.trans e29).trans e32
  have hyz:(ys.flatMap clsC).length=x.1.length*5:=by rw[flatLen clsC_len,hyl]
  have one:∀s:Sl,One [slV s]:=fun s v hv=>by rw[List.mem_singleton.1 hv];rfl
  refine⟨s33,rfl,C1 (e29.trans e32),C1 (e29.trans e32),b,0,hp,hbn,rfl,?_⟩
  rw[Int.toNat_natCast,Nat.zero_add]
  have h5:i*5+5<=x.1.length*5:=by omega
  have ho32:=hoy.ext e32'
  refine ho32.store (vs:=[slV s30]) hp (by simp;omega) (one _) fun w36 ho36 hC36=>?_
  rw[List.length_singleton,putOne (by omega),flatPut clsC_len (y:=(y.1,y.2.1,s30,y.2.2.2.1,y.2.2.2.2)) (by omega) rfl hy] at ho36
  have hy':(ys.set i (y.1,y.2.1,s30,y.2.2.2.1,y.2.2.2.2))[i]? =some (y.1,y.2.1,s30,y.2.2.2.1,y.2.2.2.2):=by rw[List.getElem?_set,if_pos rfl,if_pos (by omega)]
  have B36:w36.cell? ⟨b1,0+0,none⟩=some (slV s8):=boxAt (cs:=cxC (s8,v.2)) (hC36.at (e32'.at B1) fun e=>hb1 (e ▸ hbb)) 0 (Ch.refl _ _)
  refine⟨B36,b,0,hp,hbn,rfl,?_⟩
  rw[Nat.zero_add]
  refine ho36.store (vs:=[slV s33]) hp (by simp;omega) (one _) fun w39 ho39 hC39=>?_
  have hyz':((ys.set i (y.1,y.2.1,s30,y.2.2.2.1,y.2.2.2.2)).flatMap clsC).length=x.1.length*5:=by rw[flatLen clsC_len,List.length_set,hyl]
  rw[List.length_singleton,putOne (by omega),flatPut clsC_len (y:=(y.1,y.2.1,s30,s33,y.2.2.2.2)) (by omega) rfl hy',List.set_set] at ho39
  have hCC:Ch (fun j=>j∈blk s8) w32 w39:=(hC36.trans hC39).mono fun j _ hj=>by rw[hj];exact hbb
  refine⟨rfl,m-1,by omega,i+1,_,hi',by omega,by rw[wrap_of (by omega) (by omega)];rfl,by rw[List.length_set,hyl],ho39,fun k y' q' hy' hq'=>?_,(hC.trans (e32'.mono fun _ _ h=>h.elim)).trans hCC⟩
  rw[List.getElem?_set] at hy'
  by_cases hk':i=k
  ·subst hk'
   rw[if_pos rfl,if_pos (by omega)] at hy'
   cases hy'
   rw[hx] at hq';cases hq'
   have n1:∀j,w23.drew.heap.size<=j->j∉blk s8/\j≠b3/\(i<i+1->w.heap.size<=j):=fun j hj=>⟨fun h=>by have:=hbl j h;omega,by omega,fun _=>by omega⟩
   have n2:∀j,w29.heap.size<=j->j∉blk s8/\j≠b3/\(i<i+1->w.heap.size<=j):=fun j hj=>⟨fun h=>by have:=hbl j h;omega,by omega,fun _=>by omega⟩
   exact⟨hN.nm,hN.ar,((hr30.ch e32 fun _ _=>id).mono n1).ch hCC fun j hj=>hj.1,(hr33.mono n2).ch hCC fun j hj=>hj.1,hN.re,hN.sz⟩
  ·rw[if_neg hk'] at hy'
   obtain⟨g1,g2,g3,g4,g5,g6⟩:=((hys k y' q' hy' hq').ext e32').ch hCC fun j hj=>hj.1
   have up:∀j,(j∉blk s8/\j≠b3/\(k<i->w.heap.size<=j))->j∉blk s8/\j≠b3/\(k<i+1->w.heap.size<=j):=fun j hj=>⟨hj.1,hj.2.1,fun h=>hj.2.2 (by omega)⟩
   exact⟨g1,g2,g3.mono up,g4.mono up,g5,g6⟩
 ·have B3':=hC.at B3 hb3
  have L17:(cxC (s8,v.2)).length=17:=h17
  have O17:One (cxC (s8,v.2)):=fun y hy=>by
   rcases List.mem_cons.1 hy with rfl|hy
   ·rfl
   ·exact h1 y (List.mem_cons_of_mem _ hy)
  refine⟨(s8,v.2),CellsN.mk L17 (boxAll (cs:=cxC (s8,v.2)) B1 (Ch.refl _ _)),L17,store_all (vs:=cxC (s8,v.2)) B3' L17.symm O17 fun w44 u44=>⟨(s8,v.2),CellsN.mk L17 (boxAll (cs:=cxC (s8,v.2)) u44.new (Ch.refl _ _)),s8,rfl,?_,?_⟩⟩
  ·have hC':=(RS.mkClasses (A:=fun j=>j≠b3/\w.heap.size<=j) hyl hoy (by omega) (fun q hq=>by have:=(hk.cls q hq).a0;have:=(hk.cls q hq).a3;omega) (fun k y q hy hq=>?_) fun j hj=>⟨fun e=>hb3 (e ▸ hj),by have:=hb j hj;omega⟩)
   ·exact(hC'.ch u44.ch fun j hj=>hj.1).mono fun j hj=>hj.2
   ·obtain⟨g1,g2,g3,g4,g5,g6⟩:=hys k y q hy hq
    exact⟨g1,g2,g3.mono fun j hj=>⟨hj.2.1,hj.2.2 (by have:=get_lt hq;omega)⟩,g4.mono fun j hj=>⟨hj.2.1,hj.2.2 (by have:=get_lt hq;omega)⟩,g5,g6⟩
  ·exact(E9.chN hC fun j hj=>by have:=hb j hj;omega).chN u44.ch fun j hj=>by omega
theorem closedRS{w:World}{v:CatV}{x:CatD}(h:CatM w v x)(hk:CatOk x):
  Cw 50 #[cxV v] w fun r w'=>∃s:Sl,r=cxV (s,(closedD x).2.map iv)/\RS (fun j=>w.heap.size<=j) w' tyCls s x.1/\Ext w w':=by
 have h17:=cxC_len h
 have h1:=cxC_one h
 refine F50_ok v w _ fun b1 w2 a2 b3 w4 a4=>⟨v,CellsN.mk h17 (boxAll (cs:=cxC v) a2.new (a4.ch _)),?_⟩
 have e2:Ext w w2:=a2.ch _
 have e4:Ext w2 w4:=a4.ch _
 have E4:=e2.trans e4
 have p2:=a2.here;have z2:=a2.size;have p4:=a4.here;have z4:=a4.size
 refine(c78 (h.ext E4) hk).use ?_
 rintro _ w9 ⟨s,rfl,hR9,e9⟩
 have hM9:CatM w9 (s,v.2) x:=⟨hR9.all,h.br,h.b16,h.brr⟩
 have z9:=e9.size
 have l17:(cxC (s,v.2)).length=17:=h17
 refine⟨(s,v.2),rfl,h17,store_all (vs:=cxC (s,v.2)) (e9.at (e4.at a2.new)) (h17.trans l17.symm) (cxC_one hM9) fun w11 u11=>?_⟩
 have B3:=u11.at (e9.at a4.new) (by omega)
 have E9:=E4.trans e9
 have z9':=E9.size
 have hR11:=hR9.ch u11.ch fun j hj e=>by omega
 have e11:Ext w w11:=E9.chN u11.ch fun j e=>by omega
 have z11:=u11.size
 have hz16:(closedD x).2.map iv=List.replicate 16 (iv 0):=by rfl
 have one16:One ((closedD x).2.map iv):=one_ints _
 refine⟨rfl,storeC (vs:=(closedD x).2.map iv) u11.new (by rw[hz16];intro e;cases e) (by rw[List.size_toArray,l17,hz16];decide) one16 fun w18 h18 c18=>?_⟩
 have H18:w18.heap[b1]? =some (.cells (cxC (s,(closedD x).2.map iv)).toArray 26 (0,0)):=by
  rw[h18]
  congr 3
  show spliceL (slV s::v.2) (0+1) ((closedD x).2.map iv)=slV s::(closedD x).2.map iv
  have hv:v.2.length=16:=by have:=h17;rw[List.length_cons] at this;omega
  unfold spliceL
  rw[hz16,List.length_replicate,List.drop_of_length_le (by rw[List.length_cons];omega)]
  simp
 have q17:(cxC (s,(closedD x).2.map iv)).length=17:=by rfl
 have qone:One (cxC (s,(closedD x).2.map iv)):=fun y hy=>by
  rcases List.mem_cons.1 hy with rfl|hy
  ·rfl
  ·exact one16 y hy
 have z18:=c18.size
 have hR18:=hR11.ch c18 fun j hj e=>by omega
 refine⟨(s,(closedD x).2.map iv),CellsN.mk q17 (boxAll (cs:=cxC (s,(closedD x).2.map iv)) H18 (Ch.refl _ _)),q17,store_all (vs:=cxC (s,(closedD x).2.map iv)) (c18.at B3 (by omega)) q17.symm qone fun w22 u22=>⟨(s,(closedD x).2.map iv),CellsN.mk q17 (boxAll (cs:=cxC (s,(closedD x).2.map iv)) u22.new (Ch.refl _ _)),s,rfl,(hR18.ch u22.ch fun j hj e=>by omega).mono fun j hj=>by omega,?_⟩⟩
 exact(e11.chN c18 fun j e=>by omega).chN u22.ch fun j e=>by omega
theorem c50{w:World}{v:CatV}{x:CatD}(h:CatM w v x)(hk:CatOk x):
  Cw 50 #[cxV v] w fun r w'=>∃v':CatV,r=cxV v'/\CatM w' v' (closedD x)/\Ext w w':=
 (closedRS h hk).mono fun r w' ⟨s,hr,hS,e⟩=>⟨_,hr,⟨hS.all,rfl,rfl,fun n hn=>by rw[(List.mem_replicate.1 hn).2];omega⟩,e⟩
theorem arr_plain{A:Nat->Prop}{w:World}{e:Ty}{n:Nat}{f:e.den->List Value}{Q:e.den->Prop}{l:List e.den}{cs:List Value}(h:rep A w (.arr n e) l cs)(hp:∀x c,rep A w e x c->c=f x/\Q x):l.length=n/\cs=l.flatMap f/\∀x∈l,Q x:=by
 obtain⟨hn,css,hl,hr,rfl⟩:=h
 have hi:∀(i:Nat)(hi:i<l.length),css[i]? =some (f l[i])/\Q l[i]:=fun i hi=>by
  have hc:css[i]? =some (css[i]'(by omega)):=List.getElem?_eq_getElem (by omega)
  obtain⟨h1,h2⟩:=hp _ _ (hr i _ _ hc (List.getElem?_eq_getElem hi))
  exact⟨by rw[hc,h1],h2⟩
 have hcs:css=l.map f:=by
  apply List.ext_getElem?
  intro i
  by_cases h:i<l.length
  ·rw[(hi i h).1,List.getElem?_map,List.getElem?_eq_getElem h];rfl
  ·rw[List.getElem?_eq_none (by omega),List.getElem?_eq_none (by rw[List.length_map];omega)]
 refine⟨hn,by rw[hcs,List.flatMap_def],fun x hx=>?_⟩
 obtain⟨i,h,rfl⟩:=List.getElem_of_mem hx
 exact(hi i h).2
abbrev catOf(x:tyCat.den):CatD:=(x.1,x.2.flatten)
theorem rep_cat{A:Nat->Prop}{w:World}{x:tyCat.den}{cs:List Value}(h:rep A w tyCat x cs):∃v:CatV,cs=cxC v/\CatM w v (catOf x):=by
 obtain⟨c,d,rfl,h1,h2⟩:=h
 have h1:=rep_mono (B:=fun _=>True) (fun _ _=>trivial) h1
 obtain⟨s,rfl,_⟩:=id h1
 obtain⟨k1,k2,k3⟩:=arr_plain (n:=4) (e:=.arr 4 tyI) (f:=fun r=>r.map fun n=>Value.int .i64 n) (Q:=fun r=>r.length=4/\∀n∈r, -9223372036854775808<=n/\n<=9223372036854775807) (l:=x.2) h2 fun r c hr=>by
  obtain⟨g1,g2,g3⟩:=arr_plain (n:=4) (e:=tyI) (f:=fun n=>[Value.int .i64 n]) (Q:=fun n=> -9223372036854775808<=n/\n<=9223372036854775807) (l:=r) hr fun n c hc=>⟨hc.1,hc.2.1,hc.2.2⟩
  refine⟨by rw[g2,List.map_eq_flatMap],g1,g3⟩
 refine⟨(s,d),rfl,h1,?_,?_,fun n hn=>?_⟩
 ·rw[k2]
  show List.flatMap _ x.2=x.2.flatten.map _
  rw[List.map_flatten,List.flatMap_def]
 ·show x.2.flatten.length=16
  rw[List.length_flatten]
  have:∀l:List (List Int),(∀r∈l,r.length=4)->(l.map List.length).sum=l.length*4:=fun l=>by
   induction l with
   | nil=>intro _;rfl
   | cons r l ih=>
    intro h
    rw[List.map_cons,List.sum_cons,ih fun q hq=>h q (List.mem_cons_of_mem _ hq),h r (by simp),List.length_cons];omega
  rw[this _ fun r hr=>(k3 r hr).1]
  have k1:x.2.length=4:=k1
  omega
 ·obtain⟨r,hr,hn⟩:=List.mem_flatten.1 hn
  exact(k3 r hr).2 n hn
theorem arr_eq{cs:Array Value}{l:List Value}(h:cs.toList=l):cs=l.toArray:=by rw[<-h]
theorem rep_ndR{A:Nat->Prop}{w:World}{x:tyNd.den}{cs:List Value}(h:rep A w tyNd x cs):∃n:Nd,cs=nL n/\NdIn w n/\(-9223372036854775808<=n.v.1/\n.v.1<=9223372036854775807):=by
 obtain⟨c1,d1,rfl,⟨rfl,k1,k2⟩,c2,d2,rfl,⟨rfl,_⟩,c3,d3,rfl,⟨rfl,_⟩,c4,d4,rfl,h4,c5,d5,rfl,h5,h6⟩:=h
 obtain⟨s,xs,rfl,hxs,_⟩:=rep_spans h5
 obtain⟨t,ys,rfl,hys,_⟩:=rep_spans h6
 have h4:c4=[.bool x.2.2.2.1]:=h4
 subst h4
 exact⟨⟨(x.1,x.2.1,x.2.2.1,x.2.2.2.1,s,t),xs,ys⟩,rfl,⟨hxs,hys⟩,k1,k2⟩
theorem rep_histR{A:Nat->Prop}{w:World}{l:List tyNd.den}{cs:List Value}(h:rep A w (.sl tyNd) l cs):∃(t:Sl)(hs:List Nd),cs=[slV t]/\HIn w t hs/\SgR hs:=by
 obtain⟨s,rfl,h1,h2,h3,h4,css,h5,h6,h7⟩:=h
 obtain⟨ns,hns,hq⟩:=pickAll (f:=nL) (Q:=fun n=>NdIn w n/\(-9223372036854775808<=n.v.1/\n.v.1<=9223372036854775807)) fun c hc=>by
  obtain⟨x,hx⟩:=rep_each h5 h6 c hc
  exact rep_ndR hx
 have hlen:ns.length=l.length:=by rw[<-h5,hns,List.length_map]
 refine⟨s,ns,rfl,⟨?_,fun n hn=>(hq n hn).1,h2,by omega⟩,fun n hn=>(hq n hn).2⟩
 rw[List.flatMap_def,<-hns];exact h7
theorem serialClosed(w:World){x:tyCat.den}{cs:Array Value}(h0:rep (fun _=>True) w tyCat x cs.toList){l:List tyNd.den}{c1:Value}(h1:rep (fun _=>True) w (.sl tyNd) l [c1]):
  Cw 14 #[.agg cs,c1] w fun v w'=>v=.bool true/\Ext w w':=by
 obtain⟨v,e0,hC⟩:=rep_cat h0
 obtain⟨t,hs,e1,hH,hR⟩:=rep_histR h1
 simp only[List.cons.injEq,and_true] at e1
 subst e1
 rw[arr_eq e0]
 refine F14_ok v t w _ fun b1 w2 a2=>(c49 w2).use ?_
 rintro _ w4 ⟨rfl,e4⟩
 have e2:Ext w w2:=a2.ch _
 have E4:=e2.trans e4
 refine⟨true,rfl,IfB.no rfl ⟨v,cxN hC a2.new e4,(c29 (hC.ext E4) (hH.ext E4)).use ?_⟩⟩
 rintro _ w10 ⟨g,rfl,hg,e10⟩
 have x10:=e4.trans e10
 have E10:=E4.trans e10
 refine⟨g,rfl,IfB.intro (fun _=>⟨rfl,E10⟩) fun hg1=>?_⟩
 obtain⟨hS,hl⟩:=hg hg1
 have htn:=hS.n
 refine⟨v,cxN hC a2.new x10,(c31 (hC.ext E10) hS).use ?_⟩
 rintro _ w16 ⟨m,rfl,hm,e16⟩
 have x16:=x10.trans e16
 have E16:=E10.trans e16
 refine⟨m,rfl,IfB.intro (fun _=>⟨rfl,E16⟩) fun h2=>?_⟩
 have hM:=hm.1 (by simpa using h2)
 have hk:=hM.cat
 have hMc:HMay (closedD (catOf x)) hs:=hM.other (closed_ok hk) rfl
 refine⟨fun m z W=>∃i:Nat,i<=hs.length/\m+i=hs.length/\z=(i:Int)/\(∀n∈hs.take i,n.v.2.2.2.1=false)/\Ext w16 W,⟨hs.length,0,Nat.zero_le _,rfl,rfl,by simp,Ch.refl _ _⟩,?_⟩
 rintro m _ W g' ⟨i,hi,hmi,rfl,hb,eW⟩
 unfold F14j1
 have xW:=x16.trans eW
 have EW:=E16.trans eW
 have hSW:=(hS.ext e16).ext eW
 refine IfB.dec (fun hlt=>?_) fun hge=>?_
 ·have hi':i<hs.length:=by omega
  have hx:hs[i]? =some hs[i]:=List.getElem?_eq_getElem hi'
  have htk:=take_succ_get hx
  generalize hs[i]=n at hx htk
  obtain⟨b,o,hp,hc⟩:=hSW.at hx
  refine⟨b,o,hp,⟨by omega,hlt⟩,n.v.2.2.2.1,by rw[Int.toNat_natCast];exact hc 3 _ rfl,IfB.intro (fun _=>⟨rfl,EW⟩) fun h3=>⟨rfl,m-1,by omega,i+1,hi',by omega,by rw[wrap_of (by omega) (by omega)];rfl,fun n' hn'=>?_,eW⟩⟩
  rw[htk] at hn'
  rcases List.mem_append.1 hn' with h|h
  ·exact hb n' h
  ·rw[List.mem_singleton.1 h];exact h3
 ·have:i=hs.length:=by omega
  subst this
  rw[List.take_length] at hb
  refine⟨v,cxN hC a2.new xW,(c50 (hC.ext EW) hk).use ?_⟩
  rintro _ w33 ⟨v34,rfl,hC34,e33⟩
  have hS33:=hSW.ext e33
  refine⟨v34,rfl,(c34 hC34 hS33 (by omega)).use ?_⟩
  rintro _ w36 ⟨t37,rfl,_,hg,e36⟩
  obtain⟨ys,out,hA,hT,hg⟩:=hg hMc
  refine⟨t37,rfl,(c51 (hS33.ext e36) (by omega) hR).use ?_⟩
  rintro _ w39 ⟨sl,ah,hsl,hah,rfl,e39⟩
  refine⟨_,rfl,?_,((EW.trans e33).trans e36).trans e39⟩
  congr 1
  rw[beq_iff_eq,Bool.eq_iff_iff,hg,told_iff hMc hA hT,serial_fair hMc (fun c d i=>closed_brk c d i) hb hsl hah]
end Go.Proofs.YtlpgdngcgbeegaaGreat.Gx
namespace Go.Proofs.YtlpgdngcgbeegaaGreat.serialClosed
open Go.ChangeShapes Go.WideShapes Go.ChangeAt Go.RowKit
open Go.ChangeMaps (open_string shut_string)
set_option linter.unusedVariables false
theorem own:ownKnob Tryz.prog.godebug=none:=by kernel_rfl
set_option maxRecDepth 100000 in
theorem lifted(os:Os)(started:os.Started)(H:Type)(enc:TypeId×Value->H):
  ReturnsInHanded {} Tryz.checked os 14 .any (Rows.serialClosedSpec.pre6 enc Tryz.prog Tryz.f14 Rows.serialClosedRow.domain false) (Rows.serialClosedSpec.post enc Tryz.prog Tryz.f14 false true false false):=by
 refine returnsInHanded_of_change (C:=Tryz.checked) own started (by kernel_rfl) Tryz.func14
  (ChangeSpec.witness6 (enc:=enc) (C:=Tryz.checked) false ⟨#[],#[.agg #[.slice none 0 0,.int .i64 0,.int .i64 0,.int .i64 0,.int .i64 0,.int .i64 0,.int .i64 0,.int .i64 0,.int .i64 0,.int .i64 0,.int .i64 0,.int .i64 0,.int .i64 0,.int .i64 0,.int .i64 0,.int .i64 0,.int .i64 0],.slice none 0 0],[]⟩ 8 (by kernel_rfl) (by kernel_rfl) (by kernel_rfl) (by kernel_rfl)) ?_
 intro W base args ds gs before hval0 hW hcnd _
 have hval:∀(j:Nat) t v,Tryz.f14.params[j]? =some t->args[j]? =some v->Value.okWide Tryz.prog W .any base t v:=hval0
 have hW':=hW
 have hlt:=hW.lt
 obtain⟨p,q,hA0,hV,rfl,hfz,hnd⟩:=hW
 have hA:DataW.TrodAll enc Tryz.prog W 0 (fun _=>true) true Tryz.f14.params.toList args.toList ds p:=hA0
 have hpar:Tryz.f14.params=#[26,39]:=rfl
 rw[hpar] at hA hval
 obtain⟨v0,vs0,d0,ds0,p0,q0,hargs,rfl,rfl,h0,r0⟩:=trodAll_cons hA
 obtain⟨v1,vs1,d1,ds1,p1,q1,rfl,rfl,rfl,h1,r1⟩:=trodAll_cons r0
 obtain⟨rfl,rfl,rfl⟩:=trodAll_nil r1
 obtain rfl:args=#[v0,v1]:=by cases args;simp_all
 obtain⟨rfl,rfl⟩:=trodVars_none hV
 clear hA0 hval0
 obtain⟨x0,e0⟩:=Gx.open_arg (d:=12) (ty:=(.pair (.sl (.pair .str (.pair (.int .i64) (.pair (.sl (.pair (.sl (.pair (.int .i64) (.pair (.int .i64) (.pair (.int .i64) (.pair (.int .i64) (.pair (.pair (.int .i64) (.int .i64)) (.pair (.pair (.int .i64) (.int .i64)) (.int .i64)))))))) (.sl (.pair (.pair (.int .i64) (.int .i64)) (.pair (.pair (.int .i64) (.int .i64)) .bool))))) (.pair (.sl (.pair (.sl (.pair (.int .i64) (.pair (.int .i64) (.pair (.int .i64) (.pair (.int .i64) (.pair (.pair (.int .i64) (.int .i64)) (.pair (.pair (.int .i64) (.int .i64)) (.int .i64)))))))) (.sl (.pair (.pair (.int .i64) (.int .i64)) (.pair (.pair (.int .i64) (.int .i64)) .bool))))) .bool))))) (.arr 4 (.arr 4 (.int .i64))))) (by kernel_rfl) h0
 have f0:v0=.agg v0.cells:=Gx.val_agg (hval 0 26 v0 rfl rfl) (.inl ⟨_,Tryz.underlying26⟩)
 obtain⟨x1,e1⟩:=Gx.open_arg (d:=12) (ty:=(.sl (.pair (.int .i64) (.pair (.int .i64) (.pair (.int .i64) (.pair .bool (.pair (.sl (.pair (.int .i64) (.int .i64))) (.sl (.pair (.int .i64) (.int .i64)))))))))) (by kernel_rfl) h1
 obtain⟨c1,g1⟩:∃c,v1.cells.toList=[c]:=List.length_eq_one_iff.1 (Gx.rep_len e1)
 have f1:v1=c1:=Gx.val_of_cells (hval 1 39 v1 rfl rfl) (fun fs n e=>by rw[Tryz.underlying39];exact⟨by simp,by simp⟩) g1
 rw[g1] at e1
 have call:Calls Tryz.prog 14 #[v0,v1] W fun e w'=>e=.returned (.bool true)/\Below W.heap.size W w':=by
  rw[f0,f1]
  refine(Gx.serialClosed W e0 e1).calls.mono ?_
  rintro e w' ⟨v,rfl,rfl,hx⟩
  exact⟨rfl,hx.below⟩
 refine call.mono fun e W' ⟨he,hg⟩=>?_
 subst he
 have b1:∀sp:Nat->Bool,(∀x∈p1,sp x.block=true)->DataW.Trod enc Tryz.prog W' 0 sp true 39 v1 d1 p1:=fun sp hsp=>Gx.trod_keep (by kernel_rfl) (by kernel_rfl) (by decide+kernel) h1 hg (fun x hx=>hlt x (by simp[hx])) hsp
 have b0:∀sp:Nat->Bool,(∀x∈p0,sp x.block=true)->DataW.Trod enc Tryz.prog W' 0 sp true 26 v0 d0 p0:=fun sp hsp=>Gx.trod_keep (by kernel_rfl) (by kernel_rfl) (by decide+kernel) h0 hg (fun x hx=>hlt x (by simp[hx])) hsp
 exact⟨_,rfl,Gx.post_of_below (pa:=(p0++(p1++[]))) (pv:=[]) hW' hg (fun _ _ _=>(trodAll_cons_mk (shut_bool Tryz.underlying4 _) trodAll_mk0)) (fun sp hsp=>by rw[hpar];exact(trodAll_cons_mk (b0 sp fun x hx=>hsp x (by simp[hx])) (trodAll_cons_mk (b1 sp fun x hx=>hsp x (by simp[hx])) trodAll_mk0))) (fun _ _=>rfl) (by simp)
  (ok_one (by kernel_rfl) rfl (okWide_bool_mk Tryz.underlying4 _))⟩
set_option maxRecDepth 100000
theorem ft1:(laidOutB Tryz.checked.prog&&mapsRowed Tryz.checked.prog)=true:=by kernel_rfl
theorem ft2:(Rows.serialClosedRow.inPlace == Tryz.checked.prog.inPlace 14)=true:=by kernel_rfl
theorem ft3:(Rows.serialClosedRow.unfollowed == Tryz.checked.prog.unfollowed 14)=true:=by kernel_rfl
theorem ft4:(Rows.serialClosedRow.named == Tryz.checked.prog.varsNamed 14)=true:=by kernel_rfl
theorem ft6:((Tryz.checked.prog.stops == [])&&(Tryz.checked.prog.stopKnobs == []))=true:=by kernel_rfl
theorem ft7:(Rows.serialClosedRow.plainKeys == Tryz.checked.prog.plainKeys)=true:=by kernel_rfl
theorem ft8:Tryz.checked.prog.stopsHeard=true:=by kernel_rfl
theorem ft9:(Tryz.checked.prog.mayEnter&&((Rows.serialClosedRow.lifted == Tryz.checked.prog.liftsFinal)&&(Tryz.checked.prog.make == some Rows.serialClosedRow.make)))=true:=by kernel_rfl
theorem ft5:(Rows.serialClosedRow.recurses == Tryz.checked.prog.recurses 14)=true:=by
 have h:Tryz.checked.prog.unfollowed 14=true:=by have:=ft3;rw[beq_iff_eq] at this;exact this.symm
 unfold Program.recurses;rw[h];rfl
theorem facts:joinedFacts Tryz.checked.prog 14 Tryz.f14 Rows.serialClosedSpec Rows.serialClosedRow=true:=by
 obtain⟨h1,h2⟩:=Bool.and_eq_true_iff.1 ft1
 obtain⟨h3,h4⟩:=Bool.and_eq_true_iff.1 ft6
 obtain⟨h5,h6⟩:=Bool.and_eq_true_iff.1 ft9
 obtain⟨h7,h8⟩:=Bool.and_eq_true_iff.1 h6
 unfold joinedFacts
 rw[h1,h2,ft2,ft3,ft4,ft5,h3,h4,ft7,ft8,h5,h7,h8]
 kernel_rfl
theorem over:Rows.serialClosedRow.holds Tryz.pinned (OpenSpec.ofChange Rows.serialClosedSpec):=
 OpenClaim.holds_of_wide 14 Tryz.f14 rfl rfl rfl rfl rfl rfl rfl ⟨rfl,rfl,rfl,rfl,rfl⟩ rfl rfl rfl rfl rfl (by kernel_rfl) Tryz.func14 facts
  (of_decide_eq_true (by kernel_rfl)) (by unfold Func.isWrapper;first|(rw[if_pos (by decide+kernel)];kernel_rfl)|(rw[if_neg (by decide+kernel)];exact⟨rfl,rfl⟩))
  (fun os started H enc _=>lifted os started H enc)
theorem proved:Rows.SerialClosedSaid:=
 over
#print axioms proved
end Go.Proofs.YtlpgdngcgbeegaaGreat.serialClosed
