/- gimmallaw13.StepRuns returns true for all arguments, and leaves what was there as it was. No condition beyond the statement. -/
/- Merged by pack.py: PagesF, PagesL, GxPE, RefS, RefU, RefV, RefW, GxPH, StpL, StpQ, StpR, StRun. -/
import Derived.Test.YtoahfpabpdjkkaaGreatSr1
import Derived.Test.YtoahfpabpdjkkaaGreatSr2
import Derived.Test.YtoahfpabpdjkkaaGreatSr3
import Derived.Test.YtoahfpabpdjkkaaGreatSr4
import Derived.Test.YtoahfpabpdjkkaaGreatSr5
import Derived.Test.YtoahfpabpdjkkaaGreatRows
import Derived.WalkKit
import Derived.ProofKit
import Derived.OpenShut
import Derived.ShutString
import Derived.Below
import Derived.Carry
namespace Go.Proofs.YtoahfpabpdjkkaaGreat.Gx
open Go
set_option linter.unusedSimpArgs false
set_option linter.unusedVariables false
theorem St.stb{n:Nat}{w w':World}{b:Nat}{s:Sl}{ps:List Pg}(h:St w b s ps)(hS:Stb n w w'):St w' b s ps:=by
 obtain⟨T,hT⟩:=h.box
 exact⟨⟨T,hS.keep _ _ hT rfl⟩,h.arr.stb hS,fun x hx=>(h.pg x hx).stb hS,h.nd,h.sep,h.self⟩
def flatS(ps:List Pg):List Pr:=ps.flatMap (·.2)
theorem flatS_eq{ps:List Pg}{P:List (List Pr)}(hP:ps.map (·.2)=P):flatS ps=P.flatten:=by rw[<-hP];rfl
def InvI(b1 b:Nat)(s:Sl)(ps:List Pg)(W:World):Prop:=(∃T,W.heap[b1]? =some (.cells #[.pointer (some ⟨b,0,none⟩)] T (0,0)))/\St W b s ps
abbrev prA(x:Pr):Array Value:=#[.agg #[.int .i64 x.1,.int .i64 x.2]]
theorem it77(b1 b:Nat)(s:Sl)(ps:List Pg)(hl:(flatS ps).length<=1000000)(hpl:ps.length<=1000000):Iter Tryz.prog 77 #[.pointer (some ⟨b1,0,none⟩)] prA false (fun pre x=>∃post,pre++x::post=flatS ps) (fun xs=>xs=flatS ps) (InvI b1 b s ps):=by
 refine⟨en77,fun l J Jx W hJ hJx hInv hSz _ hstep h0=>?_⟩
 obtain⟨⟨T,hT⟩,hS⟩:=hInv _ _ h0
 have hcell:W.cell? ⟨b1,0,none⟩=some (.pointer (some ⟨b,0,none⟩)):=by rw[cell_of hT];rfl
 have hsn:s.n=ps.length:=hS.n
 refine F77_ok l b1 W _ ⟨some ⟨b,0,none⟩,hcell,IfB.no rfl ⟨_,hcell,b,0,rfl,s,hS.cell,?_⟩⟩
 refine⟨fun n x w5=>∃i:Nat,i<=ps.length/\n+i=ps.length/\x=(i:Int)/\W.heap.size<=w5.heap.size/\J (flatS (ps.take i)) w5,⟨ps.length,0,Nat.zero_le _,rfl,rfl,Nat.le_refl _,h0⟩,?_⟩
 rintro n _ w5 g ⟨i,hi,hni,rfl,hw5,hj⟩
 unfold F77j1
 refine IfB.dec (fun hlt=>?_) (fun hge=>?_)
 ·have hi':i<ps.length:=by
   have:(i:Int)<(s.n:Int):=hlt
   omega
  have hx:ps[i]? =some ps[i]:=List.getElem?_eq_getElem hi'
  generalize ps[i]=y at hx
  obtain⟨_,hS5⟩:=hInv _ _ hj
  obtain⟨a,ha,hc,hox,hxn⟩:=hS5.page hx
  have hyl:y.2.length<=(flatS ps).length:=by
   have:y.2.Sublist (flatS ps):=by
    rw[flatS_eq rfl]
    exact List.sublist_flatten_of_mem (List.mem_map_of_mem (List.mem_of_getElem? hx))
   exact this.length_le
  refine⟨a,0,ha,(⟨by omega,by omega⟩:(0:Int)<=(i:Int)/\(i:Int)<(s.n:Int)),y.1,by rw[Int.toNat_natCast,Nat.zero_add];exact hc,?_⟩
  refine⟨fun m x w20=>∃j:Nat,j<=y.2.length/\m+j=y.2.length/\x=(j:Int)/\W.heap.size<=w20.heap.size/\J (flatS (ps.take i)++y.2.take j) w20,⟨y.2.length,0,Nat.zero_le _,rfl,rfl,hw5,by simpa using hj⟩,?_⟩
  rintro m _ w20 g ⟨j,hj1,hmj,rfl,hw20,hJ20⟩
  unfold F77j2
  refine IfB.dec (fun hlt2=>?_) (fun hge2=>?_)
  ·have hj':j<y.2.length:=by
    have:(j:Int)<(y.1.n:Int):=hlt2
    omega
   have hz:y.2[j]? =some y.2[j]:=List.getElem?_eq_getElem hj'
   generalize y.2[j]=z at hz
   obtain⟨_,hS20⟩:=hInv _ _ hJ20
   obtain⟨_,_,_,hoy,_⟩:=hS20.page hx
   obtain⟨a2,ha2,hc2⟩:=pageE hoy hz
   refine⟨a2,0,ha2,(⟨by omega,by omega⟩:(0:Int)<=(j:Int)/\(j:Int)<(y.1.n:Int)),z,by rw[Int.toNat_natCast,Nat.zero_add];exact hc2,?_⟩
   intro b26 w27 h27
   refine⟨rfl,store_all h27.new rfl (by intro v hv;simp at hv;rcases hv with rfl|rfl<;>rfl) fun w28 h28=>⟨z,cellsAt_of h28.new fun q v hv=>by simpa using hv,?_⟩⟩
   have hJ28:=hJ _ _ _ hJ20 (Stb.fresh h27 h28 hw20)
   refine(hstep _ z w28 hJ28 ?_).mono fun t w31 ht=>?_
   ·refine⟨y.2.drop (j+1)++flatS (ps.drop (i+1)),?_⟩
    have h1:flatS ps=flatS (ps.take i)++(y.2++flatS (ps.drop (i+1))):=by
     conv=>lhs;rw[<-List.take_append_drop i ps,List.drop_eq_getElem_cons hi']
     have:ps[i]=y:=by rw[List.getElem?_eq_getElem hi'] at hx;exact Option.some.inj hx
     rw[this];simp[flatS]
    have h2:y.2=y.2.take j++z::y.2.drop (j+1):=by
     conv=>lhs;rw[<-List.take_append_drop j y.2,List.drop_eq_getElem_cons hj']
     have:y.2[j]=z:=by rw[List.getElem?_eq_getElem hj'] at hz;exact Option.some.inj hz
     rw[this]
    rw[h1]
    conv=>rhs;rw[h2]
    simp
   ·cases t with
    | false=>exact IfB.yes rfl (.inr ⟨_,ht⟩)
    | true=>
     refine IfB.no rfl ⟨rfl,m-1,by omega,j+1,hj',by omega,?_,?_,?_⟩
     ·rw[wrap_of (by omega) (by omega)];rfl
     ·exact hSz _ _ ht.1
     ·rw[take_succ_get hz,<-List.append_assoc];exact ht.1
  ·have hj':j=y.2.length:=by
    have:¬(j:Int)<(y.1.n:Int):=hge2
    omega
   subst hj'
   refine⟨rfl,n-1,by omega,i+1,hi',by omega,?_,hw20,?_⟩
   ·rw[wrap_of (by omega) (by omega)];rfl
   ·rw[List.take_length] at hJ20
    rw[take_succ_get hx];simpa [flatS] using hJ20
 ·have hi':i=ps.length:=by
   have:¬(i:Int)<(s.n:Int):=hge
   omega
  subst hi'
  rw[List.take_length] at hj
  exact .inl ⟨_,rfl,hj⟩
abbrev Src:=Option (Nat×Sl×List Pg)
def Src.ptr:Src->Option Addr
 | none=>none
 | some (b,_,_)=>some ⟨b,0,none⟩
def Src.fl:Src->List Pr
 | none=>[]
 | some (_,_,ps)=>flatS ps
def Src.mem(src:Src)(W:World):Prop:=match src with
 | none=>True
 | some (b,s,ps)=>St W b s ps/\ps.length<=1000000
def Src.has(src:Src)(i:Nat):Prop:=match src with
 | none=>False
 | some (b,s,ps)=>inSt b s ps i
theorem Src.lt{src:Src}{W:World}(h:src.mem W){i:Nat}(hi:src.has i):i<W.heap.size:=by
 match src,h,hi with
 | some (b,s,ps),h,hi=>exact h.1.lt hi
theorem Src.ch{src:Src}{F:Nat->Prop}{W W':World}(h:src.mem W)(hc:Ch F W W')(hF:∀i,src.has i->¬F i):src.mem W':=by
 match src,h,hF with
 | none,_,_=>trivial
 | some (b,s,ps),h,hF=>exact⟨h.1.ch hc hF,h.2⟩
theorem Src.ext{src:Src}{W W':World}(h:src.mem W)(hc:Ext W W'):src.mem W':=Src.ch h hc fun _ _=>id
theorem Src.stb{src:Src}{n:Nat}{W W':World}(h:src.mem W)(hc:Stb n W W'):src.mem W':=by
 match src,h with
 | none,_=>trivial
 | some (b,s,ps),h=>exact⟨h.1.stb hc,h.2⟩
def InvJ(b1:Nat)(src:Src)(W:World):Prop:=(∃T,W.heap[b1]? =some (.cells #[.pointer src.ptr] T (0,0)))/\src.mem W
theorem InvJ.stb{n b1:Nat}{src:Src}{W W':World}(h:InvJ b1 src W)(hS:Stb n W W'):InvJ b1 src W':=by
 obtain⟨⟨T,hT⟩,h⟩:=h
 exact⟨⟨T,hS.keep _ _ hT rfl⟩,Src.stb h hS⟩
theorem InvJ.ch{F:Nat->Prop}{b1:Nat}{src:Src}{W W':World}(h:InvJ b1 src W)(hc:Ch F W W')(h1:¬F b1)(hF:∀i,src.has i->¬F i):InvJ b1 src W':=by
 obtain⟨⟨T,hT⟩,h⟩:=h
 exact⟨⟨T,hc.at hT h1⟩,Src.ch h hc hF⟩
theorem itJ(b1:Nat)(src:Src)(hl:src.fl.length<=1000000)(hpl:∀b s ps,src=some (b,s,ps)->ps.length<=1000000):Iter Tryz.prog 77 #[.pointer (some ⟨b1,0,none⟩)] prA false (fun pre x=>∃post,pre++x::post=src.fl) (fun xs=>xs=src.fl) (InvJ b1 src):=by
 match src,hl,hpl with
 | some (b,s,ps),hl,hpl=>
  obtain⟨h1,h2⟩:=it77 b1 b s ps hl (hpl _ _ _ rfl)
  refine⟨h1,fun l J Jx W hJ hJx hInv=>h2 l J Jx W hJ hJx fun pre W' h=>?_⟩
  obtain⟨hb,hm⟩:=hInv pre W' h
  exact⟨hb,hm.1⟩
 | none,_,_=>
  refine⟨en77,fun l J Jx W hJ hJx hInv hSz _ hstep h0=>?_⟩
  obtain⟨⟨T,hT⟩,_⟩:=hInv _ _ h0
  exact F77_ok l b1 W _ ⟨none,by rw[cell_of hT];rfl,IfB.yes rfl (.inl ⟨[],rfl,h0⟩)⟩
theorem c47(p:Option Addr)(w:World):Cw 47 #[.pointer p] w fun v w'=>∃b T,v=.func (.func 77) #[] #[.pointer (some ⟨b,0,none⟩)]/\IsAlloc w (.cells #[.pointer p] T (0,0)) b w':=
 F47_ok p w _ fun b w' h=>⟨b,_,rfl,h⟩
theorem prA_size(x:Pr):(prA x).size=1:=rfl
theorem prV_one(x:Pr):One [.int .i64 x.1,.int .i64 x.2]:=by intro v hv;simp at hv;rcases hv with rfl|rfl<;>rfl
def scanS(l:List Pr)(lo hi:Int):List Pr:=(l.takeWhile (le1 hi)).filter fun x=>decide (lo<=x.1)
theorem scanS_stop{pre post:List Pr}{x:Pr}{lo hi:Int}(h1:∀y∈pre,y.1<=hi)(h2:hi<x.1):scanS (pre++x::post) lo hi=pre.filter fun x=>decide (lo<=x.1):=by
 unfold scanS
 rw[takeWhile_app (p:=le1 hi) fun y hy=>decide_eq_true (h1 y hy),List.takeWhile_cons_of_neg,List.append_nil]
 simp[le1];omega
theorem scanS_all{l:List Pr}{lo hi:Int}(h1:∀y∈l,y.1<=hi):scanS l lo hi=l.filter fun x=>decide (lo<=x.1):=by
 unfold scanS
 rw[takeWhile_all (p:=le1 hi) fun y hy=>decide_eq_true (h1 y hy)]
theorem c22{w:World}{src:Src}(hm:src.mem w)(hl:src.fl.length<=1000)(lo hi:Int):
  Cw 22 #[.pointer src.ptr,.int .i64 lo,.int .i64 hi] w fun v w'=>∃t,v=slV t/\OwS w' t 2 (prs (scanS src.fl lo hi))/\Ext w w'/\∀j∈blk t,w.heap.size<=j:=by
 have hin:∀i,src.has i->i<w.heap.size:=fun i hi=>Src.lt hm hi
 refine F22_ok _ _ _ _ _ ?_
 intro c1 w2 h2 q3 w4 h4 q5 w6 h6
 refine(c47 _ w6).use ?_
 rintro _ w8 ⟨b1,T1,rfl,h8⟩
 refine⟨(77,#[.pointer (some ⟨b1,0,none⟩)]),rfl,fun g=>?_⟩
 have e8:Ext w w8:=(((h2.ch _).trans (h4.ch _)).trans (h6.ch _)).trans (h8.ch _)
 have H1:=h8.at (h6.at (h4.at h2.new))
 have H3:=h8.at (h6.at h4.new)
 have H5:=h8.at h6.new
 have s2:=h2.size;have s4:=h4.size;have s6:=h6.size;have s8:=h8.size
 have p2:=h2.here;have p4:=h4.here;have p6:=h6.here;have p8:=h8.here
 have hJ8:InvJ b1 src w8:=⟨⟨_,h8.new⟩,Src.ext hm e8⟩
 have hpl:∀b s ps,src=some (b,s,ps)->ps.length<=1000000:=fun b s ps e=>by subst e;exact hm.2
 let H:List Pr->World->Prop:=fun l W=>∃t:Sl,(∃T,W.heap[q5]? =some (.cells #[slV t] T (0,0)))/\OwS W t 2 (prs l)/\(∀j∈blk t,w8.heap.size+2<=j)/\Ch (fun i=>w.heap.size<=i) w W
 have hH:∀l n W W',H l W->Stb n W W'->w8.heap.size<=n->H l W':=by
  rintro l n W W' ⟨t,⟨T,h4⟩,h5,h6,h7⟩ hS hn
  exact⟨t,⟨T,hS.keep _ _ h4 rfl⟩,h5.stb hS,h6,h7.then (.ofStb hS) fun i _ hi=>by omega⟩
 let G:List Pr->World->Prop:=fun pre W=>(∃post,pre++post=src.fl)/\(∀y∈pre,y.1<=hi)/\InvJ b1 src W/\(∃T,W.heap[c1]? =some (.cells #[.int .i64 lo] T (0,0)))/\(∃T,W.heap[q3]? =some (.cells #[.int .i64 hi] T (0,0)))/\H (pre.filter fun x=>decide (lo<=x.1)) W
 let Gx:Code->List Pr->World->Prop:=fun c pre W=>c=.exit 0/\H (scanS src.fl lo hi) W
 have fin:∀l W,H l W->W.heap[w8.heap.size]? =some (.deferred (some []))->∃s13:Sl,W.cell? ⟨q5,0,none⟩=some (.slice s13.1 s13.2 s13.3)/\marksP W [.col w8.heap.size] fun w14=>∃t,slV s13=slV t/\OwS w14 t 2 (prs l)/\Ext w w14/\∀j∈blk t,w.heap.size<=j:=by
  rintro l W ⟨t,⟨T,hb⟩,ho,hbl,hC⟩ hD
  refine⟨t,by rw[cell_of hb];rfl,marks_one hD fun w' hu=>⟨t,rfl,?_,?_,fun j hj=>by have:=hbl j hj;omega⟩⟩
  ·exact ho.ch hu.ch fun j hj e=>by have:=hbl j hj;omega
  ·exact⟨hC.rest.trans hu.rest,by rw[hu.size];exact hC.size,fun i hi _=>by rw[hu.old i (by omega)];exact hC.old i hi (by omega)⟩
 refine range_none tbOk mixed (gf:=77) (lb:=#[.pointer (some ⟨b1,0,none⟩)]) rfl (itJ b1 src (by omega) hpl) R22_0ok1 R22_0ok2 R22_0okp prA_size G Gx ?_ ?_ ?_ (fun h=>by cases h) ?_ ?_ ?_ ?_
 ·rintro pre W W' ⟨h1,h2,h3,⟨T,h4⟩,⟨T',h5⟩,h6⟩ hS
  exact⟨h1,h2,h3.stb hS,⟨T,hS.keep _ _ h4 rfl⟩,⟨T',hS.keep _ _ h5 rfl⟩,hH _ _ _ _ h6 hS (Nat.le_refl _)⟩
 ·rintro c pre W W' ⟨h1,h6⟩ hS
  exact⟨h1,hH _ _ _ _ h6 hS (Nat.le_refl _)⟩
 ·rintro pre W ⟨_,_,h3,_⟩;exact h3
 ·exact⟨⟨_,rfl⟩,by simp,hJ8,⟨_,H1⟩,⟨_,H3⟩,⟨none,0,0⟩,⟨_,H5⟩,.nil _ _,by simp[blk],e8.mono fun _ _ h=>h.elim⟩
 ·rintro pre x W ⟨⟨post,hpost⟩,hle,hJ,⟨T1',hc1⟩,⟨T3',hc3⟩,t,⟨T,hb⟩,ho,hbl,hC⟩ ⟨post',hx⟩ hW
  refine F22b0_ok c1 q3 ⟨none,0,0⟩ q5 (77,#[.pointer (some ⟨b1,0,none⟩)]) x _ _ _ _ _ W ?_
  intro v1 v2 k2
  refine⟨rfl,store_all k2.new rfl (prV_one x) fun v3 k3=>?_⟩
  have eW:Ext W v3:=Ext.fresh k2 k3
  have kh:=k2.here
  refine⟨rfl,⟨eW.old _ (by omega) id,eW.old _ (by omega) id⟩,fun w12 hS hI0 hL=>?_⟩
  have B5:=hS.keep _ _ (eW.at hb) rfl
  have B1:=hS.keep _ _ (eW.at hc1) rfl
  have B3:=hS.keep _ _ (eW.at hc3) rfl
  have ho12:=(ho.ext eW).stb hS
  have hJ12:=(hJ.ch eW id fun _ _=>id).stb hS
  have hC12:Ch (fun i=>w.heap.size<=i) w w12:=(hC.then eW fun _ _ h=>h.elim).then (.ofStb hS) fun i _ hi=>by omega
  have hv1:=hS.keep _ _ k3.new rfl
  have hs12:=hS.size
  have hsv:=eW.size
  refine⟨x.1,by rw[cell_of hv1];rfl,hi,by rw[cell_of B3];rfl,IfB.dec (fun hgt=>?_) (fun hngt=>?_)⟩
  ·refine⟨⟨rfl,rfl⟩,rfl,t,⟨_,B5⟩,?_,hbl,hC12⟩
   rw[<-hx,scanS_stop hle hgt];exact ho12
  ·refine⟨x.1,by rw[cell_of hv1];rfl,lo,by rw[cell_of B1];rfl,IfB.dec (fun hlo=>?_) (fun hlo=>?_)⟩
   ·refine⟨t,by rw[cell_of B5];rfl,x,cellsAt_of hv1 fun i v hv=>by simpa using hv,by decide,fun b20 w21 h21=>?_⟩
    refine⟨prV x,⟨rfl,cellsAt_of h21.new fun i v hv=>by simpa [prV] using hv⟩,?_⟩
    have e21:Ext w12 w21:=h21.ch _
    have hfl:(pre.filter fun x=>decide (lo<=x.1)).length<=pre.length:=List.length_filter_le _ _
    have htn:t.n=(pre.filter fun x=>decide (lo<=x.1)).length:=by have:=ho.len;rw[prs_len] at this;omega
    have hprel:pre.length+1<=1000:=by
     have:=congrArg List.length hx;simp at this;omega
    refine(ho12.ext e21).append (cnt:=1) rfl rfl rfl (prV_one x) ⟨by omega,by dsimp only;omega⟩ ?_
    intro s' w24 ho' hn' hc' hb' _
    have hne:∀i,i<w8.heap.size+2->¬i∈blk t:=fun i hi h=>by have:=hbl i h;omega
    have H24:=hc'.at (e21.at B5) (hne _ (by omega))
    refine⟨rfl,store_one H24 (by simp) rfl fun w25 h25=>?_⟩
    have hc25:Ch (fun i=>i=q5\/i∈blk t) w12 w25:=(((e21.mono fun _ _ h=>h.elim).then hc' fun i _ h=>.inr h).then h25.ch fun i _ h=>.inl h)
    have hb2':∀j∈blk s',w8.heap.size+2<=j:=fun j hj=>by
     rcases hb' j hj with h|h
     ·exact hbl j h
     ·have:=e21.size;omega
    have far:∀i,i<w8.heap.size+2->i≠q5->¬(i=q5\/i∈blk t):=fun i hi hne' h=>h.elim hne' (hne i hi)
    refine⟨⟨hc25.old _ (by omega) (far _ (by omega) (by omega)),hc25.old _ (by omega) (far _ (by omega) (by omega))⟩,⟨⟨post',by simpa using hx⟩,?_,hJ12.ch hc25 (far _ (by omega) (by omega)) (fun i hi=>far _ (by have:=hin i hi;omega) (by have:=hin i hi;omega)),⟨_,hc25.at B1 (far _ (by omega) (by omega))⟩,⟨_,hc25.at B3 (far _ (by omega) (by omega))⟩,s',⟨_,h25.new⟩,?_,hb2',?_⟩,((Its.ext eW).trans hI0).trans (Its.ch hc25 fun i hi=>hi.elim (fun e=>e ▸ notIt B5) (fun h=>ho12.blkIt h))⟩
    ·intro y hy
     rcases List.mem_append.1 hy with hy|hy
     ·exact hle y hy
     ·simp at hy;subst hy;omega
    ·have:=ho'.ch h25.ch fun j hj e=>by have:=hb2' j hj;omega
     rw[List.filter_append,List.filter_cons_of_pos (by simpa using hlo),prs_append];exact this
    ·exact hC12.then hc25 fun i hi h=>by
      rcases h with h|h
      ·omega
      ·have:=hbl _ h;omega
   ·refine⟨⟨rfl,rfl⟩,⟨⟨post',by simpa using hx⟩,?_,hJ12,⟨_,B1⟩,⟨_,B3⟩,t,⟨_,B5⟩,?_,hbl,hC12⟩,(Its.ext eW).trans hI0⟩
    ·intro y hy
     rcases List.mem_append.1 hy with hy|hy
     ·exact hle y hy
     ·simp at hy;subst hy;omega
    ·rw[List.filter_append,List.filter_cons_of_neg (by simpa using hlo)];simpa using ho12
 ·rintro xs W rfl ⟨_,hle,_,_,_,h6⟩ hD
  have:=fin _ _ h6 hD
  rw[<-scanS_all hle] at this
  exact this
 ·rintro c pre W ⟨rfl,h6⟩ hD
  exact fin _ _ h6 hD
def putL(P:List (List Pr))(l:List Pr):List (List Pr):=l.foldl (fun P x=>if 0<=x.1/\x.1<=999 then putP P x.1 x.2 else P) P
theorem putL_inv:∀ {l:List Pr}{P:List (List Pr)},Inv P->Inv (putL P l)
 | [],_,h=>h
 | x::l,P,h=>by
  show Inv (putL (if 0<=x.1/\x.1<=999 then putP P x.1 x.2 else P) l)
  split
  ·rename_i hk;exact putL_inv (putP_inv h hk)
  ·exact putL_inv h
theorem putL_snoc(P:List (List Pr))(l:List Pr)(x:Pr):putL P (l++[x])=if 0<=x.1/\x.1<=999 then putP (putL P l) x.1 x.2 else putL P l:=by
 unfold putL;rw[List.foldl_append];rfl
theorem c13{w:World}{t:Sl}{xs:List Pr}(ht:Rd w t 2 (prs xs))(hl:xs.length<=1000000):
  Cw 13 #[slV t] w fun r w'=>∃b',r=.pointer (some ⟨b',0,none⟩)/\StA (fun i=>w.heap.size<=i) w' b' (putL [] xs)/\Ext w w':=by
 have htn:t.n=xs.length:=by have:=ht.1;rw[prs_len] at this;omega
 refine F13_ok t w _ ?_
 intro b1 w2 h2
 have e2:Ext w w2:=h2.ch _
 have hh:=h2.here
 refine⟨fun n x w5=>∃i:Nat,i<=xs.length/\n+i=xs.length/\x=(i:Int)/\StA (fun i=>w.heap.size<=i) w5 b1 (putL [] (xs.take i))/\Ext w w5,⟨xs.length,0,Nat.zero_le _,rfl,rfl,⟨⟨none,0,0⟩,[],⟨⟨_,h2.new⟩,.nil _ _,by simp,by simp,by simp,by simp[blk]⟩,rfl,?_⟩,e2⟩,?_⟩
 ·rintro j (rfl|h|⟨x,hx,h⟩)
  ·omega
  ·simp[blk] at h
  ·simp at hx
 rintro n _ w5 g ⟨i,hi,hni,rfl,hS5,e5⟩
 unfold F13j1
 refine IfB.dec (fun hlt=>?_) (fun hge=>?_)
 ·have hi':i<xs.length:=by omega
  have hx:xs[i]? =some xs[i]:=List.getElem?_eq_getElem hi'
  generalize xs[i]=x at hx
  obtain⟨a,o,ha,hca⟩:=(ht.ext e5).elem (i:=i) (by omega) (by decide) (prs_elem hx)
  refine⟨a,o,ha,(⟨by omega,by omega⟩:(0:Int)<=(i:Int)/\(i:Int)<(t.n:Int)),x,by rw[Int.toNat_natCast];exact hca,fun b13 w14 h14=>⟨rfl,store_all h14.new rfl (prV_one x) fun w15 h15=>?_⟩⟩
  have e15:Ext w5 w15:=Ext.fresh h14 h15
  refine⟨x.1,by rw[cell_of h15.new];rfl,x.2,by rw[cell_of h15.new];rfl,(c17 (hS5.ext e15) (putL_inv Inv.nil) x.1 x.2).use ?_⟩
  rintro _ w19 ⟨rfl,hS19,hc19⟩
  have hsz:=(e5.trans e15).size
  refine⟨_,rfl,rfl,n-1,by omega,i+1,hi',by omega,by rw[wrap_of (by omega) (by omega)];rfl,?_,?_⟩
  ·rw[take_succ_get hx,putL_snoc]
   exact hS19.mono fun j _ hj=>hj.elim id fun h=>by omega
  ·exact(e5.trans e15).then hc19 fun j hj h=>by omega
 ·have hi':i=xs.length:=by omega
  rw[hi',List.take_length] at hS5
  exact⟨b1,rfl,hS5,e5⟩
theorem mem_insS_iff{l:List Pr}{k v:Int}{x:Pr}(h:Srt l):x∈insS l k v↔x=(k,v)\/(x∈l/\x.1≠k):=by
 unfold insS
 rw[List.mem_append,List.mem_cons]
 constructor
 ·rintro(hx|rfl|hx)
  ·exact .inr ⟨(List.takeWhile_sublist _).subset hx,by have:=tw_lt hx;omega⟩
  ·exact .inl rfl
  ·exact .inr ⟨(List.dropWhile_sublist _).subset hx,by have:=srt_drop_le h x hx;omega⟩
 ·rintro(rfl|⟨hx,hk⟩)
  ·exact .inr (.inl rfl)
  ·rcases Int.lt_or_lt_of_ne hk with hk|hk
   ·left
    have:x∈l.takeWhile (lt1 k)++l.dropWhile (lt1 k):=by rw[List.takeWhile_append_dropWhile];exact hx
    rcases List.mem_append.1 this with h1|h1
    ·exact h1
    ·have:=srt_drop_lt h x h1;omega
   ·right;right
    have:x∈l.takeWhile (le1 k)++l.dropWhile (le1 k):=by rw[List.takeWhile_append_dropWhile];exact hx
    rcases List.mem_append.1 this with h1|h1
    ·have:x.1<=k:=by simpa [le1] using takeWhile_mem h1
     omega
    ·exact h1
theorem srt_ext:∀ {a b:List Pr},Srt a->Srt b->(∀x,x∈a↔x∈b)->a=b
 | [],[],_,_,_=>rfl
 | [],y::b,_,_,h=>by have:=(h y).2 (List.mem_cons_self);cases this
 | x::a,[],_,_,h=>by have:=(h x).1 (List.mem_cons_self);cases this
 | x::a,y::b,ha,hb,h=>by
  obtain⟨ha1,ha2⟩:=srt_cons.1 ha
  obtain⟨hb1,hb2⟩:=srt_cons.1 hb
  have e:x=y:=by
   rcases List.mem_cons.1 ((h x).1 List.mem_cons_self) with e|h1
   ·exact e
   ·rcases List.mem_cons.1 ((h y).2 List.mem_cons_self) with e|h2
    ·exact e.symm
    ·have:=hb1 x h1;have:=ha1 y h2;omega
  subst e
  rw[srt_ext ha2 hb2 fun z=>?_]
  constructor
  ·intro hz
   rcases List.mem_cons.1 ((h z).1 (List.mem_cons_of_mem _ hz)) with rfl|h1
   ·have:=ha1 _ hz;omega
   ·exact h1
  ·intro hz
   rcases List.mem_cons.1 ((h z).2 (List.mem_cons_of_mem _ hz)) with rfl|h1
   ·have:=hb1 _ hz;omega
   ·exact h1
theorem srt_unique{l:List Pr}{k u v:Int}(h:Srt l)(h1:(k,u)∈l)(h2:(k,v)∈l):u=v:=by
 induction l with
 | nil=>cases h1
 | cons x l ih=>
  obtain⟨ha1,ha2⟩:=srt_cons.1 h
  rcases List.mem_cons.1 h1 with e1|g1
  ·rcases List.mem_cons.1 h2 with e2|g2
   ·simpa using congrArg Prod.snd (e1.trans e2.symm)
   ·have:=ha1 _ g2;rw[<-e1] at this;simp at this
  ·rcases List.mem_cons.1 h2 with e2|g2
   ·have:=ha1 _ g1;rw[<-e2] at this;simp at this
   ·exact ih ha2 g1 g2
theorem has_iff{P:List (List Pr)}(hI:Inv P)(k:Int):hasP P k=true↔∃v,(k,v)∈P.flatten:=by
 by_cases hne:P=[]
 ·subst hne;rw[hasP_nil];simp
 ·exact(atP_is hI hne k).has
theorem valP_is{P:List (List Pr)}(hI:Inv P){k v:Int}(h:(k,v)∈P.flatten):valP P k=v:=by
 have hh:=(has_iff hI k).2 ⟨v,h⟩
 obtain⟨u,hu⟩:=isP_iff.1 hh
 have hne:P≠[]:=fun e=>by subst e;simp at h
 have hm:(k,u)∈P.flatten:=List.mem_flatten.2 ⟨P.getD (atP P k) [],by
  rw[<-List.getElem_eq_getD (h:=atP_lt hne k)];exact List.getElem_mem _,List.mem_of_getElem? hu⟩
 unfold valP
 rw[hu]
 exact srt_unique hI.sorted hm h
set_option maxRecDepth 100000
def F19j1(t0:Sl)(R:RV)(b1:Nat)(y3:Nat->Int->World->Prop)(b5:Nat)(n6:Int)(w7:World):Prop:=IfB (decide (n6<(t0.n:Int))) (Qx t0.1 n6 (t0.2:Int) fun b10 b11=>Qi w7 b10 (b11+n6.toNat*2+0) fun n12=>IfB (decide (0<=n12)) (Qx t0.1 n6 (t0.2:Int) fun b13 b14=>Qi w7 b13 (b14+n6.toNat*2+0) fun n15=>IfB (decide (n15<=999)) (Qx t0.1 n6 (t0.2:Int) fun b16 b17=>Qi w7.drew b16 (b17+n6.toNat*2+0) fun n18=>Qx (some ⟨b1,0,none⟩) n18 ((1000:Nat):Int) fun b19 b20=>#[Value.bool true].size=1/\StoreP w7.drew b19 (b20+0+n18.toNat) [Value.bool true] fun w21=>Qx t0.1 n6 (t0.2:Int) fun b22 b23=>Qi w21.drew b22 (b23+n6.toNat*2+0) fun n24=>Qx t0.1 n6 (t0.2:Int) fun b25 b26=>Qi w21.drew b25 (b26+n6.toNat*2+1) fun n27=>Qx (some ⟨b1,0,none⟩) n24 ((1000:Nat):Int) fun b28 b29=>#[Qz n27].size=1/\StoreP w21.drew b28 (b29+1000+n24.toNat) [Qz n27] fun w30=>([]:List Df)=[]/\∃b31:Nat,b31<b5/\y3 b31 (IntKind.i64.wrap (n6+1)) w30) (([]:List Df)=[]/\∃b32:Nat,b32<b5/\y3 b32 (IntKind.i64.wrap (n6+1)) w7)) (([]:List Df)=[]/\∃b33:Nat,b33<b5/\y3 b33 (IntKind.i64.wrap (n6+1)) w7)) (R (Value.pointer (some ⟨b1,0,none⟩)) w7)
theorem F19_ok(t0:Sl)(w:World)(R:RV)(h:AllocP w (Obj.cells { toList:=List.replicate 1000 (Value.bool false)++List.replicate 1000 (Qz 0) } 101) fun b1 w2=>Ql (α:=Int) 0 w2 fun y3 b5 n6 w7=>(F19j1 t0 R b1 y3 b5 n6 w7)):Cw 19 #[Qy t0] w R:=
 ckF Tryz.func19 (nd (nd (.node (nd (.loop [(4,oi)] (rg [4,4,7,49]) (nd (.node (nd (.node (.node (.draw (sts [0,1,2,3,4,5,6,7,8] (.ac 9 [] .fin .non))) (.draw (sts [0,1,2,3,4,5,6,7,8,9,10,11,12,13] (.ac 14 [] .fin .non)))) .nil)) .nil)))) .nil))) h (by kernel_rfl) (by kernel_rfl)
def F23j1(t0:Option Addr)(R:RV)(y1:Nat->Sl×Int->World->Prop)(b3:Nat)(x4:Sl×Int)(w5:World):Prop:=IfB (decide (x4.snd<1000)) (Qx t0 x4.2 ((1000:Nat):Int) fun b8 b9=>Qb w5 b8 (b9+0+x4.2.toNat) fun t10=>IfB t10 (Qx t0 x4.2 ((1000:Nat):Int) fun b11 b12=>Qi w5 b11 (b12+1000+x4.2.toNat) fun n13=>1*2<=16777216/\AllocP w5 (Obj.cells #[Qz x4.2,Qz n13] 40) fun b14 w15=>∃(l16:List Value),ReadC w15 (some ⟨b14,0,none⟩) (1*2) l16/\AppendP tt40 40 w15 x4.fst.1 x4.fst.2 x4.fst.3 1 l16 fun s17 w18=>([]:List Df)=[]/\∃b19:Nat,b19<b3/\y1 b19 ({ p:=s17.1,n:=s17.2,c:=s17.3 },IntKind.i64.wrap (x4.2+1)) w18) (([]:List Df)=[]/\∃b20:Nat,b20<b3/\y1 b20 ({ p:=x4.fst.1,n:=x4.fst.2,c:=x4.fst.3 },IntKind.i64.wrap (x4.2+1)) w5)) (R (Qy x4.fst) w5)
def F23(t0:Option Addr)(w:World)(R:RV):Prop:=Ql (α:=Sl×Int) ({ p:=none,n:=0,c:=0 },0) w fun y1 b3 x4 w5=>(F23j1 t0 R y1 b3 x4 w5)
theorem F23_ok(t0:Option Addr)(w:World)(R:RV)(h:F23 t0 w R):Cw 23 #[Value.pointer t0] w R:=
 ckF Tryz.func23 (nd (nd (.node (nd (.loop [(3,.one (.sl)),(4,oi)] (rg [3,25]) .nil)) .nil))) h (by kernel_rfl) (by kernel_rfl)
theorem F43_ok(t0:Option Addr)(w:World)(R:RV)(h:∃b1:Nat,∃b2:Nat,t0=some ⟨b1,b2,none⟩/\∃(l3:List Value),CellsN w b1 b2 2000 l3/\AllocP w (Obj.cells { toList:=List.replicate 1000 (Value.bool false)++List.replicate 1000 (Qz 0) } 101) fun b6 w7=>(Array.mk (l3 )).size=2000/\StoreP w7 b6 0 l3 fun w8=>R (Value.pointer (some ⟨b6,0,none⟩)) w8):Cw 43 #[Value.pointer t0] w R:=
 ckF Tryz.func43 .nil h (by kernel_rfl) (by kernel_rfl)
theorem F42_ok(t0:Sl×Sl)(t1:Sl)(w:World)(R:RV)(h:AllocP w (Obj.cells #[Qy t0.fst,Qy t0.snd] 36) fun b1 w2=>Qv' 74 #[Qy t1] w2 fun t5 w4=>IfB t5 (Qs w4 b1 (0+0) fun s6=>IfB ((s6.2:Int) == 0) (Qs w4 b1 (0+1) fun s7=>Qv' 76 #[Qy s7,Qz (t1.2:Int)] w4 fun t10 w9=>R (Value.bool t10) w9) (Qs w4 b1 (0+0) fun s11=>Qv' 75 #[Qy s11,Qz (t1.2:Int)] w4 fun t14 w13=>IfB t14 (Qs w13 b1 (0+1) fun s15=>Qv' 76 #[Qy s15,Qz (t1.2:Int)] w13 fun t18 w17=>R (Value.bool t18) w17) (R (Value.bool false) w13))) (R (Value.bool false) w4)):Cw 42 #[Value.agg #[Qy t0.fst,Qy t0.snd],Qy t1] w R:=
 ckF Tryz.func42 .nil h (by kernel_rfl) (by kernel_rfl)
theorem F44_ok(t0:Int)(t1:Int)(w:World)(R:RV)(h:IfB (decide (0<t1)) (IfB (decide (IntKind.i64.wrap (9223372036854775807-t1)<t0)) (R (Value.tuple #[Qz 0,Value.bool false]) w) (IfB (decide (t1<0)) (IfB (decide (t0<IntKind.i64.wrap ((-9223372036854775808:Int)-t1))) (R (Value.tuple #[Qz 0,Value.bool false]) w) (R (Value.tuple #[Qz (IntKind.i64.wrap (t0+t1)),Value.bool true]) w)) (R (Value.tuple #[Qz (IntKind.i64.wrap (t0+t1)),Value.bool true]) w))) (IfB (decide (t1<0)) (IfB (decide (t0<IntKind.i64.wrap ((-9223372036854775808:Int)-t1))) (R (Value.tuple #[Qz 0,Value.bool false]) w) (R (Value.tuple #[Qz (IntKind.i64.wrap (t0+t1)),Value.bool true]) w)) (R (Value.tuple #[Qz (IntKind.i64.wrap (t0+t1)),Value.bool true]) w))):Cw 44 #[Qz t0,Qz t1] w R:=
 ckF Tryz.func44 .nil h (by kernel_rfl) (by kernel_rfl)
theorem F45_ok(t0:Int)(t1:Int)(w:World)(R:RV)(h:IfB (decide (t1<0)) (IfB (decide (IntKind.i64.wrap (9223372036854775807+t1)<t0)) (R (Value.tuple #[Qz 0,Value.bool false]) w) (IfB (decide (0<t1)) (IfB (decide (t0<IntKind.i64.wrap ((-9223372036854775808:Int)+t1))) (R (Value.tuple #[Qz 0,Value.bool false]) w) (R (Value.tuple #[Qz (IntKind.i64.wrap (t0-t1)),Value.bool true]) w)) (R (Value.tuple #[Qz (IntKind.i64.wrap (t0-t1)),Value.bool true]) w))) (IfB (decide (0<t1)) (IfB (decide (t0<IntKind.i64.wrap ((-9223372036854775808:Int)+t1))) (R (Value.tuple #[Qz 0,Value.bool false]) w) (R (Value.tuple #[Qz (IntKind.i64.wrap (t0-t1)),Value.bool true]) w)) (R (Value.tuple #[Qz (IntKind.i64.wrap (t0-t1)),Value.bool true]) w))):Cw 45 #[Qz t0,Qz t1] w R:=
 ckF Tryz.func45 .nil h (by kernel_rfl) (by kernel_rfl)
def F20k1(n54:Int)(w55:World)(b29:Nat)(b45:Nat)(b26:Nat)(p24:Option Addr)(y58:Int->World->Prop):Prop:=(0<=n54/\n54<((1000:Nat):Int))/\#[Value.bool true].size=1/\StoreP w55 b29 (0+n54.toNat) [Value.bool true] fun w74=>Qi w74 b45 (0+1) fun n75=>(0<=n75/\n75<((4:Nat):Int))/\#[Qz 0].size=1/\StoreP w74 b26 (0+n75.toNat) [Qz 0] fun w76=>Qx p24 n54 ((1000:Nat):Int) fun b77 b78=>Qb w76 b77 (b78+0+n54.toNat) fun t79=>IfB t79 (Qi w76.drew b45 (0+1) fun n80=>Qx p24 n54 ((1000:Nat):Int) fun b81 b82=>Qi w76.drew b81 (b82+1000+n54.toNat) fun n83=>(0<=n80/\n80<((4:Nat):Int))/\#[Qz n83].size=1/\StoreP w76.drew b26 (0+n80.toNat) [Qz n83] fun w84=>([]:List Df)=[]/\y58 0 w84) (([]:List Df)=[]/\y58 0 w76)
def F20k2(n54:Int)(w87:World)(b31:Nat)(b45:Nat)(p24:Option Addr)(b26:Nat)(y58:Int->World->Prop):Prop:=(0<=n54/\n54<((1000:Nat):Int))/\#[Value.bool true].size=1/\StoreP w87 b31 (0+n54.toNat) [Value.bool true] fun w104=>Qi w104.drew b45 (0+0) fun n105=>Qx p24 n54 ((1000:Nat):Int) fun b106 b107=>#[Value.bool (n105 == 2)].size=1/\StoreP w104.drew b106 (b107+0+n54.toNat) [Value.bool (n105 == 2)] fun w108=>Qi w108 b45 (0+0) fun n109=>IfB (n109 == 2) (Qi w108.drew b45 (0+1) fun n110=>(0<=n110/\n110<((4:Nat):Int))/\Qi w108.drew b26 (0+n110.toNat) fun n111=>Qx p24 n54 ((1000:Nat):Int) fun b112 b113=>#[Qz n111].size=1/\StoreP w108.drew b112 (b113+1000+n54.toNat) [Qz n111] fun w114=>([]:List Df)=[]/\y58 0 w114) (([]:List Df)=[]/\y58 0 w108)
def F20j5(p24:Option Addr)(y119:Nat->Int×Int×Int->World->Prop)(b121:Nat)(x122:Int×Int×Int)(n130:Int)(w131:World):Prop:=Qx p24 x122.snd.2 ((1000:Nat):Int) fun b134 b135=>Qb w131 b134 (b135+0+Int.toNat x122.snd.2) fun t136=>IfB t136 (([]:List Df)=[]/\∃b137:Nat,b137<b121/\y119 b137 (n130,IntKind.i64.wrap (x122.snd.1+1),IntKind.i64.wrap (x122.snd.2+1)) w131) (([]:List Df)=[]/\∃b138:Nat,b138<b121/\y119 b138 (n130,x122.snd.1,IntKind.i64.wrap (x122.snd.2+1)) w131)
def F20j6(b26:Nat)(b29:Nat)(b45:Nat)(y58:Int->World->Prop)(n118:Int)(x122:Int×Int×Int)(y139:Nat->Int->World->Prop)(b141:Nat)(n142:Int)(w143:World):Prop:=IfB (decide (n142<=n118)) ((0<=n142/\n142<((1000:Nat):Int))/\#[Value.bool true].size=1/\StoreP w143 b29 (0+n142.toNat) [Value.bool true] fun w146=>([]:List Df)=[]/\∃b147:Nat,b147<b141/\y139 b147 (IntKind.i64.wrap (n142+1)) w146) (Qi w143 b45 (0+1) fun n148=>(0<=n148/\n148<((4:Nat):Int))/\#[Qz x122.snd.1].size=1/\StoreP w143 b26 (0+n148.toNat) [Qz x122.snd.1] fun w149=>([]:List Df)=[]/\y58 x122.1 w149)
def F20j4(t4:Bool)(p18:Option Addr)(p24:Option Addr)(b26:Nat)(b29:Nat)(b45:Nat)(n54:Int)(y58:Int->World->Prop)(n118:Int)(y119:Nat->Int×Int×Int->World->Prop)(b121:Nat)(x122:Int×Int×Int)(w123:World):Prop:=IfB (decide (x122.snd.snd<=n118)) (∃(y126:Int->World->Prop),IfB t4 (Qx p18 x122.snd.2 ((1000:Nat):Int) fun b127 b128=>Qb w123 b127 (b128+Int.toNat x122.snd.2) fun t129=>IfB (!t129) (([]:List Df)=[]/\y126 9 w123) (([]:List Df)=[]/\y126 x122.1 w123)) (([]:List Df)=[]/\y126 x122.1 w123)/\∀(n130:Int)(w131:World)(y132:Nat->Value),y126 n130 w131->(F20j5 p24 y119 b121 x122 n130 w131)) (IfB (x122.1 == 0) (Ql (α:=Int) n54 w123 fun y139 b141 n142 w143=>(F20j6 b26 b29 b45 y58 n118 x122 y139 b141 n142 w143)) (([]:List Df)=[]/\y58 x122.1 w123))
def F20j8(b26:Nat)(b45:Nat)(y58:Int->World->Prop)(x174:Int×Bool)(w175:World):Prop:=IfB x174.2 (Qi w175 b45 (0+1) fun n178=>(0<=n178/\n178<((4:Nat):Int))/\#[Qz x174.1].size=1/\StoreP w175 b26 (0+n178.toNat) [Qz x174.1] fun w179=>([]:List Df)=[]/\y58 0 w179) (([]:List Df)=[]/\y58 8 w175)
def F20j7(b26:Nat)(b45:Nat)(y58:Int->World->Prop)(n59:Int)(t154:Bool)(w155:World):Prop:=IfB t154 (Qi w155.drew b45 (0+2) fun n158=>(0<=n158/\n158<((4:Nat):Int))/\Qi w155.drew b26 (0+n158.toNat) fun n159=>Qi w155.drew b45 (0+3) fun n160=>(0<=n160/\n160<((4:Nat):Int))/\Qi w155.drew b26 (0+n160.toNat) fun n161=>Cx 44 #[Qz n159,Qz n161] w155.drew fun v162 w163=>∃(x164:Int×Bool),v162=Value.tuple #[Qz x164.1,Value.bool x164.2]/\∃(y165:Int×Bool->World->Prop),(Qi w163 b45 (0+0) fun n166=>IfB (n166 == 7) (Qi w163.drew b45 (0+2) fun n167=>(0<=n167/\n167<((4:Nat):Int))/\Qi w163.drew b26 (0+n167.toNat) fun n168=>Qi w163.drew b45 (0+3) fun n169=>(0<=n169/\n169<((4:Nat):Int))/\Qi w163.drew b26 (0+n169.toNat) fun n170=>Cx 45 #[Qz n168,Qz n170] w163.drew fun v171 w172=>∃(x173:Int×Bool),v171=Value.tuple #[Qz x173.1,Value.bool x173.2]/\([]:List Df)=[]/\y165 (x173.1,x173.2) w172) (([]:List Df)=[]/\y165 (x164.1,x164.2) w163))/\∀(x174:Int×Bool)(w175:World)(y176:Nat->Value),y165 x174 w175->(F20j8 b26 b45 y58 x174 w175)) (IfB (n59 == 8) (Qi w155.drew b45 (0+1) fun n180=>(0<=n180/\n180<((4:Nat):Int))/\Qi w155.drew b26 (0+n180.toNat) fun n181=>Qi w155.drew b45 (0+8) fun n182=>IfB (decide (n181<n182)) (([]:List Df)=[]/\y58 7 w155.drew) (([]:List Df)=[]/\y58 0 w155.drew)) (([]:List Df)=[]/\y58 0 w155))
def F20j3(t1:Sl)(t4:Bool)(p18:Option Addr)(p21:Option Addr)(p24:Option Addr)(b26:Nat)(b29:Nat)(b31:Nat)(b45:Nat)(n54:Int)(y58:Int->World->Prop)(n59:Int)(t86:Bool)(w87:World):Prop:=IfB t86 (IfB t4 (Qx p21 n54 ((1000:Nat):Int) fun b90 b91=>Qb w87 b90 (b91+n54.toNat) fun t92=>IfB (!t92) (([]:List Df)=[]/\y58 9 w87) (F20k2 n54 w87 b31 b45 p24 b26 y58)) (F20k2 n54 w87 b31 b45 p24 b26 y58)) (IfB (n59 == 4) (∃(x115:Int×Int),CellsAt w87 b45 (0+6) [Qz x115.1,Qz x115.2]/\Qw' 34 #[Value.agg #[Qz x115.1,Qz x115.2],Qy t1] w87 fun n118 w117=>Ql (α:=Int×Int×Int) (0,0,n54) w117 fun y119 b121 x122 w123=>(F20j4 t4 p18 p24 b26 b29 b45 n54 y58 n118 y119 b121 x122 w123)) (IfB (n59 == 5) (Qi w87 b45 (0+1) fun n150=>Qi w87 b45 (0+8) fun n151=>(0<=n150/\n150<((4:Nat):Int))/\#[Qz n151].size=1/\StoreP w87 b26 (0+n150.toNat) [Qz n151] fun w152=>([]:List Df)=[]/\y58 0 w152) (∃(y153:Bool->World->Prop),IfB (n59 == 6) (([]:List Df)=[]/\y153 (n59 == 6) w87) (([]:List Df)=[]/\y153 (n59 == 7) w87)/\∀(t154:Bool)(w155:World)(y156:Nat->Value),y153 t154 w155->(F20j7 b26 b45 y58 n59 t154 w155))))
def F20j9(R:RV)(b3:Nat)(b5:Nat)(y33:Nat->Int->World->Prop)(b35:Nat)(n36:Int)(n183:Int)(w184:World):Prop:=IfB (n183 != 0) (∃(x187:Int×Int×Int×Int),CellsAt w184 b3 0 [Qz x187.1,Qz x187.snd.1,Qz x187.snd.snd.1,Qz x187.snd.snd.2]/\#[Qz n183,Qz n36,Qz x187.1,Qz x187.snd.1,Qz x187.snd.snd.1,Qz x187.snd.snd.2,Value.slice none 0 0,Value.slice none 0 0,Value.slice none 0 0].size=9/\StoreP w184 b5 0 [Qz n183,Qz n36,Qz x187.1,Qz x187.snd.1,Qz x187.snd.snd.1,Qz x187.snd.snd.2,Value.slice none 0 0,Value.slice none 0 0,Value.slice none 0 0] fun w188=>∃(x189:Int×Int×Int×Int×Int×Int×Sl×Sl×Sl),CellsAt w188 b5 0 (lC27 x189)/\R (Value.agg (lC27 x189).toArray) w188) (([]:List Df)=[]/\∃b190:Nat,b190<b35/\y33 b190 (IntKind.i64.wrap (n36+1)) w184)
def F20j2(t1:Sl)(t4:Bool)(R:RV)(b3:Nat)(b5:Nat)(p18:Option Addr)(p21:Option Addr)(p24:Option Addr)(b26:Nat)(b29:Nat)(b31:Nat)(y33:Nat->Int->World->Prop)(b35:Nat)(n36:Int)(b45:Nat)(n54:Int)(w55:World):Prop:=∃(y58:Int->World->Prop),(Qi w55 b45 (0+0) fun n59=>IfB (n59 == 1) (IfB t4 (Qx p18 n54 ((1000:Nat):Int) fun b60 b61=>Qb w55 b60 (b61+n54.toNat) fun t62=>IfB (!t62) (([]:List Df)=[]/\y58 9 w55) (F20k1 n54 w55 b29 b45 b26 p24 y58)) (F20k1 n54 w55 b29 b45 b26 p24 y58)) (∃(y85:Bool->World->Prop),IfB (n59 == 2) (([]:List Df)=[]/\y85 (n59 == 2) w55) (([]:List Df)=[]/\y85 (n59 == 3) w55)/\∀(t86:Bool)(w87:World)(y88:Nat->Value),y85 t86 w87->(F20j3 t1 t4 p18 p21 p24 b26 b29 b31 b45 n54 y58 n59 t86 w87)))/\∀(n183:Int)(w184:World)(y185:Nat->Value),y58 n183 w184->(F20j9 R b3 b5 y33 b35 n36 n183 w184)
def F20j12(b217:Nat)(y221:Nat->Int->World->Prop)(b223:Nat)(n224:Int)(b232:Nat)(w244:World):Prop:=Qs w244 b217 (0+8) fun s247=>∃(x248:Int×Bool×Int),CellsAt w244 b232 0 (lC47 x248)/\1*3<=16777216/\AllocP w244 (Obj.cells (lC47 x248).toArray 47) fun b249 w250=>∃(l251:List Value),ReadC w250 (some ⟨b249,0,none⟩) (1*3) l251/\AppendP tt47 47 w250 s247.1 s247.2 s247.3 1 l251 fun s252 w253=>#[Qy s252].size=1/\StoreP w253 b217 (0+8) [Qy s252] fun w254=>([]:List Df)=[]/\∃b255:Nat,b255<b223/\y221 b255 (IntKind.i64.wrap (n224+1)) w254
def F20k3(w225:World)(b217:Nat)(b5:Nat)(R:RV):Prop:=∃(x257:Int×Int×Int×Int×Int×Int×Sl×Sl×Sl),CellsAt w225 b217 0 (lC27 x257)/\(lC27 x257).toArray.size=9/\StoreP w225 b5 0 (lC27 x257) fun w258=>∃(x259:Int×Int×Int×Int×Int×Int×Sl×Sl×Sl),CellsAt w258 b5 0 (lC27 x259)/\R (Value.agg (lC27 x259).toArray) w258
def F20j11(R:RV)(b5:Nat)(p24:Option Addr)(b31:Nat)(b217:Nat)(y221:Nat->Int->World->Prop)(b223:Nat)(n224:Int)(w225:World):Prop:=IfB (decide (n224<1000)) ((0<=n224/\n224<((1000:Nat):Int))/\Qb w225 b31 (0+n224.toNat) fun t228=>IfB t228 (Qx p24 n224 ((1000:Nat):Int) fun b229 b230=>Qb w225 b229 (b230+0+n224.toNat) fun t231=>AllocP w225 (Obj.cells #[Qz 0,Value.bool false,Qz 0] 47) fun b232 w233=>#[Qz n224,Value.bool !t231,Qz 0].size=3/\StoreP w233 b232 0 [Qz n224,Value.bool !t231,Qz 0] fun w234=>∃(y235:Unit->World->Prop),(Qx p24 n224 ((1000:Nat):Int) fun b236 b237=>Qb w234 b236 (b237+0+n224.toNat) fun t238=>IfB t238 (Qx p24 n224 ((1000:Nat):Int) fun b239 b240=>Qi w234 b239 (b240+1000+n224.toNat) fun n241=>#[Qz n241].size=1/\StoreP w234 b232 (0+2) [Qz n241] fun w242=>([]:List Df)=[]/\y235 PUnit.unit w242) (([]:List Df)=[]/\y235 PUnit.unit w234))/\∀(y243:Unit)(w244:World)(y245:Nat->Value),y235 y243 w244->(F20j12 b217 y221 b223 n224 b232 w244)) (([]:List Df)=[]/\∃b256:Nat,b256<b223/\y221 b256 (IntKind.i64.wrap (n224+1)) w225)) (F20k3 w225 b217 b5 R)
def F20k4(w37:World)(b26:Nat)(b29:Nat)(b31:Nat)(R:RV)(b5:Nat)(p24:Option Addr):Prop:=∃(y191:Nat->World->Prop),(∃(x192:Int×Int×Int×Int),CellsAt w37.drew b26 0 [Qz x192.1,Qz x192.snd.1,Qz x192.snd.snd.1,Qz x192.snd.snd.2]/\(Qu' 46 #[Value.pointer (some ⟨b29,0,none⟩)] w37.drew fun s195 w194=>CellsAt w194 b26 0 [Qz x192.1,Qz x192.snd.1,Qz x192.snd.snd.1,Qz x192.snd.snd.2]/\(Qu' 46 #[Value.pointer (some ⟨b31,0,none⟩)] w194 fun s198 w197=>CellsAt w197 b26 0 [Qz x192.1,Qz x192.snd.1,Qz x192.snd.snd.1,Qz x192.snd.snd.2]/\AllocP w197 (Obj.cells #[Qz 0,Qz 0,Qz 0,Qz 0,Qz 0,Qz 0,Value.slice none 0 0,Value.slice none 0 0,Value.slice none 0 0] 27) fun b199 w200=>CellsAt w200 b26 0 [Qz x192.1,Qz x192.snd.1,Qz x192.snd.snd.1,Qz x192.snd.snd.2]/\#[Qz 0,Qz 0,Qz x192.1,Qz x192.snd.1,Qz x192.snd.snd.1,Qz x192.snd.snd.2,Qy s195,Qy s198,Value.slice none 0 0].size=9/\StoreP w200 b199 0 [Qz 0,Qz 0,Qz x192.1,Qz x192.snd.1,Qz x192.snd.snd.1,Qz x192.snd.snd.2,Qy s195,Qy s198,Value.slice none 0 0] fun w201=>([]:List Df)=[]/\y191 b199 w201)/\AllocP w194 (Obj.cells #[Qz 0,Qz 0,Qz 0,Qz 0,Qz 0,Qz 0,Value.slice none 0 0,Value.slice none 0 0,Value.slice none 0 0] 27) fun b202 w203=>CellsAt w203 b26 0 [Qz x192.1,Qz x192.snd.1,Qz x192.snd.snd.1,Qz x192.snd.snd.2]/\Qu' 46 #[Value.pointer (some ⟨b31,0,none⟩)] w203 fun s206 w205=>CellsAt w205 b26 0 [Qz x192.1,Qz x192.snd.1,Qz x192.snd.snd.1,Qz x192.snd.snd.2]/\#[Qz 0,Qz 0,Qz x192.1,Qz x192.snd.1,Qz x192.snd.snd.1,Qz x192.snd.snd.2,Qy s195,Qy s206,Value.slice none 0 0].size=9/\StoreP w205 b202 0 [Qz 0,Qz 0,Qz x192.1,Qz x192.snd.1,Qz x192.snd.snd.1,Qz x192.snd.snd.2,Qy s195,Qy s206,Value.slice none 0 0] fun w207=>([]:List Df)=[]/\y191 b202 w207)/\AllocP w37.drew (Obj.cells #[Qz 0,Qz 0,Qz 0,Qz 0,Qz 0,Qz 0,Value.slice none 0 0,Value.slice none 0 0,Value.slice none 0 0] 27) fun b208 w209=>CellsAt w209 b26 0 [Qz x192.1,Qz x192.snd.1,Qz x192.snd.snd.1,Qz x192.snd.snd.2]/\Qu' 46 #[Value.pointer (some ⟨b29,0,none⟩)] w209 fun s212 w211=>CellsAt w211 b26 0 [Qz x192.1,Qz x192.snd.1,Qz x192.snd.snd.1,Qz x192.snd.snd.2]/\Qu' 46 #[Value.pointer (some ⟨b31,0,none⟩)] w211 fun s215 w214=>CellsAt w214 b26 0 [Qz x192.1,Qz x192.snd.1,Qz x192.snd.snd.1,Qz x192.snd.snd.2]/\#[Qz 0,Qz 0,Qz x192.1,Qz x192.snd.1,Qz x192.snd.snd.1,Qz x192.snd.snd.2,Qy s212,Qy s215,Value.slice none 0 0].size=9/\StoreP w214 b208 0 [Qz 0,Qz 0,Qz x192.1,Qz x192.snd.1,Qz x192.snd.snd.1,Qz x192.snd.snd.2,Qy s212,Qy s215,Value.slice none 0 0] fun w216=>([]:List Df)=[]/\y191 b208 w216)/\∀(b217:Nat)(w218:World)(y219:Nat->Value),y191 b217 w218->Ql (α:=Int) 0 w218 fun y221 b223 n224 w225=>(F20j11 R b5 p24 b31 b217 y221 b223 n224 w225)
def F20j1(t1:Sl)(t4:Bool)(R:RV)(b1:Nat)(b3:Nat)(b5:Nat)(p18:Option Addr)(p21:Option Addr)(p24:Option Addr)(b26:Nat)(b29:Nat)(b31:Nat)(y33:Nat->Int->World->Prop)(b35:Nat)(n36:Int)(w37:World):Prop:=Qs w37 b1 (0+0) fun s40=>IfB (decide (n36<(s40.n:Int))) (Qs w37 b1 (0+0) fun s41=>Qx s41.1 n36 (s41.2:Int) fun b42 b43=>∃(x44:Int×Int×Int×Int×Int×Int×Int×Int×Int),CellsAt w37 b42 (b43+n36.toNat*9) (lC66 x44)/\AllocP w37 (Obj.cells #[Qz 0,Qz 0,Qz 0,Qz 0,Qz 0,Qz 0,Qz 0,Qz 0,Qz 0] 66) fun b45 w46=>(lC66 x44).toArray.size=9/\StoreP w46 b45 0 (lC66 x44) fun w47=>∃(y48:Int->World->Prop),(Qi w47 b45 (0+0) fun n49=>IfB (decide (n49<=4)) (∃(x50:Int×Int),CellsAt w47 b45 (0+4) [Qz x50.1,Qz x50.2]/\Qw' 34 #[Value.agg #[Qz x50.1,Qz x50.2],Qy t1] w47 fun n53 w52=>([]:List Df)=[]/\y48 n53 w52) (([]:List Df)=[]/\y48 0 w47))/\∀(n54:Int)(w55:World)(y56:Nat->Value),y48 n54 w55->(F20j2 t1 t4 R b3 b5 p18 p21 p24 b26 b29 b31 y33 b35 n36 b45 n54 w55)) (F20k4 w37 b26 b29 b31 R b5 p24)
theorem F20_ok(t0:Sl×Sl)(t1:Sl)(t2:Int×Int×Int×Int)(t3:Option Addr)(t4:Bool)(w:World)(R:RV)(h:AllocP w (Obj.cells #[Qy t0.fst,Qy t0.snd] 36) fun b1 w2=>AllocP w2 (Obj.cells #[Qz t2.1,Qz t2.snd.1,Qz t2.snd.snd.1,Qz t2.snd.snd.2] 23) fun b3 w4=>AllocP w4 (Obj.cells #[Qz 0,Qz 0,Qz 0,Qz 0,Qz 0,Qz 0,Value.slice none 0 0,Value.slice none 0 0,Value.slice none 0 0] 27) fun b5 w6=>∃(x7:Sl×Sl),CellsAt w6 b1 0 [Qy x7.fst,Qy x7.snd]/\Qv' 42 #[Value.agg #[Qy x7.fst,Qy x7.snd],Qy t1] w6 fun t10 w9=>IfB (!t10) (∃(x11:Int×Int×Int×Int),CellsAt w9 b3 0 [Qz x11.1,Qz x11.snd.1,Qz x11.snd.snd.1,Qz x11.snd.snd.2]/\#[Qz 1,Qz 0,Qz x11.1,Qz x11.snd.1,Qz x11.snd.snd.1,Qz x11.snd.snd.2,Value.slice none 0 0,Value.slice none 0 0,Value.slice none 0 0].size=9/\StoreP w9 b5 0 [Qz 1,Qz 0,Qz x11.1,Qz x11.snd.1,Qz x11.snd.snd.1,Qz x11.snd.snd.2,Value.slice none 0 0,Value.slice none 0 0,Value.slice none 0 0] fun w12=>∃(x13:Int×Int×Int×Int×Int×Int×Sl×Sl×Sl),CellsAt w12 b5 0 (lC27 x13)/\R (Value.agg (lC27 x13).toArray) w12) (Qs w9.drew b1 (0+1) fun s14=>Qs w9.drew b1 (0+1) fun s15=>Cx 16 #[Qy s14,Qy t1,Value.bool false] w9.drew fun v16 w17=>∃(p18:Option Addr),v16=Value.pointer p18/\w17.cell? ⟨b1,0+1,none⟩=some (Qy s15)/\Cx 16 #[Qy s15,Qy t1,Value.bool true] w17 fun v19 w20=>∃(p21:Option Addr),v19=Value.pointer p21/\Cx 43 #[Value.pointer t3] w20 fun v22 w23=>∃(p24:Option Addr),v22=Value.pointer p24/\∃(x25:Int×Int×Int×Int),CellsAt w23 b3 0 [Qz x25.1,Qz x25.snd.1,Qz x25.snd.snd.1,Qz x25.snd.snd.2]/\AllocP w23 (Obj.cells #[Qz 0,Qz 0,Qz 0,Qz 0] 23) fun b26 w27=>#[Qz x25.1,Qz x25.snd.1,Qz x25.snd.snd.1,Qz x25.snd.snd.2].size=4/\StoreP w27 b26 0 [Qz x25.1,Qz x25.snd.1,Qz x25.snd.snd.1,Qz x25.snd.snd.2] fun w28=>AllocP w28 (Obj.cells (Array.replicate 1000 (Value.bool false)) 73) fun b29 w30=>AllocP w30 (Obj.cells (Array.replicate 1000 (Value.bool false)) 73) fun b31 w32=>Ql (α:=Int) 0 w32 fun y33 b35 n36 w37=>(F20j1 t1 t4 R b1 b3 b5 p18 p21 p24 b26 b29 b31 y33 b35 n36 w37))):Cw 20 #[Value.agg #[Qy t0.fst,Qy t0.snd],Qy t1,Value.agg #[Qz t2.1,Qz t2.snd.1,Qz t2.snd.snd.1,Qz t2.snd.snd.2],Value.pointer t3,Value.bool t4] w R:=
 ckF Tryz.func20 (nd (nd (.node (.draw (sts [0,1,2,4,5,6] (.ac 3 [6,5,4] (.ac 7 [] (sts [8,9] .fin) .non) .non))) (nd (nd (nd (.node (nd (.loop [(17,oi)] (rg [17,26,47,232]) (nd (.node (nd (nd (.join [(19,oi)] (rg [19,19,59,65]) .nil (nd (.join [(20,oi)] (rg [20,26,66,226]) (nd (nd (.node (nd (nd (nd (nd (nd (.node (.draw (sts [0,1,2,3,4,5,6,7,8] (.ac 9 [] .fin .non))) .nil)))))) (.join [(99,ob)] [100,99,101] .nil (.node (nd (nd (nd (.node (.draw (sts [0,1,2,3,4,5,6,7] (.ac 8 [] .fin .non))) (nd (.node (.draw (sts [0,1,2,3,4,5,6,7,8] (.ac 9 [] .fin .non))) .nil)))))) (nd (.node (nd (nd (.node (nd (.loop [(20,oi),(22,oi),(23,oi)] (rg [20,20,22,23,140,161]) (nd (.node (.join [(20,oi)] (rg [20,20,145,153]) .nil .nil) .nil)))) (nd (.node (.node (nd (.loop [(24,oi)] (rg [24,24,165,171]) .nil)) .nil) .nil))))) (nd (nd (.join [(183,ob)] [184,183,185] .nil (.node (.node (.draw (sts [0,1,2,3,4,5,6,7] (.ac 8 [] (sts [9,10,11,12,13] .fin) .non))) (.join [(25,oi),(26,ob)] (rg [25,26,198,212]) (nd (.node (.draw (sts [0,1,2,3,4,5,6,7] (.ac 8 [] (sts [9,10,11,12,13] .fin) .non))) .nil)) .nil)) (nd (.node (.node (.draw (sts [0,1,2,3,4,5,6] .fin)) .nil) .nil))))))))))))) .nil))))) .nil)))) (.join [(27,.one (.box))] [233,234,235,236,27] (.draw (.st 0 (.ac 1 [0] (.ac 2 [0] (.st 3 (.ac 4 [3,0] (.ac 5 [] .fin .non) .non)) (.ac 4 [0] (.ac 2 [0] (.st 3 (.ac 5 [] .fin .non)) .non) .non)) (.ac 4 [0] (.ac 1 [0] (.ac 2 [0] (.st 3 (.ac 5 [] .fin .non)) .non) .non) .non)))) (.node (nd (.loop [(28,oi)] (rg [28,29,237,271]) (nd (.node (nd (.node (nd (.join [] (rg [253,265]) .nil .nil)) .nil)) .nil)))) .nil))))))))) h (by kernel_rfl) (by kernel_rfl)
def F41j1(t0:Sl)(t1:Sl)(R:RV)(y1:Nat->Int->World->Prop)(b3:Nat)(n4:Int)(w5:World):Prop:=IfB (decide (n4<(t0.n:Int))) (Qx t0.1 n4 (t0.2:Int) fun b8 b9=>∃(x10:Int×Bool×Int),CellsAt w5.drew b8 (b9+n4.toNat*3) (lC47 x10)/\Qx t1.1 n4 (t1.2:Int) fun b11 b12=>∃(x13:Int×Bool×Int),CellsAt w5.drew b11 (b12+n4.toNat*3) (lC47 x13)/\∃t14:Bool,EqAt Tryz.prog 47 ((.agg (lC47 x10).toArray)) ((.agg (lC47 x13).toArray)) t14/\IfB (!t14) (R (Value.bool false) w5.drew) (([]:List Df)=[]/\∃b15:Nat,b15<b3/\y1 b15 (IntKind.i64.wrap (n4+1)) w5.drew)) (R (Value.bool true) w5)
theorem F41_ok(t0:Sl)(t1:Sl)(w:World)(R:RV)(h:IfB ((t0.2:Int) != (t1.2:Int)) (R (Value.bool false) w) (Ql (α:=Int) 0 w fun y1 b3 n4 w5=>(F41j1 t0 t1 R y1 b3 n4 w5))):Cw 41 #[Qy t0,Qy t1] w R:=
 ckF Tryz.func41 (nd (nd (.node (nd (.loop [(5,oi)] (rg [4,5,11,25]) (nd (.node (.node (.draw (sts [0,1,2,3,4,5,6,7,8] .fin)) .nil) .nil)))) .nil))) h (by kernel_rfl) (by kernel_rfl)
theorem F18_ok(t0:Int×Int×Int×Int×Int×Int×Sl×Sl×Sl)(t1:Int×Int×Int×Int×Int×Int×Sl×Sl×Sl)(w:World)(R:RV)(h:AllocP w (Obj.cells (lC27 t0).toArray 27) fun b1 w2=>AllocP w2 (Obj.cells (lC27 t1).toArray 27) fun b3 w4=>Qi w4 b1 (0+0) fun n5=>Qi w4 b3 (0+0) fun n6=>IfB (n5 == n6) (Qi w4 b1 (0+1) fun n7=>Qi w4 b3 (0+1) fun n8=>IfB (n7 == n8) (∃(x9:Int×Int×Int×Int),CellsAt w4 b1 (0+2) [Qz x9.1,Qz x9.snd.1,Qz x9.snd.snd.1,Qz x9.snd.snd.2]/\∃(x10:Int×Int×Int×Int),CellsAt w4 b3 (0+2) [Qz x10.1,Qz x10.snd.1,Qz x10.snd.snd.1,Qz x10.snd.snd.2]/\∃t11:Bool,EqAt Tryz.prog 23 (Value.agg #[Qz x9.1,Qz x9.snd.1,Qz x9.snd.snd.1,Qz x9.snd.snd.2]) (Value.agg #[Qz x10.1,Qz x10.snd.1,Qz x10.snd.snd.1,Qz x10.snd.snd.2]) t11/\IfB t11 (Qs w4 b1 (0+6) fun s12=>Qs w4 b3 (0+6) fun s13=>Qv' 40 #[Qy s12,Qy s13] w4 fun t16 w15=>IfB t16 (Qs w15 b1 (0+7) fun s17=>Qs w15 b3 (0+7) fun s18=>Qv' 40 #[Qy s17,Qy s18] w15 fun t21 w20=>IfB t21 (Qs w20 b1 (0+8) fun s22=>Qs w20 b3 (0+8) fun s23=>Qv' 41 #[Qy s22,Qy s23] w20 fun t26 w25=>R (Value.bool t26) w25) (R (Value.bool false) w20)) (R (Value.bool false) w15)) (R (Value.bool false) w4)) (R (Value.bool false) w4)) (R (Value.bool false) w4)):Cw 18 #[(.agg (lC27 t0).toArray),(.agg (lC27 t1).toArray)] w R:=
 ckF Tryz.func18 .nil h (by kernel_rfl) (by kernel_rfl)
abbrev mapC(bs:List Bool)(vs:List Int):List Value:=bs.map encB++vs.map iv
structure MapR(w:World)(b:Nat)(bs:List Bool)(vs:List Int):Prop where
 box:∃T,w.heap[b]? =some (.cells (mapC bs vs).toArray T (0,0))
 bl:bs.length=1000
 vl:vs.length=1000
theorem MapR.ch{F:Nat->Prop}{w w':World}{b:Nat}{bs:List Bool}{vs:List Int}(h:MapR w b bs vs)(hc:Ch F w w')(hF:¬F b):MapR w' b bs vs:=by
 obtain⟨⟨T,h1⟩,h2,h3⟩:=h
 exact⟨⟨T,hc.at h1 hF⟩,h2,h3⟩
theorem MapR.ext{w w':World}{b:Nat}{bs:List Bool}{vs:List Int}(h:MapR w b bs vs)(e:Ext w w'):MapR w' b bs vs:=h.ch e id
theorem MapR.isC{w:World}{b:Nat}{bs:List Bool}{vs:List Int}(h:MapR w b bs vs){k:Nat}(hk:k<1000):∃t,bs[k]? =some t/\w.cell? ⟨b,0+0+k,none⟩=some (.bool t):=by
 obtain⟨T,h1⟩:=h.box
 have hx:bs[k]? =some (bs[k]'(by rw[h.bl];exact hk)):=List.getElem?_eq_getElem (by rw[h.bl];exact hk)
 refine⟨_,hx,?_⟩
 rw[cell_of h1,List.getElem?_toArray]
 simp only[Nat.zero_add]
 rw[List.getElem?_append_left (by rw[List.length_map,h.bl];exact hk),List.getElem?_map,hx];rfl
theorem MapR.valC{w:World}{b:Nat}{bs:List Bool}{vs:List Int}(h:MapR w b bs vs){k:Nat}(hk:k<1000):∃v,vs[k]? =some v/\w.cell? ⟨b,0+1000+k,none⟩=some (iv v):=by
 obtain⟨T,h1⟩:=h.box
 have hx:vs[k]? =some (vs[k]'(by rw[h.vl];exact hk)):=List.getElem?_eq_getElem (by rw[h.vl];exact hk)
 refine⟨_,hx,?_⟩
 rw[cell_of h1,List.getElem?_toArray,List.getElem?_append_right (by rw[List.length_map,h.bl];omega),List.length_map,h.bl,show 0+1000+k-1000=k by omega,List.getElem?_map,hx];rfl
theorem MapR.setIs{w:World}{b:Nat}{bs:List Bool}{vs:List Int}(h:MapR w b bs vs){k:Nat}(hk:k<1000)(t:Bool){K:World->Prop}(hK:∀w',MapR w' b (bs.set k t) vs->Ch (fun i=>i=b) w w'->K w'):StoreP w b (0+0+k) [.bool t] K:=by
 obtain⟨T,h1⟩:=h.box
 refine store_one h1 (by simp[h.bl,h.vl];omega) rfl fun w' hu=>hK w' ⟨⟨T,?_⟩,by rw[List.length_set];exact h.bl,h.vl⟩ hu.ch
 rw[hu.new,List.setIfInBounds_toArray]
 simp only[Nat.zero_add]
 rw[List.set_append_left _ _ (by rw[List.length_map,h.bl];exact hk),show Value.bool t=encB t from rfl,<-List.map_set]
theorem MapR.setVal{w:World}{b:Nat}{bs:List Bool}{vs:List Int}(h:MapR w b bs vs){k:Nat}(hk:k<1000)(v:Int){K:World->Prop}(hK:∀w',MapR w' b bs (vs.set k v)->Ch (fun i=>i=b) w w'->K w'):StoreP w b (0+1000+k) [iv v] K:=by
 obtain⟨T,h1⟩:=h.box
 refine store_one h1 (by simp[h.bl,h.vl];omega) rfl fun w' hu=>hK w' ⟨⟨T,?_⟩,h.bl,by rw[List.length_set];exact h.vl⟩ hu.ch
 rw[hu.new,List.setIfInBounds_toArray,List.set_append_right _ _ (by rw[List.length_map,h.bl];omega),List.length_map,h.bl,show 0+1000+k-1000=k by omega,<-List.map_set]
theorem MapR.new{w w':World}{T:TypeId}{b:Nat}(h:IsAlloc w (.cells { toList:=List.replicate 1000 (Value.bool false)++List.replicate 1000 (Value.int IntKind.i64 0) } T (0,0)) b w'):MapR w' b (List.replicate 1000 false) (List.replicate 1000 0):=by
 refine⟨⟨T,?_⟩,by rw[List.length_replicate],by rw[List.length_replicate]⟩
 rw[h.new]
 unfold mapC
 rw[List.map_replicate,List.map_replicate]
 rfl
def stR(bs:List Bool)(vs:List Int)(k:Int):Option Int:=if 0<=k/\k<=999/\bs[k.toNat]? =some true then vs[k.toNat]? else none
theorem stR_put{bs:List Bool}{vs:List Int}(hb:bs.length=1000)(hv:vs.length=1000){k:Nat}(hk:k<1000)(v:Int):stR (bs.set k true) (vs.set k v)=fun j=>if j=(k:Int) then some v else stR bs vs j:=by
 funext j
 unfold stR
 by_cases e:j=(k:Int)
 ·subst e
  rw[if_pos rfl,Int.toNat_natCast,if_pos ⟨by omega,by omega,by rw[List.getElem?_set_self (by omega)]⟩,List.getElem?_set_self (by omega)]
 ·rw[if_neg e]
  by_cases hj:0<=j/\j<=999
  ·rw[List.getElem?_set_ne (by omega),List.getElem?_set_ne (by omega)]
  ·rw[if_neg (fun h=>hj ⟨h.1,h.2.1⟩),if_neg (fun h=>hj ⟨h.1,h.2.1⟩)]
theorem stR_del{bs:List Bool}{vs:List Int}(hb:bs.length=1000){k:Nat}(hk:k<1000):stR (bs.set k false) vs=fun j=>if j=(k:Int) then none else stR bs vs j:=by
 funext j
 unfold stR
 by_cases e:j=(k:Int)
 ·subst e
  rw[if_pos rfl,Int.toNat_natCast,if_neg]
  rw[List.getElem?_set_self (by omega)];simp
 ·rw[if_neg e]
  by_cases hj:0<=j/\j<=999
  ·rw[List.getElem?_set_ne (by omega)]
  ·rw[if_neg (fun h=>hj ⟨h.1,h.2.1⟩),if_neg (fun h=>hj ⟨h.1,h.2.1⟩)]
theorem stR_at{bs:List Bool}{vs:List Int}{k:Nat}{t:Bool}{v:Int}(hk:k<1000)(ht:bs[k]? =some t)(hv:vs[k]? =some v):stR bs vs (k:Int)=if t=true then some v else none:=by
 unfold stR
 rw[Int.toNat_natCast,ht,hv]
 cases t
 ·rw[if_neg (by simp)];rfl
 ·rw[if_pos ⟨by omega,by omega,rfl⟩];rfl
theorem MapR.is{w:World}{b:Nat}{bs:List Bool}{vs:List Int}(h:MapR w b bs vs){k:Nat}(hk:k<1000):w.cell? ⟨b,0+0+k,none⟩=some (.bool (stR bs vs (k:Int)).isSome):=by
 obtain⟨t,ht,hc⟩:=h.isC hk
 obtain⟨v,hv,_⟩:=h.valC hk
 rw[hc,stR_at hk ht hv]
 cases t<;>rfl
theorem MapR.val{w:World}{b:Nat}{bs:List Bool}{vs:List Int}(h:MapR w b bs vs){k:Nat}(hk:k<1000){v:Int}(hs:stR bs vs (k:Int)=some v):w.cell? ⟨b,0+1000+k,none⟩=some (iv v):=by
 obtain⟨t,ht,_⟩:=h.isC hk
 obtain⟨u,hu,hc⟩:=h.valC hk
 rw[stR_at hk ht hu] at hs
 split at hs
 ·cases hs;exact hc
 ·cases hs
def updM(st:Int->Option Int)(k:Int)(v:Option Int)(j:Int):Option Int:=if j=k then v else st j
def ofL(st:Int->Option Int):List Pr->Int->Option Int
 | []=>st
 | x::l=>ofL (if 0<=x.1/\x.1<=999 then updM st x.1 (some x.2) else st) l
theorem ofL_snoc:∀(l:List Pr)(st:Int->Option Int)(x:Pr),ofL st (l++[x])=if 0<=x.1/\x.1<=999 then updM (ofL st l) x.1 (some x.2) else ofL st l
 | [],_,_=>rfl
 | y::l,st,x=>ofL_snoc l _ x
theorem stP_iff{P:List (List Pr)}(hI:Inv P)(k v:Int):stP P k=some v↔(k,v)∈P.flatten:=by
 unfold stP
 constructor
 ·intro h
  split at h
  ·rename_i hk
   cases h
   obtain⟨u,hu⟩:=(has_iff hI k).1 hk.2.2
   rw[valP_is hI hu];exact hu
  ·cases h
 ·intro h
  have hk:=hI.rng _ h
  rw[if_pos ⟨hk.1,hk.2,(has_iff hI k).2 ⟨v,h⟩⟩,valP_is hI h]
theorem optExt{a b:Option Int}(h:∀v,a=some v↔b=some v):a=b:=by
 cases a with
 | none=>cases b with
  | none=>rfl
  | some v=>exact absurd ((h v).2 rfl) (by simp)
 | some v=>exact((h v).1 rfl).symm
theorem stP_put{P:List (List Pr)}(hI:Inv P){k:Int}(hk:0<=k/\k<=999)(v:Int):stP (putP P k v)=updM (stP P) k (some v):=by
 funext j
 refine optExt fun u=>?_
 rw[stP_iff (putP_inv hI hk),putP_flat hI,mem_insS_iff hI.sorted]
 unfold updM
 by_cases e:j=k
 ·subst e
  rw[if_pos rfl]
  simp
  exact eq_comm
 ·rw[if_neg e,stP_iff hI]
  simp[e]
theorem stP_nil:stP []=fun _=>none:=by
 funext k;unfold stP;rw[if_neg];rw[hasP_nil];simp
theorem stP_of:∀(l:List Pr)(P:List (List Pr)),Inv P->stP (putL P l)=ofL (stP P) l
 | [],_,_=>rfl
 | x::l,P,hI=>by
  show stP (putL (if 0<=x.1/\x.1<=999 then putP P x.1 x.2 else P) l)=ofL (if 0<=x.1/\x.1<=999 then updM (stP P) x.1 (some x.2) else stP P) l
  split
  ·rename_i hk
   rw[stP_of l _ (putP_inv hI hk),stP_put hI hk]
  ·exact stP_of l P hI
theorem c19{w:World}{t:Sl}{l:List Pr}(h:Rd w t 2 (prs l))(hl:l.length<=1000000):
  Cw 19 #[slV t] w fun v w'=>∃b bs vs,v=.pointer (some ⟨b,0,none⟩)/\MapR w' b bs vs/\stR bs vs=ofL (fun _=>none) l/\w.heap.size<=b/\Ext w w':=by
 have hn:t.n=l.length:=by have:=h.1;rw[prs_len] at this;omega
 refine F19_ok t w _ fun b1 w2 a2=>?_
 have e2:Ext w w2:=a2.ch _
 have p2:=a2.here
 have st0:stR (List.replicate 1000 false) (List.replicate 1000 0)=fun _=>none:=by
  funext k;unfold stR;rw[if_neg];rw[List.getElem?_replicate];rintro⟨_,_,h⟩;split at h<;>cases h
 refine⟨fun n x W=>∃(i:Nat)(bs:List Bool)(vs:List Int),i<=l.length/\n+i=l.length/\x=(i:Int)/\MapR W b1 bs vs/\stR bs vs=ofL (fun _=>none) (l.take i)/\Ext w W,⟨l.length,0,_,_,Nat.zero_le _,rfl,rfl,MapR.new a2,st0,e2⟩,?_⟩
 rintro n _ W g ⟨i,bs,vs,hi,hni,rfl,hM,hst,hE⟩
 unfold F19j1
 refine IfB.dec (fun hlt=>?_) fun hge=>?_
 ·have hi':i<l.length:=by omega
  have hx:l[i]? =some l[i]:=List.getElem?_eq_getElem hi'
  have htk:=take_succ_get hx
  generalize l[i]=x at hx htk
  have get:∀ {V:World},Ext w V->∃b o,t.p=some ⟨b,o,none⟩/\CellsAt V b (o+i*2) [iv x.1,iv x.2]:=fun e=>(h.ext e).elem (i:=i) (by omega) (by decide) (prs_elem hx)
  have hb:(0:Int)<=(i:Int)/\(i:Int)<(t.n:Int):=⟨by omega,by omega⟩
  have hi1:IntKind.i64.wrap ((i:Int)+1)=((i+1:Nat):Int):=by rw[wrap_of (by omega) (by omega)];rfl
  have skip:¬(0<=x.1/\x.1<=999)->stR bs vs=ofL (fun _=>none) (l.take (i+1)):=fun hx=>by rw[htk,ofL_snoc,if_neg hx];exact hst
  obtain⟨pb,po,hp,hc⟩:=get hE
  refine⟨pb,po,hp,hb,x.1,by rw[Int.toNat_natCast];exact hc.fst,IfB.dec (fun h1=>⟨pb,po,hp,hb,x.1,by rw[Int.toNat_natCast];exact hc.fst,IfB.dec (fun h2=>?_) fun h2=>⟨rfl,n-1,by omega,i+1,bs,vs,hi',by omega,hi1,hM,skip (by omega),hE⟩⟩) fun h1=>⟨rfl,n-1,by omega,i+1,bs,vs,hi',by omega,hi1,hM,skip (by omega),hE⟩⟩
  have hkn:((x.1.toNat:Nat):Int)=x.1:=by omega
  have hEd:=hE.trans (extDrew W)
  obtain⟨pb2,po2,hp2,hc2⟩:=get hEd
  refine⟨pb2,po2,hp2,hb,x.1,by rw[Int.toNat_natCast];exact hc2.fst,b1,0,rfl,⟨h1,by omega⟩,rfl,(hM.ext (extDrew W)).setIs (k:=x.1.toNat) (by omega) true fun w21 hM21 hc21=>?_⟩
  have E21:Ext w w21.drew:=(hEd.chN hc21 fun j e=>by omega).trans (extDrew _)
  obtain⟨pb3,po3,hp3,hc3⟩:=get E21
  refine⟨pb3,po3,hp3,hb,x.1,by rw[Int.toNat_natCast];exact hc3.fst,pb3,po3,hp3,hb,x.2,by rw[Int.toNat_natCast];exact hc3.snd,b1,0,rfl,⟨h1,by omega⟩,rfl,(hM21.ext (extDrew _)).setVal (k:=x.1.toNat) (by omega) x.2 fun w30 hM30 hc30=>⟨rfl,n-1,by omega,i+1,_,_,hi',by omega,hi1,hM30,?_,E21.chN hc30 fun j e=>by omega⟩⟩
  rw[stR_put hM.bl hM.vl (by omega),htk,ofL_snoc,if_pos ⟨h1,h2⟩,hst,hkn]
  rfl
 ·have hi':i=l.length:=by omega
  subst hi'
  rw[List.take_length] at hst
  exact⟨b1,bs,vs,rfl,hM,hst,by omega,hE⟩
theorem c43{w:World}{b:Nat}{bs:List Bool}{vs:List Int}(h:MapR w b bs vs):
  Cw 43 #[.pointer (some ⟨b,0,none⟩)] w fun v w'=>∃b',v=.pointer (some ⟨b',0,none⟩)/\MapR w' b' bs vs/\w.heap.size<=b'/\Ext w w':=by
 obtain⟨T,h1⟩:=h.box
 have hone:One (mapC bs vs):=by
  intro v hv
  rcases List.mem_append.1 hv with hv|hv
  ·obtain⟨x,_,rfl⟩:=List.mem_map.1 hv;rfl
  ·obtain⟨x,_,rfl⟩:=List.mem_map.1 hv;rfl
 have hlen:(mapC bs vs).length=2000:=by rw[List.length_append,List.length_map,List.length_map,h.bl,h.vl]
 refine F43_ok _ w _ ⟨b,0,rfl,mapC bs vs,?_,fun b6 w7 a7=>⟨(show (mapC bs vs).length=2000 from hlen),store_all a7.new (by show (List.replicate 1000 (Value.bool false)++List.replicate 1000 (Value.int IntKind.i64 0)).length=_;rw[List.length_append,List.length_replicate,List.length_replicate,hlen]) hone fun w8 h8=>⟨b6,rfl,⟨⟨_,h8.new⟩,h.bl,h.vl⟩,Nat.le_of_eq a7.here.symm,Ext.fresh a7 h8⟩⟩⟩
 unfold CellsN
 rw[hasLen_of hlen]
 exact boxAll h1 (Ch.refl _ _)
def pairsL(st:Int->Option Int)(i:Nat):List Pr:=(ranI 0 i).filterMap fun k=>(st k).map fun v=>(k,v)
theorem pairsL_succ(st:Int->Option Int)(i:Nat):pairsL st (i+1)=pairsL st i++(match st (i:Int) with|some v=>[((i:Int),v)]|none=>[]):=by
 unfold pairsL
 rw[ranI_snoc,List.filterMap_append,Int.zero_add]
 congr 1
 cases h:st (i:Int)<;>simp[h]
theorem pairsL_len(st:Int->Option Int)(i:Nat):(pairsL st i).length<=i:=Nat.le_trans (List.length_filterMap_le _ _) (by rw[ranI_len];exact Nat.le_refl _)
theorem mem_pairsL{st:Int->Option Int}{i:Nat}{x:Pr}:x∈pairsL st i↔(0<=x.1/\x.1<(i:Int))/\st x.1=some x.2:=by
 unfold pairsL
 rw[List.mem_filterMap]
 constructor
 ·rintro⟨k,hk,h⟩
  rw[mem_ranI] at hk
  cases hs:st k with
  | none=>rw[hs] at h;cases h
  | some v=>rw[hs] at h;cases h;exact⟨⟨by dsimp only;omega,by dsimp only;omega⟩,hs⟩
 ·rintro⟨hk,h⟩
  exact⟨x.1,mem_ranI.2 (by omega),by rw[h];rfl⟩
theorem pairsL_srt(st:Int->Option Int)(i:Nat):Srt (pairsL st i):=by
 have hk:∀l:List Int,l.Pairwise (· < ·)->((l.filterMap fun k=>(st k).map fun v=>((k,v):Pr)).map (·.1)).Pairwise (· < ·):=by
  intro l
  induction l with
  | nil=>intro _;exact .nil
  | cons k l ih=>
   intro h
   have h':=List.pairwise_cons.1 h
   cases hs:st k with
   | none=>simp only[List.filterMap_cons,hs,Option.map_none];exact ih h'.2
   | some v=>
    simp only[List.filterMap_cons,hs,Option.map_some,List.map_cons,List.pairwise_cons]
    refine⟨fun y hy=>?_,ih h'.2⟩
    obtain⟨z,hz,rfl⟩:=List.mem_map.1 hy
    obtain⟨j,hj,e⟩:=List.mem_filterMap.1 hz
    cases hs':st j with
    | none=>rw[hs'] at e;cases e
    | some u=>rw[hs'] at e;cases e;exact h'.1 j hj
 exact hk _ (ranI_srt 0 i)
set_option maxRecDepth 20000 in
theorem c23{w:World}{b:Nat}{bs:List Bool}{vs:List Int}(h:MapR w b bs vs):
  Cw 23 #[.pointer (some ⟨b,0,none⟩)] w fun v w'=>∃t,v=slV t/\OwS w' t 2 (prs (pairsL (stR bs vs) 1000))/\Ext w w'/\∀j∈blk t,w.heap.size<=j:=by
 refine F23_ok _ w _ ?_
 unfold F23
 refine⟨fun m x W=>∃(i:Nat)(so:Sl),i<=1000/\m+i=1000/\x=(so,(i:Int))/\OwS W so 2 (prs (pairsL (stR bs vs) i))/\Ext w W/\∀j∈blk so,w.heap.size<=j,?_,?_⟩
 ·exact⟨1000,0,⟨none,0,0⟩,by omega,by omega,rfl,.nil _ _,Ch.refl _ _,by simp[blk]⟩
 rintro m _ W g ⟨i,so,hi,hmi,rfl,ho,hE,hb⟩
 unfold F23j1
 refine IfB.dec (fun hlt=>?_) fun hge=>?_
 rotate_left
 ·have hi':i=1000:=by have:¬(i:Int)<1000:=hge;omega
  subst hi'
  exact⟨so,rfl,ho,hE,hb⟩
 have hi':i<1000:=by have:(i:Int)<1000:=hlt;omega
 have hbd:(0:Int)<=(i:Int)/\(i:Int)<((1000:Nat):Int):=⟨by omega,by omega⟩
 have hi1:IntKind.i64.wrap ((i:Int)+1)=((i+1:Nat):Int):=by rw[wrap_of (by omega) (by omega)];rfl
 have hM:=h.ext hE
 have hon:so.n=(pairsL (stR bs vs) i).length:=by have:=ho.len;rw[prs_len] at this;omega
 have hpl:=pairsL_len (stR bs vs) i
 have hps:=pairsL_succ (stR bs vs) i
 refine⟨b,0,rfl,hbd,_,by dsimp only;rw[Int.toNat_natCast];exact hM.is hi',?_⟩
 cases hs:stR bs vs (i:Int) with
 | none=>
  rw[hs,List.append_nil] at hps
  exact IfB.no rfl ⟨rfl,m-1,by omega,i+1,so,hi',by omega,by rw[hi1],by rw[hps];exact ho,hE,hb⟩
 | some v=>
  rw[hs] at hps
  refine IfB.yes rfl ⟨b,0,rfl,hbd,v,by dsimp only;rw[Int.toNat_natCast];exact hM.val hi' hs,by decide,fun b14 w15 a15=>?_⟩
  have e15:Ext W w15:=a15.ch _
  refine(ho.ext e15).lit (new:=prV ((i:Int),v)) (T':=40) a15.new rfl (prV_one _) rfl rfl (by omega) (by decide) fun s' w18 ho' hn' hC' hb'=>⟨rfl,m-1,by omega,i+1,s',hi',by omega,by rw[hi1],?_,(hE.trans e15).then hC' fun j hj h=>(by have:=hb j h;omega),fun j hj=>?_⟩
  ·rw[hps,prs_append];simpa [prs] using ho'
  ·rcases hb' j hj with h|h
   ·exact hb j h
   ·have:=hE.size;have:=e15.size;omega
theorem c42{w:World}{tc tf ta:Sl}{code:List InsD}{foot:List SpTD}{args:List Int}(hc:Rd w tc 9 (code.flatMap insC))(hf:Rd w tf 5 (foot.flatMap spTC))(ha:Rd w ta 1 (args.map iv))(hal:args.length<=1000000):
  Cw 42 #[.agg #[slV tc,slV tf],slV ta] w fun v w'=>∃r,v=.bool r/\(r=true↔RightP code foot args)/\Ext w w':=by
 have hn:=rdI ha
 have hcn:tc.n=code.length:=rdN insC_len (by omega) hc
 refine F42_ok (tc,tf) ta w _ fun b1 w2 a2=>?_
 have e2:Ext w w2:=a2.ch _
 have h1:w2.heap[b1]? =some (.cells [slV tc,slV tf].toArray _ (0,0)):=a2.new
 refine(c74 (ha.ext e2) hal).use ?_
 rintro _ w4 ⟨r,rfl,hr,e4⟩
 have E4:=e2.trans e4
 refine⟨r,rfl,IfB.intro (fun hr1=>?_) fun hr1=>⟨false,rfl,⟨fun h=>(by cases h),fun h=>?_⟩,E4⟩⟩
 rotate_left
 ·have:r=false:=hr1
  rw[hr.2 h.1] at this;cases this
 have hao:=hr.1 hr1
 refine⟨tc,boxAt h1 0 e4,IfB.intro (fun h0=>⟨tf,boxAt h1 1 e4,?_⟩) fun h0=>⟨tc,boxAt h1 0 e4,(c75 (hc.ext E4) (ta.n:Int)).use ?_⟩⟩
 ·have hz:(tc.n:Int)=0:=by simpa using h0
  have hc0:code=[]:=List.length_eq_zero_iff.1 (by omega)
  refine(c76 (hf.ext E4) (ta.n:Int)).use ?_
  rintro _ w9 ⟨r9,rfl,hr9,e9⟩
  rw[hn] at hr9
  exact⟨r9,rfl,r9,rfl,hr9.trans ⟨fun h=>⟨hao,.inl hc0,h⟩,fun h=>h.2.2⟩,E4.trans e9⟩
 ·have hc0:code≠[]:=fun e=>by
   subst e
   have:tc.n=0:=hcn
   rw[show ((tc.2:Int) == 0)=((tc.n:Int) == 0) from rfl,this] at h0
   cases h0
  rintro _ w13 ⟨r13,rfl,hr13,e13⟩
  rw[hn] at hr13
  have E13:=E4.trans e13
  refine⟨r13,rfl,IfB.intro (fun h13=>⟨tf,boxAt h1 1 (e4.trans e13),(c76 (hf.ext E13) (ta.n:Int)).use ?_⟩) fun h13=>⟨false,rfl,⟨fun h=>(by cases h),fun h=>?_⟩,E13⟩⟩
  ·rintro _ w17 ⟨r17,rfl,hr17,e17⟩
   rw[hn] at hr17
   exact⟨r17,rfl,r17,rfl,hr17.trans ⟨fun h=>⟨hao,.inr (hr13.1 h13),h⟩,fun h=>h.2.2⟩,E13.trans e17⟩
  ·rcases h.2.1 with h|h
   ·exact absurd h hc0
   ·rw[hr13.2 h] at h13;cases h13
theorem c44{a b:Int}(ha:I64 a)(hb:I64 b)(w:World):Cw 44 #[iv a,iv b] w fun v w'=>∃n r,v=.tuple #[iv n,.bool r]/\(r=true↔I64 (a+b))/\(r=true->n=a+b)/\w=w':=by
 have no:¬I64 (a+b)->∃n r,Value.tuple #[.int .i64 0,.bool false]=.tuple #[iv n,.bool r]/\(r=true↔I64 (a+b))/\(r=true->n=a+b)/\w=w:=fun h=>⟨0,false,rfl,⟨fun h=>(by cases h),fun h'=>absurd h' h⟩,fun h=>(by cases h),rfl⟩
 have yes:I64 (a+b)->∃n r,Value.tuple #[.int .i64 (IntKind.i64.wrap (a+b)),.bool true]=.tuple #[iv n,.bool r]/\(r=true↔I64 (a+b))/\(r=true->n=a+b)/\w=w:=fun h=>⟨a+b,true,by rw[wrap_of h.1 h.2],⟨fun _=>h,fun _=>rfl⟩,fun _=>rfl,rfl⟩
 unfold I64 at ha hb no yes ⊢
 refine F44_ok a b w _ (IfB.dec (fun h1=>IfB.dec (fun h2=>no ?_) fun h2=>IfB.dec (fun h3=>(by omega)) fun h3=>yes ?_) fun h1=>IfB.dec (fun h3=>IfB.dec (fun h4=>no ?_) fun h4=>yes ?_) fun h3=>yes ?_)
 ·rw[wrap_of (by omega) (by omega)] at h2;omega
 ·rw[wrap_of (by omega) (by omega)] at h2;omega
 ·rw[wrap_of (by omega) (by omega)] at h4;omega
 ·rw[wrap_of (by omega) (by omega)] at h4;omega
 ·omega
theorem c45{a b:Int}(ha:I64 a)(hb:I64 b)(w:World):Cw 45 #[iv a,iv b] w fun v w'=>∃n r,v=.tuple #[iv n,.bool r]/\(r=true↔I64 (a-b))/\(r=true->n=a-b)/\w=w':=by
 have no:¬I64 (a-b)->∃n r,Value.tuple #[.int .i64 0,.bool false]=.tuple #[iv n,.bool r]/\(r=true↔I64 (a-b))/\(r=true->n=a-b)/\w=w:=fun h=>⟨0,false,rfl,⟨fun h=>(by cases h),fun h'=>absurd h' h⟩,fun h=>(by cases h),rfl⟩
 have yes:I64 (a-b)->∃n r,Value.tuple #[.int .i64 (IntKind.i64.wrap (a-b)),.bool true]=.tuple #[iv n,.bool r]/\(r=true↔I64 (a-b))/\(r=true->n=a-b)/\w=w:=fun h=>⟨a-b,true,by rw[wrap_of h.1 h.2],⟨fun _=>h,fun _=>rfl⟩,fun _=>rfl,rfl⟩
 unfold I64 at ha hb no yes ⊢
 refine F45_ok a b w _ (IfB.dec (fun h1=>IfB.dec (fun h2=>no ?_) fun h2=>IfB.dec (fun h3=>(by omega)) fun h3=>yes ?_) fun h1=>IfB.dec (fun h3=>IfB.dec (fun h4=>no ?_) fun h4=>yes ?_) fun h3=>yes ?_)
 ·rw[wrap_of (by omega) (by omega)] at h2;omega
 ·rw[wrap_of (by omega) (by omega)] at h2;omega
 ·rw[wrap_of (by omega) (by omega)] at h4;omega
 ·rw[wrap_of (by omega) (by omega)] at h4;omega
 ·omega
theorem eqCh(x y:ChD):EqAt Tryz.prog 47 (.agg (chL x).toArray) (.agg (chL y).toArray) (x == y):=by
 have h:=eqAt_struct tbOk (d:=2) (by decide) (t:=47) (xs:=(chL x).toArray) (ys:=(chL y).toArray) (b:=(x.1 == y.1)&&((x.2.1 == y.2.1)&&((x.2.2 == y.2.2)&&true))) (by kernel_rfl) (by kernel_rfl)
 have e:(x == y)=((x.1 == y.1)&&((x.2.1 == y.2.1)&&((x.2.2 == y.2.2)&&true))):=by rw[Bool.and_true];rfl
 rw[e];exact h
theorem c41{w:World}{s t:Sl}{xs ys:List ChD}(hs:Rd w s 3 (xs.flatMap chL))(ht:Rd w t 3 (ys.flatMap chL))(hxl:xs.length<=1000000):
  Cw 41 #[slV s,slV t] w fun v w'=>v=.bool (decide (xs=ys))/\Ext w w':=by
 have hn:=rdN chL_len (by omega) hs
 have hm:=rdN chL_len (by omega) ht
 refine F41_ok s t w _ (IfB.intro (fun hne=>⟨?_,Ch.refl _ _⟩) fun heq=>?_)
 ·have:¬xs=ys:=fun e=>by
   subst e
   have:s.n=t.n:=by omega
   rw[show ((s.2:Int) != (t.2:Int))=((s.n:Int) != (t.n:Int)) from rfl,this] at hne
   simp at hne
  rw[decide_eq_false this]
 have hl:xs.length=ys.length:=by
  have:(s.n:Int)=(t.n:Int):=by simpa using heq
  omega
 refine⟨fun n x W=>∃i:Nat,i<=xs.length/\n+i=xs.length/\x=(i:Int)/\xs.take i=ys.take i/\Ext w W,⟨xs.length,0,Nat.zero_le _,rfl,rfl,rfl,Ch.refl _ _⟩,?_⟩
 rintro n _ W g ⟨i,hi,hni,rfl,he,hE⟩
 unfold F41j1
 refine IfB.dec (fun hlt=>?_) fun hge=>?_
 ·have hi':i<xs.length:=by omega
  have hx:xs[i]? =some xs[i]:=List.getElem?_eq_getElem hi'
  have hy:ys[i]? =some ys[i]:=List.getElem?_eq_getElem (by omega)
  have tx:=take_succ_get hx
  have ty:=take_succ_get hy
  generalize xs[i]=x at hx tx
  generalize ys[i]=y at hy ty
  have hEd:Ext w W.drew:=hE.trans (extDrew _)
  obtain⟨a,o,hp,hc⟩:=(hs.ext hEd).elem (i:=i) (by omega) (by omega) (flatGet chL_len hx)
  obtain⟨a',o',hp',hc'⟩:=(ht.ext hEd).elem (i:=i) (by omega) (by omega) (flatGet chL_len hy)
  refine⟨a,o,hp,⟨by omega,by omega⟩,x,by rw[Int.toNat_natCast];exact hc,a',o',hp',⟨by omega,by omega⟩,y,by rw[Int.toNat_natCast];exact hc',_,eqCh x y,IfB.intro (fun hb=>?_) fun hb=>?_⟩
  ·refine⟨?_,hEd⟩
   have hne:¬xs=ys:=fun e=>by
    subst e
    rw[hx] at hy;cases hy
    simp at hb
   rw[decide_eq_false hne]
  ·have e:x=y:=by simpa using hb
   subst e
   exact⟨rfl,n-1,by omega,i+1,hi',by omega,by rw[wrap_of (by omega) (by omega)];rfl,by rw[tx,ty,he],hEd⟩
 ·have hi':i=xs.length:=by omega
  subst hi'
  have e:xs=ys:=by rw[List.take_length,hl,List.take_length] at he;exact he
  exact⟨by rw[decide_eq_true e],hE⟩
theorem eqPr(x y:Pr):EqAt Tryz.prog 40 (.agg #[.int .i64 x.1,.int .i64 x.2]) (.agg #[.int .i64 y.1,.int .i64 y.2]) (x == y):=by
 have h:=eqAt_struct tbOk (d:=2) (by decide) (t:=40) (xs:=#[.int .i64 x.1,.int .i64 x.2]) (ys:=#[.int .i64 y.1,.int .i64 y.2]) (b:=(x.1 == y.1)&&((x.2 == y.2)&&true)) (by kernel_rfl) (by kernel_rfl)
 have e:(x == y)=((x.1 == y.1)&&((x.2 == y.2)&&true)):=by rw[Bool.and_true];rfl
 rw[e];exact h
theorem prV_len(x:Pr):(prV x).length=2:=rfl
theorem c21{w:World}{s t:Sl}{xs ys:List Pr}(hs:Rd w s 2 (xs.flatMap prV))(ht:Rd w t 2 (ys.flatMap prV))(hxl:xs.length<=1000000):
  Cw 21 #[slV s,slV t] w fun v w'=>v=.bool (decide (xs=ys))/\Ext w w':=by
 have hn:=rdN prV_len (by omega) hs
 have hm:=rdN prV_len (by omega) ht
 refine F21_ok s t w _ (IfB.intro (fun hne=>⟨?_,Ch.refl _ _⟩) fun heq=>?_)
 ·have:¬xs=ys:=fun e=>by
   subst e
   have:s.n=t.n:=by omega
   rw[show ((s.2:Int) != (t.2:Int))=((s.n:Int) != (t.n:Int)) from rfl,this] at hne
   simp at hne
  rw[decide_eq_false this]
 have hl:xs.length=ys.length:=by
  have:(s.n:Int)=(t.n:Int):=by simpa using heq
  omega
 refine⟨fun n x W=>∃i:Nat,i<=xs.length/\n+i=xs.length/\x=(i:Int)/\xs.take i=ys.take i/\Ext w W,⟨xs.length,0,Nat.zero_le _,rfl,rfl,rfl,Ch.refl _ _⟩,?_⟩
 rintro n _ W g ⟨i,hi,hni,rfl,he,hE⟩
 unfold F21j1
 refine IfB.dec (fun hlt=>?_) fun hge=>?_
 ·have hi':i<xs.length:=by omega
  have hx:xs[i]? =some xs[i]:=List.getElem?_eq_getElem hi'
  have hy:ys[i]? =some ys[i]:=List.getElem?_eq_getElem (by omega)
  have tx:=take_succ_get hx
  have ty:=take_succ_get hy
  generalize xs[i]=x at hx tx
  generalize ys[i]=y at hy ty
  have hEd:Ext w W.drew:=hE.trans (extDrew _)
  obtain⟨a,o,hp,hc⟩:=(hs.ext hEd).elem (i:=i) (by omega) (by omega) (flatGet prV_len hx)
  obtain⟨a',o',hp',hc'⟩:=(ht.ext hEd).elem (i:=i) (by omega) (by omega) (flatGet prV_len hy)
  refine⟨a,o,hp,⟨by omega,by omega⟩,x,by rw[Int.toNat_natCast];exact hc,a',o',hp',⟨by omega,by omega⟩,y,by rw[Int.toNat_natCast];exact hc',_,eqPr x y,IfB.intro (fun hb=>?_) fun hb=>?_⟩
  ·refine⟨?_,hEd⟩
   have hne:¬xs=ys:=fun e=>by
    subst e
    rw[hx] at hy;cases hy
    simp at hb
   rw[decide_eq_false hne]
  ·have e:x=y:=by simpa using hb
   subst e
   exact⟨rfl,n-1,by omega,i+1,hi',by omega,by rw[wrap_of (by omega) (by omega)];rfl,by rw[tx,ty,he],hEd⟩
 ·have hi':i=xs.length:=by omega
  subst hi'
  have e:xs=ys:=by rw[List.take_length,hl,List.take_length] at he;exact he
  exact⟨by rw[decide_eq_true e],hE⟩
theorem eqRg(x y:Rg):EqAt Tryz.prog 23 (.agg (rgL x).toArray) (.agg (rgL y).toArray) (x == y):=by
 have h:=eqAt_ints tbOk (t:=23) (e:=2) (ti:=tt23) (te:={ kd:=.int .i64,size:=1,bytes:=8,zero:=.int .i64 0,sh:=.one (.int .i64) }) (n:=4) (k:=.i64) (k':=.i64) (xs:=[x.1,x.2.1,x.2.2.1,x.2.2.2]) (ys:=[y.1,y.2.1,y.2.2.1,y.2.2.2]) (by kernel_rfl) rfl (by kernel_rfl) rfl rfl rfl rfl (by kernel_rfl)
 have e:(x == y)=([x.1,x.2.1,x.2.2.1,x.2.2.2] == [y.1,y.2.1,y.2.2.1,y.2.2.2]):=by
  obtain⟨a,b,c,d⟩:=x
  obtain⟨a',b',c',d'⟩:=y
  show ((a == a')&&((b == b')&&((c == c')&&(d == d'))))=_
  simp
 rw[e];exact h
theorem c18{w:World}{n m:Nat}{tr tw th ur uw uh:Sl}{o p:OutD}(ho:OutM n w tr tw th o)(hp:OutM m w ur uw uh p)(h1:o.rds.length<=1000000)(h2:o.wrs.length<=1000000)(h3:o.chs.length<=1000000)(he:o=p):
  Cw 18 #[.agg (outL o tr tw th).toArray,.agg (outL p ur uw uh).toArray] w fun v w'=>v=.bool true/\Ext w w':=by
 subst he
 refine F18_ok (outX o tr tw th) (outX o ur uw uh) w _ fun b1 w2 a2 b3 w4 a4=>?_
 have e2:Ext w w2:=a2.ch _
 have x4:Ext w2 w4:=a4.ch _
 have e4:Ext w w4:=e2.trans x4
 have k1:w2.heap[b1]? =some (.cells (outL o tr tw th).toArray _ (0,0)):=a2.new
 have k3:w4.heap[b3]? =some (.cells (outL o ur uw uh).toArray _ (0,0)):=a4.new
 have regs:∀ {b:Nat}{V W:World}{q:Sl}{q2 q3:Sl},V.heap[b]? =some (.cells (outL o q q2 q3).toArray 27 (0,0))->Ext V W->CellsAt W b (0+2) (rgL o.r):=fun{b V W q q2 q3} h e i v hv=>by
  match i,hv with
  | 0,hv=>cases hv;exact boxAt h 2 e
  | 1,hv=>cases hv;exact boxAt h 3 e
  | 2,hv=>cases hv;exact boxAt h 4 e
  | 3,hv=>cases hv;exact boxAt h 5 e
 refine⟨o.code,boxAt k1 0 x4,o.code,boxAt k3 0 (Ch.refl _ _),IfB.yes (by simp) ⟨o.at',boxAt k1 1 x4,o.at',boxAt k3 1 (Ch.refl _ _),IfB.yes (by simp) ⟨o.r,regs k1 x4,o.r,regs k3 (Ch.refl _ _),_,eqRg o.r o.r,IfB.yes (by simp) ⟨tr,boxAt k1 6 x4,ur,boxAt k3 6 (Ch.refl _ _),?_⟩⟩⟩⟩
 refine(c40 (ho.rr.ext e4).rd (hp.rr.ext e4).rd h1).use ?_
 rintro _ w15 ⟨rfl,e15⟩
 refine⟨_,rfl,IfB.yes (by simp) ⟨tw,boxAt k1 7 (x4.trans e15),uw,boxAt k3 7 e15,(c40 (ho.ww.ext (e4.trans e15)).rd (hp.ww.ext (e4.trans e15)).rd h2).use ?_⟩⟩
 rintro _ w20 ⟨rfl,e20⟩
 have E20:=(e4.trans e15).trans e20
 refine⟨_,rfl,IfB.yes (by simp) ⟨th,boxAt k1 8 ((x4.trans e15).trans e20),uh,boxAt k3 8 (e15.trans e20),(c41 (ho.cc.ext E20).rd (hp.cc.ext E20).rd h3).use ?_⟩⟩
 rintro _ w25 ⟨rfl,e25⟩
 exact⟨_,rfl,by simp,E20.trans e25⟩
set_option maxRecDepth 10000
theorem rgS_twice(r:Rg)(a u v:Int):rgS (rgS r a u) a v=rgS r a v:=by
 unfold rgS
 split
 ·rfl
 split
 ·rfl
 split<;>rfl
structure RfM(W:World)(bN b26 b29 b31:Nat)(st0:Int->Option Int)(s:PS):Prop where
 reg:W.heap[b26]? =some (.cells (rgL s.r).toArray 23 (0,0))
 rd:SetP W b29 (fun k=>s.rd k)
 wr:SetP W b31 (fun k=>s.wr k)
 now:∃bs vs,MapR W bN bs vs/\stR bs vs=nowV st0 s.ch
 ok:PsOk s
theorem RfM.ext{W W':World}{bN b26 b29 b31:Nat}{st0:Int->Option Int}{s:PS}(h:RfM W bN b26 b29 b31 st0 s)(e:Ext W W'):RfM W' bN b26 b29 b31 st0 s:=by
 obtain⟨h1,h2,h3,⟨bs,vs,h4,h5⟩,h6⟩:=h
 exact⟨e.at h1,h2.ext e,h3.ext e,⟨bs,vs,h4.ext e,h5⟩,h6⟩
theorem regC{W:World}{b26:Nat}{r:Rg}{T:TypeId}(h:W.heap[b26]? =some (.cells (rgL r).toArray T (0,0))){a:Int}(ha:0<=a/\a<=3){V:World}(e:Ext W V):V.cell? ⟨b26,0+a.toNat,none⟩=some (iv (rgG r a)):=by
 rw[boxAt h a.toNat e];exact rgG_at r ha
theorem regS{W:World}{b26:Nat}{r:Rg}{T:TypeId}(h:W.heap[b26]? =some (.cells (rgL r).toArray T (0,0))){a:Int}(ha:0<=a/\a<=3)(v:Int){K:World->Prop}(hK:∀W',W'.heap[b26]? =some (.cells (rgL (rgS r a v)).toArray T (0,0))->Ch (fun i=>i=b26) W W'->K W'):StoreP W b26 (0+a.toNat) [iv v] K:=by
 refine store_one h (by show 0+a.toNat<4;omega) rfl fun W' hu=>hK W' ?_ hu.ch
 rw[hu.new,List.setIfInBounds_toArray,Nat.zero_add,rgS_at r ha]
section
variable {w55:World} {bN b26 b29 b31 bR bW b45:Nat} {st0:Int->Option Int} {s:PS} {x:InsD} {args:List Int} {foot:List SpTD} {ta:Sl} {asked:Bool}
def RfF(bN b26 b29 b31:Nat)(j:Nat):Prop:=j=bN\/j=b26\/j=b29\/j=b31
structure RfC(W:World)(bN b26 b29 b31 bR bW b45:Nat)(st0:Int->Option Int)(s:PS)(x:InsD)(args:List Int)(foot:List SpTD)(ta:Sl):Prop where
 m:RfM W bN b26 b29 b31 st0 s
 box:W.heap[b45]? =some (.cells (insC x).toArray 66 (0,0))
 sr:SetP W bR (fun k=>hasS (footR foot args) k)
 sw:SetP W bW (fun k=>hasS (footW foot args) k)
 ra:Rd W ta 1 (args.map iv)
 la:0<ta.n->∀i∈blk ta,¬RfF bN b26 b29 b31 i
 aok:ArgsOk args
 xok:InsOk x args.length
 xX:I64 x.X
 st:∀k v,st0 k=some v->I64 v
 nb:¬RfF bN b26 b29 b31 b45
 nr:¬RfF bN b26 b29 b31 bR
 nw:¬RfF bN b26 b29 b31 bW
 d1:bN≠b26
 d2:bN≠b29
 d3:bN≠b31
 d4:b26≠b29
 d5:b26≠b31
 d6:b29≠b31
def RfY(w55:World)(bN b26 b29 b31:Nat)(st0:Int->Option Int)(mr mw:Int->Prop)(args:List Int)(x:InsD)(s:PS)(e:Int)(W:World):Prop:=
 Ch (RfF bN b26 b29 b31) w55 W/\((e=0/\∃s',stepI st0 mr mw args x s=.inr s'/\RfM W bN b26 b29 b31 st0 s')\/(e≠0/\stepI st0 mr mw args x s=.inl e))
abbrev mrA(asked:Bool)(foot:List SpTD)(args:List Int)(k:Int):Prop:=asked=false\/hasS (footR foot args) k
abbrev mwA(asked:Bool)(foot:List SpTD)(args:List Int)(k:Int):Prop:=asked=false\/hasS (footW foot args) k
theorem refGet(h:RfC w55 bN b26 b29 b31 bR bW b45 st0 s x args foot ta)(ho:x.1=1)(hm:mrA asked foot args (keyAt x.K args)):
  F20k1 (keyAt x.K args) w55 b29 b45 b26 (some ⟨bN,0,none⟩) (RfY w55 bN b26 b29 b31 st0 (mrA asked foot args) (mwA asked foot args) args x s):=by
 have hk:=keyAt_range (h.xok.ko (by omega)) h.aok
 change 0<=keyAt x.K args/\keyAt x.K args<=999 at hk
 have ha:0<=x.a/\x.a<=3:=⟨h.xok.a0,h.xok.a3⟩
 have hst1:stepI st0 (mrA asked foot args) (mwA asked foot args) args x s=.inr { s with r:=rgS s.r x.a ((nowV st0 s.ch (keyAt x.K args)).getD 0),rd:=fun j=>s.rd j\/j=keyAt x.K args }:=by unfold stepI;rw[if_pos ho,if_pos (bq_iff.2 hm)]
 have hok:=stepI_ok h.m.ok h.st h.xok h.xX h.aok hst1
 obtain⟨kn,hkn⟩:∃kn:Nat,keyAt x.K args=(kn:Int):=⟨(keyAt x.K args).toNat,by omega⟩
 rw[hkn] at hst1 hok hk ⊢
 obtain⟨bs,vs,hM,hnow⟩:=h.m.now
 have hbd:(0:Int)<=(kn:Int)/\(kn:Int)<((1000:Nat):Int):=⟨by omega,by omega⟩
 unfold F20k1
 rw[Int.toNat_natCast]
 refine⟨hbd,rfl,h.m.rd.put (by omega) fun w74 hR74 hc74=>?_⟩
 have nb29:¬b45=b29:=fun e=>h.nb (.inr (.inr (.inl e)))
 have nb26:¬b45=b26:=fun e=>h.nb (.inr (.inl e))
 have B74:=hc74.at h.box nb29
 refine⟨x.a,boxAt B74 1 (Ch.refl _ _),reg4 ha,rfl,regS (hc74.at h.m.reg h.d4) ha 0 fun w76 hG76 hc76=>?_⟩
 have B76:=hc76.at B74 nb26
 have M76:=(hM.ch hc74 h.d2).ch hc76 h.d1
 have C76:Ch (RfF bN b26 b29 b31) w55 w76:=(hc74.mono fun j _ (e:j=b29)=>(.inr (.inr (.inl e)):RfF bN b26 b29 b31 j)).then hc76 fun j _ e=>.inr (.inl e)
 have R76:SetP w76 b29 (fun k=>s.rd k\/(k:Int)=(kn:Int)):=(hR74.ch hc76 (Ne.symm h.d4)).iff fun k _=>or_congr Iff.rfl (by omega)
 have W76:=(h.m.wr.ch hc74 (Ne.symm h.d6)).ch hc76 (Ne.symm h.d5)
 refine⟨bN,0,rfl,hbd,_,M76.is (by omega),?_⟩
 rw[hnow]
 cases hv:nowV st0 s.ch (kn:Int) with
 | none=>
  rw[hv] at hst1 hok
  exact IfB.no rfl ⟨rfl,C76,.inl ⟨rfl,_,hst1,⟨hG76,R76,W76,⟨bs,vs,M76,hnow⟩,hok⟩⟩⟩
 | some v=>
  rw[hv] at hst1 hok
  have hGd:=(extDrew w76).at hG76
  refine IfB.yes rfl ⟨x.a,boxAt B76 1 (extDrew _),bN,0,rfl,hbd,v,(M76.ext (extDrew _)).val (by omega) (by rw[hnow];exact hv),reg4 ha,rfl,regS hGd ha v fun w84 hG84 hc84=>⟨rfl,?_,.inl ⟨rfl,_,hst1,?_⟩⟩⟩
  ·exact(C76.thenExt (extDrew _)).then hc84 fun j _ e=>.inr (.inl e)
  ·rw[rgS_twice] at hG84
   exact⟨hG84,(R76.ext (extDrew _)).ch hc84 (Ne.symm h.d4),(W76.ext (extDrew _)).ch hc84 (Ne.symm h.d5),⟨bs,vs,(M76.ext (extDrew _)).ch hc84 h.d1,hnow⟩,hok⟩
theorem refPut(h:RfC w55 bN b26 b29 b31 bR bW b45 st0 s x args foot ta)(ho:x.1=2\/x.1=3)(hm:mwA asked foot args (keyAt x.K args)):
  F20k2 (keyAt x.K args) w55 b31 b45 (some ⟨bN,0,none⟩) b26 (RfY w55 bN b26 b29 b31 st0 (mrA asked foot args) (mwA asked foot args) args x s):=by
 have hk:=keyAt_range (h.xok.ko (by omega)) h.aok
 change 0<=keyAt x.K args/\keyAt x.K args<=999 at hk
 have ha:0<=x.a/\x.a<=3:=⟨h.xok.a0,h.xok.a3⟩
 have hst1:stepI st0 (mrA asked foot args) (mwA asked foot args) args x s=.inr { s with wr:=fun j=>s.wr j\/j=keyAt x.K args,ch:=fun j=>if j=keyAt x.K args then some (if x.1=2 then (false,rgG s.r x.a) else (true,0)) else s.ch j }:=by
  unfold stepI
  rcases ho with ho|ho
  ·rw[if_neg (by omega),if_pos ho,if_pos (bq_iff.2 hm),if_pos ho]
  ·rw[if_neg (by omega),if_neg (by omega),if_pos ho,if_pos (bq_iff.2 hm),if_neg (by omega)]
 have hok:=stepI_ok h.m.ok h.st h.xok h.xX h.aok hst1
 obtain⟨kn,hkn⟩:∃kn:Nat,keyAt x.K args=(kn:Int):=⟨(keyAt x.K args).toNat,by omega⟩
 rw[hkn] at hst1 hok hk ⊢
 obtain⟨bs,vs,hM,hnow⟩:=h.m.now
 have hbd:(0:Int)<=(kn:Int)/\(kn:Int)<((1000:Nat):Int):=⟨by omega,by omega⟩
 unfold F20k2
 rw[Int.toNat_natCast]
 refine⟨hbd,rfl,h.m.wr.put (by omega) fun w104 hW104 hc104=>?_⟩
 have nb31:¬b45=b31:=fun e=>h.nb (.inr (.inr (.inr e)))
 have nbN:¬b45=bN:=fun e=>h.nb (.inl e)
 have B104:=hc104.at h.box nb31
 have D:=extDrew w104
 refine⟨x.1,boxAt B104 0 D,bN,0,rfl,hbd,rfl,((hM.ch hc104 h.d3).ext D).setIs (by omega) (x.1 == 2) fun w108 hM108 hc108=>?_⟩
 have B108:=hc108.at (D.at B104) nbN
 have C108:Ch (RfF bN b26 b29 b31) w55 w108:=((hc104.mono fun j _ (e:j=b31)=>(.inr (.inr (.inr e)):RfF bN b26 b29 b31 j)).thenExt D).then hc108 fun j _ e=>.inl e
 have W108:SetP w108 b31 (fun k=>s.wr k\/(k:Int)=(kn:Int)):=((hW104.ext D).ch hc108 (Ne.symm h.d3)).iff fun k _=>or_congr Iff.rfl (by omega)
 have R108:=((h.m.rd.ch hc104 h.d6).ext D).ch hc108 (Ne.symm h.d2)
 have G108:=hc108.at (D.at (hc104.at h.m.reg h.d5)) (Ne.symm h.d1)
 refine⟨x.1,boxAt B108 0 (Ch.refl _ _),?_⟩
 rcases ho with ho|ho
 ·rw[ho] at hM108 ⊢
  rw[if_pos ho] at hst1 hok
  have D2:=extDrew w108
  refine IfB.yes rfl ⟨x.a,boxAt B108 1 D2,reg4 ha,_,regC G108 ha D2,bN,0,rfl,hbd,rfl,(hM108.ext D2).setVal (by omega) _ fun w114 hM114 hc114=>⟨rfl,?_,.inl ⟨rfl,_,hst1,⟨hc114.at (D2.at G108) (Ne.symm h.d1),(R108.ext D2).ch hc114 (Ne.symm h.d2),(W108.ext D2).ch hc114 (Ne.symm h.d3),⟨_,_,hM114,?_⟩,hok⟩⟩⟩⟩
  ·exact(C108.thenExt D2).then hc114 fun j _ e=>.inl e
  ·rw[show ((2:Int) == 2)=true from rfl,stR_put hM.bl hM.vl (by omega),hnow]
   funext j
   unfold nowV
   dsimp only
   by_cases e:j=(kn:Int)
   ·rw[if_pos e,if_pos e]
   ·rw[if_neg e,if_neg e]
 ·rw[ho] at hM108 ⊢
  rw[if_neg (by omega)] at hst1 hok
  refine IfB.no rfl ⟨rfl,C108,.inl ⟨rfl,_,hst1,⟨G108,R108,W108,⟨_,_,hM108,?_⟩,hok⟩⟩⟩
  rw[show ((3:Int) == 2)=false from rfl,stR_del hM.bl (by omega),hnow]
  funext j
  unfold nowV
  dsimp only
  by_cases e:j=(kn:Int)
  ·rw[if_pos e,if_pos e]
  ·rw[if_neg e,if_neg e]
theorem rfIns{W:World}{b45:Nat}{x:InsD}{T:TypeId}(h:W.heap[b45]? =some (.cells (insC x).toArray T (0,0))):CellsAt W b45 (0+6) [.int .i64 x.L.1,.int .i64 x.L.2]/\CellsAt W b45 (0+4) [.int .i64 x.K.1,.int .i64 x.K.2]:=by
 refine⟨fun i v hv=>?_,fun i v hv=>?_⟩
 ·match i,hv with
  | 0,hv=>cases hv;exact boxAt h 6 (Ch.refl _ _)
  | 1,hv=>cases hv;exact boxAt h 7 (Ch.refl _ _)
 ·match i,hv with
  | 0,hv=>cases hv;exact boxAt h 4 (Ch.refl _ _)
  | 1,hv=>cases hv;exact boxAt h 5 (Ch.refl _ _)
theorem RfM.is(h:RfM w55 bN b26 b29 b31 st0 s){k:Int}(hk:0<=k/\k<=999):w55.cell? ⟨bN,0+0+k.toNat,none⟩=some (.bool (nowV st0 s.ch k).isSome):=by
 obtain⟨bs,vs,hM,hnow⟩:=h.now
 rw[hM.is (by omega),hnow,Int.toNat_of_nonneg hk.1]
theorem RfC.ext{W:World}(h:RfC w55 bN b26 b29 b31 bR bW b45 st0 s x args foot ta)(e:Ext w55 W):RfC W bN b26 b29 b31 bR bW b45 st0 s x args foot ta:=
 ⟨h.m.ext e,e.at h.box,h.sr.ext e,h.sw.ext e,h.ra.ext e,h.la,h.aok,h.xok,h.xX,h.st,h.nb,h.nr,h.nw,h.d1,h.d2,h.d3,h.d4,h.d5,h.d6⟩
theorem cnt_snoc(p:Int->Bool)(lo:Int)(j:Nat):((((ranI lo (j+1)).filter p).length:Nat):Int)=(((ranI lo j).filter p).length:Nat)+if p (lo+(j:Int))=true then 1 else 0:=by
 rw[ranI_snoc,List.filter_append,List.length_append]
 by_cases h:p (lo+(j:Int))=true
 ·rw[if_pos h,List.filter_cons_of_pos h];rfl
 ·rw[if_neg h,List.filter_cons_of_neg h];rfl
theorem bq_snoc(mr:Int->Prop)(lo:Int)(j:Nat):bq (∀q,lo<=q->q<lo+((j+1:Nat):Int)->mr q)=(bq (∀q,lo<=q->q<lo+(j:Int)->mr q)&&bq (mr (lo+(j:Int)))):=by
 rw[Bool.eq_iff_iff,Bool.and_eq_true,bq_iff,bq_iff,bq_iff]
 constructor
 ·exact fun h=>⟨fun q h1 h2=>h q h1 (by omega),h _ (by omega) (by omega)⟩
 ·rintro⟨h1,h2⟩ q h3 h4
  by_cases e:q=lo+(j:Int)
  ·rw[e];exact h2
  ·exact h1 q h3 (by omega)
theorem refScan(h:RfC w55 bN b26 b29 b31 bR bW b45 st0 s x args foot ta)(ho:x.1=4){Y:Int->World->Prop}(hY:Y=RfY w55 bN b26 b29 b31 st0 (mrA asked foot args) (mwA asked foot args) args x s):
  Cx 34 #[keyV x.L,slV ta] w55 fun v116 w117=>∃n118:Int,v116=iv n118/\∃(y119:Nat->Int×Int×Int->World->Prop),(∃b120:Nat,y119 b120 (0,0,keyAt x.K args) w117)/\
   ∀(b121:Nat)(x122:Int×Int×Int)(w123:World)(_:Nat->Value),y119 b121 x122 w123->F20j4 asked (some ⟨bR,0,none⟩) (some ⟨bN,0,none⟩) b26 b29 b45 (keyAt x.K args) Y n118 y119 b121 x122 w123:=by
 have hkr:=keyAt_range (h.xok.ko (by omega)) h.aok
 have hlr:=keyAt_range (h.xok.lo ho) h.aok
 have ha:0<=x.a/\x.a<=3:=⟨h.xok.a0,h.xok.a3⟩
 refine(c34 h.ra (h.xok.lo ho) h.aok).use ?_
 rintro _ w117 ⟨rfl,e117⟩
 change 0<=keyAt x.K args/\keyAt x.K args<=999 at hkr
 change 0<=keyAt x.L args/\keyAt x.L args<=999 at hlr
 have hst1:stepI st0 (mrA asked foot args) (mwA asked foot args) args x s=if bq (∀q,keyAt x.K args<=q->q<=keyAt x.L args->mrA asked foot args q)=true then .inr { s with r:=rgS s.r x.a (cntV st0 s.ch (keyAt x.K args) (keyAt x.L args)),rd:=fun j=>s.rd j\/(keyAt x.K args<=j/\j<=keyAt x.L args) } else .inl 9:=by
  unfold stepI;rw[if_neg (by omega),if_neg (by omega),if_neg (by omega),if_pos ho]
 refine⟨keyAt x.L args,rfl,?_⟩
 generalize keyAt x.K args=lo at hkr hst1 ⊢
 generalize keyAt x.L args=hi at hlr hst1 ⊢
 let p:Int->Bool:=fun q=>(nowV st0 s.ch q).isSome
 refine⟨fun m y W=>∃j:Nat,(lo+(j:Int)<=hi+1\/j=0)/\m+j=(hi+1-lo).toNat/\y=((if bq (∀q,lo<=q->q<lo+(j:Int)->mrA asked foot args q)=true then 0 else 9),((((ranI lo j).filter p).length:Nat):Int),lo+(j:Int))/\Ext w55 W,
  ⟨_,0,.inr rfl,rfl,?_,e117⟩,?_⟩
 ·rw[if_pos (bq_iff.2 fun q h1 h2=>by omega),Int.natCast_zero,Int.add_zero];rfl
 rintro m _ W g ⟨j,hj,hmj,rfl,hE⟩
 have hW:=h.ext hE
 have hfl:((ranI lo j).filter p).length<=j:=Nat.le_trans (List.length_filter_le _ _) (by rw[ranI_len];exact Nat.le_refl _)
 unfold F20j4
 refine IfB.dec (fun hle=>?_) fun hgt=>?_
 ·have hle:lo+(j:Int)<=hi:=hle
  have hb:0<=lo+(j:Int)/\lo+(j:Int)<=999:=⟨by omega,by omega⟩
  have hbd:(0:Int)<=lo+(j:Int)/\lo+(j:Int)<((1000:Nat):Int):=⟨by omega,by omega⟩
  have hsn:=bq_snoc (mrA asked foot args) lo j
  refine⟨fun e V=>V=W/\e=if bq (∀q,lo<=q->q<lo+((j+1:Nat):Int)->mrA asked foot args q)=true then 0 else 9,?_,?_⟩
  ·have same:mrA asked foot args (lo+(j:Int))->([]:List Df)=[]/\W=W/\(if bq (∀q,lo<=q->q<lo+(j:Int)->mrA asked foot args q)=true then (0:Int) else 9)=if bq (∀q,lo<=q->q<lo+((j+1:Nat):Int)->mrA asked foot args q)=true then 0 else 9:=fun hm=>⟨rfl,rfl,by rw[hsn,bq_iff.2 hm,Bool.and_true]⟩
   refine IfB.intro (fun hA=>?_) fun hA=>same (.inl hA)
   obtain⟨r,hc,hr⟩:=hW.sr.get (k:=(lo+(j:Int)).toNat) (by omega)
   rw[Int.toNat_of_nonneg hb.1] at hr
   refine⟨bR,0,rfl,hbd,r,hc,IfB.intro (fun hr0=>⟨rfl,rfl,?_⟩) fun hr0=>same (.inr (hr.1 (by simpa using hr0)))⟩
   have hm:¬mrA asked foot args (lo+(j:Int)):=fun hm=>hm.elim (fun e=>by rw[hA] at e;cases e) fun hm=>by rw[hr.2 hm] at hr0;cases hr0
   rw[hsn,show bq (mrA asked foot args (lo+(j:Int)))=false from bq_not.2 hm,Bool.and_false];rfl
  ·rintro e V g ⟨rfl,he⟩
   unfold F20j5
   have hcs:=cnt_snoc p lo j
   have hq:lo+(j:Int)+1=lo+((j+1:Nat):Int):=by push_cast;omega
   refine⟨bN,0,rfl,hbd,_,hW.m.is hb,IfB.intro (fun ht=>⟨rfl,m-1,by omega,j+1,.inl (by push_cast;omega),by omega,?_,hE⟩) fun ht=>⟨rfl,m-1,by omega,j+1,.inl (by push_cast;omega),by omega,?_,hE⟩⟩
   ·rw[if_pos (show p (lo+(j:Int))=true from ht)] at hcs
    dsimp only
    rw[wrap_of (by omega) (by omega),wrap_of (by omega) (by omega),he,hcs,hq]
   ·rw[if_neg (show ¬p (lo+(j:Int))=true by rw[show p (lo+(j:Int))=false from ht];simp),Int.add_zero] at hcs
    dsimp only
    rw[wrap_of (by omega) (by omega),he,hcs,hq]
 ·have hgt:¬lo+(j:Int)<=hi:=hgt
  have hjn:j=(hi+1-lo).toNat:=by omega
  have hall:(∀q,lo<=q->q<lo+(j:Int)->mrA asked foot args q)↔∀q,lo<=q->q<=hi->mrA asked foot args q:=⟨fun h q h1 h2=>h q h1 (by omega),fun h q h1 h2=>h q h1 (by omega)⟩
  have hallb:bq (∀q,lo<=q->q<lo+(j:Int)->mrA asked foot args q)=bq (∀q,lo<=q->q<=hi->mrA asked foot args q):=by rw[Bool.eq_iff_iff,bq_iff,bq_iff,hall]
  rw[hallb]
  have hcnt:((((ranI lo j).filter p).length:Nat):Int)=cntV st0 s.ch lo hi:=by rw[hjn];rfl
  rw[hcnt]
  subst hY
  by_cases hm:∀q,lo<=q->q<=hi->mrA asked foot args q
  ·have hb:=bq_iff.2 hm
   rw[if_pos hb] at hst1 ⊢
   have hok:=stepI_ok h.m.ok h.st h.xok h.xX h.aok hst1
   refine IfB.yes rfl ⟨fun m q V=>∃i:Nat,q=lo+(i:Int)/\(lo+(i:Int)<=hi+1\/i=0)/\m+i=(hi+1-lo).toNat/\SetP V b29 (fun k=>s.rd k\/(lo<=(k:Int)/\(k:Int)<lo+(i:Int)))/\Ch (fun q=>q=b29) W V,
    ⟨_,0,by simp,.inr rfl,rfl,hW.m.rd.iff fun k _=>⟨fun h=>h.elim id fun h=>by omega,.inl⟩,Ch.refl _ _⟩,?_⟩
   rintro m2 _ V g ⟨i,rfl,hi1,hmi,hS,hC⟩
   unfold F20j6
   have CV:Ch (RfF bN b26 b29 b31) w55 V:=(hE.mono fun _ _ h=>h.elim).then hC fun q _ e=>.inr (.inr (.inl e))
   refine IfB.dec (fun hle=>?_) fun hgt2=>?_
   ·refine⟨⟨by omega,by omega⟩,rfl,hS.put (k:=(lo+(i:Int)).toNat) (by omega) fun V2 hS2 hC2=>⟨rfl,m2-1,by omega,i+1,by rw[wrap_of (by omega) (by omega)];push_cast;omega,.inl (by push_cast;omega),by omega,hS2.iff fun k _=>?_,hC.then hC2 fun _ _ e=>e⟩⟩
    rw[or_assoc]
    exact or_congr Iff.rfl (by push_cast;omega)
   ·have hin:i=(hi+1-lo).toNat:=by omega
    have B:=hC.at hW.box fun e=>h.nb (.inr (.inr (.inl e)))
    refine⟨x.a,boxAt B 1 (Ch.refl _ _),reg4 ha,rfl,regS (hC.at hW.m.reg h.d4) ha _ fun V2 hG hc2=>⟨rfl,CV.then hc2 fun q _ e=>.inr (.inl e),.inl ⟨rfl,_,hst1,?_⟩⟩⟩
    obtain⟨bs,vs,hM,hnow⟩:=hW.m.now
    refine⟨hG,(hS.ch hc2 (Ne.symm h.d4)).iff fun k _=>or_congr Iff.rfl (by omega),(hW.m.wr.ch hC (Ne.symm h.d6)).ch hc2 (Ne.symm h.d5),⟨bs,vs,(hM.ch hC h.d2).ch hc2 h.d1,hnow⟩,hok⟩
  ·have hb:¬bq (∀q,lo<=q->q<=hi->mrA asked foot args q)=true:=by rw[bq_iff];exact hm
   rw[if_neg hb] at hst1 ⊢
   exact IfB.no rfl ⟨rfl,hE.mono fun _ _ h=>h.elim,.inr ⟨show (9:Int)≠0 by decide,hst1⟩⟩
theorem refSum(h:RfC w55 bN b26 b29 b31 bR bW b45 st0 s x args foot ta)(ho:x.1=6\/x.1=7){Y:Int->World->Prop}(hY:Y=RfY w55 bN b26 b29 b31 st0 (mrA asked foot args) (mwA asked foot args) args x s):
  F20j7 b26 b45 Y x.1 true w55:=by
 subst hY
 have ha:0<=x.a/\x.a<=3:=⟨h.xok.a0,h.xok.a3⟩
 have hb:=(h.xok.b3 ho).1
 have hc:=(h.xok.b3 ho).2
 obtain⟨res,hres⟩:∃res:Int,res=if x.1=6 then rgG s.r x.b+rgG s.r x.c else rgG s.r x.b-rgG s.r x.c:=⟨_,rfl⟩
 have hst1:stepI st0 (mrA asked foot args) (mwA asked foot args) args x s=if -9223372036854775808<=res/\res<=9223372036854775807 then .inr { s with r:=rgS s.r x.a res } else .inl 8:=by
  unfold stepI
  rcases ho with ho|ho
  ·rw[if_neg (by omega),if_neg (by omega),if_neg (by omega),if_neg (by omega),if_neg (by omega),if_pos ho,hres,if_pos ho]
  ·rw[if_neg (by omega),if_neg (by omega),if_neg (by omega),if_neg (by omega),if_neg (by omega),if_neg (by omega),if_pos ho,hres,if_neg (show ¬x.1=6 by omega)]
 have D:=extDrew w55
 have ib:=h.m.ok.r.get x.b
 have ic:=h.m.ok.r.get x.c
 unfold F20j7
 refine IfB.yes rfl ⟨x.b,boxAt h.box 2 D,reg4 hb,_,regC h.m.reg hb D,x.c,boxAt h.box 3 D,reg4 hc,_,regC h.m.reg hc D,(c44 ib ic _).use ?_⟩
 rintro _ w163 ⟨n,r,rfl,hr,hn,rfl⟩
 refine⟨(n,r),rfl,fun p W=>Ext w55 W/\(p.2=true↔I64 res)/\(p.2=true->p.1=res),⟨x.1,boxAt h.box 0 D,?_⟩,?_⟩
 ·rcases ho with ho|ho
  ·rw[ho] at hres ⊢
   rw[if_pos rfl] at hres
   exact IfB.no rfl ⟨rfl,D,by rw[hres];exact hr,by rw[hres];exact hn⟩
  ·rw[ho] at hres ⊢
   rw[if_neg (by decide)] at hres
   have D2:=D.trans (extDrew w55.drew)
   refine IfB.yes rfl ⟨x.b,boxAt h.box 2 D2,reg4 hb,_,regC h.m.reg hb D2,x.c,boxAt h.box 3 D2,reg4 hc,_,regC h.m.reg hc D2,(c45 ib ic _).use ?_⟩
   rintro _ w172 ⟨n2,r2,rfl,hr2,hn2,rfl⟩
   exact⟨(n2,r2),rfl,rfl,D2,by rw[hres];exact hr2,by rw[hres];exact hn2⟩
 ·rintro⟨n2,r2⟩ W g ⟨e,h1,h2⟩
  unfold F20j8
  dsimp only at h1 h2
  refine IfB.intro (fun ht=>?_) fun ht=>?_
  ·have ht:r2=true:=ht
   have hin:=h1.1 ht
   rw[if_pos (show _/\_ from hin)] at hst1
   refine⟨x.a,boxAt h.box 1 e,reg4 ha,rfl,?_⟩
   dsimp only
   rw[h2 ht]
   refine regS (e.at h.m.reg) ha res fun W2 hG hc2=>⟨rfl,(e.mono fun _ _ h=>h.elim).then hc2 fun j _ e=>.inr (.inl e),.inl ⟨rfl,_,hst1,?_⟩⟩
   obtain⟨bs,vs,hM,hnow⟩:=(h.m.ext e).now
   exact⟨hG,(h.m.ext e).rd.ch hc2 (Ne.symm h.d4),(h.m.ext e).wr.ch hc2 (Ne.symm h.d5),⟨bs,vs,hM.ch hc2 h.d1,hnow⟩,stepI_ok h.m.ok h.st h.xok h.xX h.aok hst1⟩
  ·have ht:r2=false:=ht
   have hout:¬I64 res:=fun hin=>by rw[h1.2 hin] at ht;cases ht
   rw[if_neg (show ¬(_/\_) from hout)] at hst1
   exact⟨rfl,e.mono fun _ _ h=>h.elim,.inr ⟨by decide,hst1⟩⟩
theorem refGuard(h:RfC w55 bN b26 b29 b31 bR bW b45 st0 s x args foot ta)(ho:x.1=8){Y:Int->World->Prop}(hY:Y=RfY w55 bN b26 b29 b31 st0 (mrA asked foot args) (mwA asked foot args) args x s):
  F20j7 b26 b45 Y x.1 false w55:=by
 subst hY
 have ha:0<=x.a/\x.a<=3:=⟨h.xok.a0,h.xok.a3⟩
 have hst1:stepI st0 (mrA asked foot args) (mwA asked foot args) args x s=if rgG s.r x.a<x.X then .inl 7 else .inr s:=by
  unfold stepI;rw[if_neg (by omega),if_neg (by omega),if_neg (by omega),if_neg (by omega),if_neg (by omega),if_neg (by omega),if_neg (by omega)]
 have D:=extDrew w55
 unfold F20j7
 refine IfB.no rfl (IfB.yes (by rw[ho];rfl) ⟨x.a,boxAt h.box 1 D,reg4 ha,_,regC h.m.reg ha D,x.X,boxAt h.box 8 D,IfB.dec (fun hlt=>?_) fun hge=>?_⟩)
 ·rw[if_pos hlt] at hst1
  exact⟨rfl,D.mono fun _ _ h=>h.elim,.inr ⟨by decide,hst1⟩⟩
 ·rw[if_neg hge] at hst1
  exact⟨rfl,D.mono fun _ _ h=>h.elim,.inl ⟨rfl,s,hst1,h.m.ext D⟩⟩
theorem refIns(h:RfC w55 bN b26 b29 b31 bR bW b45 st0 s x args foot ta){R:RV}{b3 b5 b35:Nat}{n36 n54:Int}{y33:Nat->Int->World->Prop}(hn:x.1<=4->n54=keyAt x.K args)
  (hD:∀W s',stepI st0 (mrA asked foot args) (mwA asked foot args) args x s=.inr s'->RfM W bN b26 b29 b31 st0 s'->Ch (RfF bN b26 b29 b31) w55 W->∃b190:Nat,b190<b35/\y33 b190 (IntKind.i64.wrap (n36+1)) W)
  (hF:∀W e,e≠0->stepI st0 (mrA asked foot args) (mwA asked foot args) args x s=.inl e->Ch (RfF bN b26 b29 b31) w55 W->F20j9 R b3 b5 y33 b35 n36 e W):
  F20j2 ta asked R b3 b5 (some ⟨bR,0,none⟩) (some ⟨bW,0,none⟩) (some ⟨bN,0,none⟩) b26 b29 b31 y33 b35 n36 b45 n54 w55:=by
 obtain⟨Y,hY⟩:∃Y,Y=RfY w55 bN b26 b29 b31 st0 (mrA asked foot args) (mwA asked foot args) args x s:=⟨_,rfl⟩
 have Y9:∀ {W},stepI st0 (mrA asked foot args) (mwA asked foot args) args x s=.inl 9->Ext w55 W->Y 9 W:=fun hs e=>by rw[hY];exact⟨e.mono fun _ _ h=>h.elim,.inr ⟨by decide,hs⟩⟩
 refine⟨Y,⟨x.1,boxAt h.box 0 (Ch.refl _ _),?_⟩,fun e W g hy=>?_⟩
 rotate_left
 ·rw[hY] at hy
  obtain⟨hc,⟨rfl,s',hs,hm⟩|⟨hne,hs⟩⟩:=hy
  ·exact IfB.no rfl ⟨rfl,hD W s' hs hm hc⟩
  ·exact hF W e hne hs hc
 have o1:=h.xok.o1
 have o8:=h.xok.o8
 refine IfB.intro (fun h1=>?_) fun h1=>?_
 ·have ho:x.1=1:=by simpa using h1
  rw[hn (by omega)]
  have hk:=keyAt_range (h.xok.ko (by omega)) h.aok
  change 0<=keyAt x.K args/\keyAt x.K args<=999 at hk
  refine IfB.intro (fun hA=>?_) fun hA=>hY ▸ refGet h ho (.inl hA)
  obtain⟨r,hc,hr⟩:=h.sr.get (k:=(keyAt x.K args).toNat) (by omega)
  rw[Int.toNat_of_nonneg hk.1] at hr
  refine⟨bR,0,rfl,⟨hk.1,by omega⟩,r,hc,IfB.intro (fun hr0=>⟨rfl,Y9 ?_ (Ch.refl _ _)⟩) fun hr0=>hY ▸ refGet h ho (.inr (hr.1 (by simpa using hr0)))⟩
  have hm:¬mrA asked foot args (keyAt x.K args):=fun hm=>hm.elim (fun e=>by rw[hA] at e;cases e) fun hm=>by rw[hr.2 hm] at hr0;cases hr0
  unfold stepI;rw[if_pos ho,if_neg (by rw[bq_iff];exact hm)]
 have n1:x.1≠1:=by simpa using h1
 refine⟨fun t W=>W=w55/\(t=true↔x.1=2\/x.1=3),IfB.intro (fun h2=>⟨rfl,rfl,⟨fun _=>.inl (by simpa using h2),fun _=>h2⟩⟩) fun h2=>⟨rfl,rfl,⟨fun h=>.inr (by simpa using h),fun h=>?_⟩⟩,?_⟩
 ·rcases h with h|h
  ·rw[h] at h2;cases h2
  ·rw[h];rfl
 rintro t W g ⟨rfl,ht⟩
 unfold F20j3
 refine IfB.intro (fun h23=>?_) fun h23=>?_
 ·have ho:=ht.1 h23
  rw[hn (by omega)]
  have hk:=keyAt_range (h.xok.ko (by omega)) h.aok
  change 0<=keyAt x.K args/\keyAt x.K args<=999 at hk
  refine IfB.intro (fun hA=>?_) fun hA=>hY ▸ refPut h ho (.inl hA)
  obtain⟨r,hc,hr⟩:=h.sw.get (k:=(keyAt x.K args).toNat) (by omega)
  rw[Int.toNat_of_nonneg hk.1] at hr
  refine⟨bW,0,rfl,⟨hk.1,by omega⟩,r,hc,IfB.intro (fun hr0=>⟨rfl,Y9 ?_ (Ch.refl _ _)⟩) fun hr0=>hY ▸ refPut h ho (.inr (hr.1 (by simpa using hr0)))⟩
  have hm:¬mwA asked foot args (keyAt x.K args):=fun hm=>hm.elim (fun e=>by rw[hA] at e;cases e) fun hm=>by rw[hr.2 hm] at hr0;cases hr0
  unfold stepI
  rcases ho with ho|ho
  ·rw[if_neg n1,if_pos ho,if_neg (by rw[bq_iff];exact hm)]
  ·rw[if_neg n1,if_neg (by omega),if_pos ho,if_neg (by rw[bq_iff];exact hm)]
 have n23:¬(x.1=2\/x.1=3):=fun h=>by rw[ht.2 h] at h23;cases h23
 refine IfB.intro (fun h4=>?_) fun h4=>?_
 ·have ho:x.1=4:=by simpa using h4
  rw[hn (by omega)]
  exact⟨x.L,(rfIns h.box).1,refScan h ho hY⟩
 have n4:x.1≠4:=by simpa using h4
 refine IfB.intro (fun h5=>?_) fun h5=>?_
 ·have ho:x.1=5:=by simpa using h5
  have ha:0<=x.a/\x.a<=3:=⟨h.xok.a0,h.xok.a3⟩
  have hst1:stepI st0 (mrA asked foot args) (mwA asked foot args) args x s=.inr { s with r:=rgS s.r x.a x.X }:=by unfold stepI;rw[if_neg (by omega),if_neg (by omega),if_neg (by omega),if_neg (by omega),if_pos ho]
  refine⟨x.a,boxAt h.box 1 (Ch.refl _ _),x.X,boxAt h.box 8 (Ch.refl _ _),reg4 ha,rfl,regS h.m.reg ha x.X fun W2 hG hc2=>⟨rfl,?_⟩⟩
  rw[hY]
  obtain⟨bs,vs,hM,hnow⟩:=h.m.now
  exact⟨hc2.mono fun j _ e=>.inr (.inl e),.inl ⟨rfl,_,hst1,⟨hG,h.m.rd.ch hc2 (Ne.symm h.d4),h.m.wr.ch hc2 (Ne.symm h.d5),⟨bs,vs,hM.ch hc2 h.d1,hnow⟩,stepI_ok h.m.ok h.st h.xok h.xX h.aok hst1⟩⟩⟩
 have n5:x.1≠5:=by simpa using h5
 refine⟨fun t V=>V=W/\(t=true↔x.1=6\/x.1=7),IfB.intro (fun h6=>⟨rfl,rfl,⟨fun _=>.inl (by simpa using h6),fun _=>h6⟩⟩) fun h6=>⟨rfl,rfl,⟨fun h=>.inr (by simpa using h),fun h=>?_⟩⟩,?_⟩
 ·rcases h with h|h
  ·rw[h] at h6;cases h6
  ·rw[h];rfl
 rintro t2 W g ⟨rfl,ht2⟩
 cases t2 with
 | true=>exact refSum h (ht2.1 rfl) hY
 | false=>
  have n67:¬(x.1=6\/x.1=7):=fun h=>by cases ht2.2 h
  exact refGuard h (by omega) hY
end
set_option maxRecDepth 20000
theorem SetP.new{w w':World}{b:Nat}(h:IsAlloc w (.cells (Array.replicate 1000 (Value.bool false)) 73 (0,0)) b w'):SetP w' b (fun _=>False):=by
 refine⟨List.replicate 1000 false,OwS.new (w:=w) (T:=73) ?_ (by rw[List.length_map,List.length_replicate]),by rw[List.length_replicate],fun k hk=>?_⟩
 ·have:((List.replicate 1000 false).map encB).toArray=Array.replicate 1000 (Value.bool false):=by rw[List.map_replicate,List.toArray_replicate];rfl
  rw[this];exact h
 ·rw[List.getElem?_replicate,if_pos hk];simp
theorem SetP.lt{w:World}{b:Nat}{Q:Nat->Prop}(h:SetP w b Q):b<w.heap.size:=by
 obtain⟨bs,h1,h2,_⟩:=h
 exact h1.lt b (by simp[blk,st1000])
theorem MapR.lt{w:World}{b:Nat}{bs:List Bool}{vs:List Int}(h:MapR w b bs vs):b<w.heap.size:=by
 obtain⟨⟨T,h1⟩,_,_⟩:=h
 exact heap_lt h1
theorem rg_one(r:Rg):One (rgL r):=by intro v hv;simp at hv;rcases hv with rfl|rfl|rfl|rfl<;>rfl
theorem chOf_succ(s:PS)(i:Nat):chOf s (ranI 0 (i+1))=chOf s (ranI 0 i)++(match s.ch (i:Int) with|some v=>[((i:Int),v)]|none=>[]):=by
 unfold chOf
 rw[ranI_snoc,List.filterMap_append,Int.zero_add]
 congr 1
 cases h:s.ch (i:Int)<;>simp[h]
theorem chOf_sub(s:PS):∀ks:List Int,((chOf s ks).map (·.1)).Sublist ks
 | []=>.slnil
 | k::l=>by
  cases hc:s.ch k with
  | none=>rw[show chOf s (k::l)=chOf s l by simp[chOf,hc]];exact(chOf_sub s l).cons _
  | some v=>rw[show chOf s (k::l)=(k,v)::chOf s l by simp[chOf,hc]];exact(chOf_sub s l).cons_cons _
theorem mem_chOf'{s:PS}{ks:List Int}(h:∀k,s.ch k≠none->k∈ks)(c:ChD):c∈chOf s ks↔s.ch c.1=some c.2:=by
 unfold chOf
 rw[List.mem_filterMap]
 constructor
 ·rintro⟨k,hk,e⟩
  cases hc:s.ch k with
  | none=>rw[hc] at e;cases e
  | some v=>rw[hc] at e;cases e;exact hc
 ·intro e
  exact⟨c.1,h c.1 (by rw[e];simp),by rw[e];rfl⟩
section
variable {n0:Nat} {w37:World} {bN b26 b29 b31 b5:Nat} {st0:Int->Option Int} {s:PS} {cs5:List Value} {T5:TypeId}
theorem refEnd(h:RfM w37 bN b26 b29 b31 st0 s)(hn:n0<=w37.heap.size)(h5:w37.heap[b5]? =some (.cells cs5.toArray T5 (0,0)))(hl5:cs5.length=9){R:RV}
  (hR:∀tr tw th o W,Done s o->OutM n0 W tr tw th o->Ch (fun j=>j=b5) w37 W->R (.agg (outL o tr tw th).toArray) W):F20k4 w37 b26 b29 b31 R b5 (some ⟨bN,0,none⟩):=by
 have D:=extDrew w37
 have regs:∀ {W:World},Ext w37 W->CellsAt W b26 0 (rgL s.r):=fun e=>boxAll h.reg e
 have blk5:=heap_lt h5
 unfold F20k4
 refine⟨fun b W=>∃tr tw rds wrs,W.heap[b]? =some (.cells (outL ⟨0,0,s.r,[],[],[]⟩ tr tw ⟨none,0,0⟩).toArray 27 (0,0))/\OwS W tr 2 (rds.flatMap sv)/\OwS W tw 2 (wrs.flatMap sv)/\(NormS rds/\∀k,hasS rds k↔s.rd k)/\(NormS wrs/\∀k,hasS wrs k↔s.wr k)/\(∀j∈blk tr,w37.heap.size<=j/\j≠b)/\(∀j∈blk tw,w37.heap.size<=j/\j≠b)/\w37.heap.size<=b/\Ext w37 W,⟨s.r,regs D,?_⟩,?_⟩
 ·have rdS:∀ {os:List Spn},(∀k,hasS os k↔0<=k/\k<1000/\s.rd k.toNat)->∀k,hasS os k↔s.rd k:=fun ho k=>(ho k).trans ⟨fun⟨h1,h2,h3⟩=>by rwa [Int.toNat_of_nonneg h1] at h3,fun hk=>by have:=h.ok.rd k hk;exact⟨this.1,by omega,by rwa [Int.toNat_of_nonneg this.1]⟩⟩
  have wrS:∀ {os:List Spn},(∀k,hasS os k↔0<=k/\k<1000/\s.wr k.toNat)->∀k,hasS os k↔s.wr k:=fun ho k=>(ho k).trans ⟨fun⟨h1,h2,h3⟩=>by rwa [Int.toNat_of_nonneg h1] at h3,fun hk=>by have:=h.ok.wk k hk;exact⟨this.1,by omega,by rwa [Int.toNat_of_nonneg this.1]⟩⟩
  refine⟨?_,?_⟩
  ·refine(c46 (h.rd.ext D)).use ?_
   rintro _ w194 ⟨tr,rds,rfl,n1,m1,o1,e1,k1⟩
   have E1:=D.trans e1
   refine⟨tr,rfl,regs E1,?_⟩
   constructor
   ·refine(c46 (h.wr.ext E1)).use ?_
    rintro _ w197 ⟨tw,wrs,rfl,n2,m2,o2,e2,k2⟩
    have E2:=E1.trans e2
    refine⟨tw,rfl,regs E2,fun b199 w200 a=>⟨regs (E2.trans (a.ch _)),rfl,store_all a.new rfl (outL_one ⟨0,0,s.r,[],[],[]⟩ tr tw ⟨none,0,0⟩) fun w201 h4=>⟨rfl,tr,tw,rds,wrs,h4.new,?_⟩⟩⟩
    have e4:Ext w197 w201:=Ext.fresh a h4
    have pa:=a.here;have q0:=e1.size;have q1:=e2.size
    rw[show w37.drew.heap.size=w37.heap.size from rfl] at q0
    exact⟨(o1.ext e2).ext e4,o2.ext e4,⟨n1,rdS m1⟩,⟨n2,wrS m2⟩,fun j hj=>⟨k1 j hj,by have:=o1.lt j hj;omega⟩,fun j hj=>⟨by have:=k2 j hj;omega,by have:=o2.lt j hj;omega⟩,by omega,E2.trans e4⟩
   ·refine fun b202 w203 a=>⟨regs (E1.trans (a.ch _)),(c46 (h.wr.ext (E1.trans (a.ch _)))).use ?_⟩
    rintro _ w205 ⟨tw,wrs,rfl,n2,m2,o2,e2,k2⟩
    have E1':Ext w37 w203:=E1.trans (a.ch _)
    have E2:=E1'.trans e2
    have pa:=a.here;have sa:=a.size;have q0:=e1.size;have q1:=e2.size
    rw[show w37.drew.heap.size=w37.heap.size from rfl] at q0
    refine⟨tw,rfl,regs E2,rfl,store_all (e2.at a.new) rfl (outL_one ⟨0,0,s.r,[],[],[]⟩ tr tw ⟨none,0,0⟩) fun w201 h4=>⟨rfl,tr,tw,rds,wrs,h4.new,?_⟩⟩
    have o1':OwS w205 tr 2 (rds.flatMap sv):=(o1.ext (a.ch _)).ext e2
    exact⟨o1'.ch h4.ch fun j hj e=>by have:=o1.lt j hj;omega,o2.ch h4.ch fun j hj e=>by have:=k2 j hj;omega,⟨n1,rdS m1⟩,⟨n2,wrS m2⟩,fun j hj=>⟨k1 j hj,by have:=o1.lt j hj;omega⟩,fun j hj=>⟨by have:=k2 j hj;omega,by have:=k2 j hj;omega⟩,by omega,E2.chN h4.ch fun j e=>by omega⟩
  ·refine fun b208 w209 a=>⟨regs (D.trans (a.ch _)),(c46 (h.rd.ext (D.trans (a.ch _)))).use ?_⟩
   rintro _ w211 ⟨tr,rds,rfl,n1,m1,o1,e1,k1⟩
   have E1':Ext w37 w209:=D.trans (a.ch _)
   have E1:=E1'.trans e1
   refine⟨tr,rfl,regs E1,(c46 (h.wr.ext E1)).use ?_⟩
   rintro _ w214 ⟨tw,wrs,rfl,n2,m2,o2,e2,k2⟩
   have E2:=E1.trans e2
   have pa:=a.here;have sa:=a.size;have q0:=e1.size;have q1:=e2.size
   rw[show w37.drew.heap.size=w37.heap.size from rfl] at pa sa
   refine⟨tw,rfl,regs E2,rfl,store_all (e2.at (e1.at a.new)) rfl (outL_one ⟨0,0,s.r,[],[],[]⟩ tr tw ⟨none,0,0⟩) fun w201 h4=>⟨rfl,tr,tw,rds,wrs,h4.new,?_⟩⟩
   exact⟨(o1.ext e2).ch h4.ch fun j hj e=>by have:=k1 j hj;omega,o2.ch h4.ch fun j hj e=>by have:=k2 j hj;omega,⟨n1,rdS m1⟩,⟨n2,wrS m2⟩,fun j hj=>⟨by have:=k1 j hj;omega,by have:=k1 j hj;omega⟩,fun j hj=>⟨by have:=k2 j hj;omega,by have:=k2 j hj;omega⟩,by omega,E2.chN h4.ch fun j e=>by omega⟩
 ·rintro b217 w218 g ⟨tr,tw,rds,wrs,hB,hrr,hww,⟨nr,mr⟩,⟨nw,mw⟩,kr,kw,kb,E⟩
  have lt217:=heap_lt hB
  refine⟨fun m x W=>∃(i:Nat)(so:Sl),i<=1000/\m+i=1000/\x=(i:Int)/\W.heap[b217]? =some (.cells (outL ⟨0,0,s.r,[],[],[]⟩ tr tw so).toArray 27 (0,0))/\OwS W so 3 ((chOf s (ranI 0 i)).flatMap chL)/\(∀j∈blk so,w218.heap.size<=j)/\Ch (fun j=>j=b217\/w218.heap.size<=j) w218 W,
   ⟨1000,0,⟨none,0,0⟩,by omega,by omega,by omega,hB,.nil _ _,by simp[blk],Ch.refl _ _⟩,?_⟩
  rintro m _ W g ⟨i,so,hi,hmi,rfl,hBW,hso,hbs,hC⟩
  have EW:Ext w37 W:=E.chN hC fun j hj=>by have:=E.size;omega
  have hcl:(chOf s (ranI 0 i)).length<=i:=Nat.le_trans chOf_len (by rw[ranI_len];exact Nat.le_refl _)
  have hsn:=owsN chL_len (by omega) hso
  unfold F20j11
  refine IfB.dec (fun hlt=>?_) fun hge=>?_
  ·have hi2:i<1000:=by omega
   have hbd:(0:Int)<=(i:Int)/\(i:Int)<((1000:Nat):Int):=⟨by omega,by omega⟩
   have hi1:IntKind.i64.wrap ((i:Int)+1)=((i+1:Nat):Int):=by rw[wrap_of (by omega) (by omega)];rfl
   have hps:=chOf_succ s i
   obtain⟨q,hq,hqw⟩:=(h.wr.ext EW).get hi2
   have hM:=h.ext EW
   refine⟨hbd,q,by rw[Int.toNat_natCast];exact hq,IfB.intro (fun hq1=>?_) fun hq1=>?_⟩
   ·obtain⟨v,hv⟩:∃v,s.ch (i:Int)=some v:=Option.ne_none_iff_exists'.1 ((h.ok.wr i).1 (hqw.1 hq1))
    rw[hv] at hps
    dsimp only at hps
    have hI:=hM.is (k:=(i:Int)) ⟨by omega,by omega⟩
    obtain⟨nv,hnv⟩:∃nv,nv=nowV st0 s.ch (i:Int):=⟨_,rfl⟩
    rw[<-hnv] at hI
    have hch:(!nv.isSome)=v.1/\(nv=none->v.2=0)/\∀u,nv=some u->v.2=u:=by
     obtain⟨gn,u⟩:=v
     rw[hnv]
     unfold nowV
     rw[hv]
     cases gn with
     | true=>exact⟨rfl,fun _=>h.ok.gone _ _ hv,fun u h=>(by cases h)⟩
     | false=>exact⟨rfl,fun h=>(by cases h),fun u' h=>(by cases h;rfl)⟩
    refine⟨bN,0,rfl,hbd,_,hI,fun b232 w233 a=>⟨rfl,store_all a.new rfl (by intro v hv;simp at hv;rcases hv with rfl|rfl|rfl<;>rfl) fun w234 h4=>?_⟩⟩
    have e4:Ext W w234:=Ext.fresh a h4
    have pa:=a.here;have sa:=a.size;have s4:=h4.size
    refine⟨fun _ V=>Ext W V/\V.heap[b232]? =some (.cells (chL ((i:Int),v)).toArray 47 (0,0))/\w234.heap.size<=V.heap.size,⟨bN,0,rfl,hbd,nv.isSome,?_,?_⟩,?_⟩
    ·exact hnv ▸ ((h.ext (EW.trans e4)).is (k:=(i:Int)) ⟨by omega,by omega⟩)
    ·cases hnv2:nv with
     | none=>
      refine IfB.no rfl ⟨rfl,e4,?_,Nat.le_refl _⟩
      rw[h4.new,hnv2]
      obtain⟨gn,u⟩:=v
      have h1:=hch.1;have h2:=hch.2.1 hnv2
      rw[hnv2] at h1
      dsimp only at h1 h2
      subst h2;rw[<-h1]
     | some u=>
      have h1:=hch.1;have h2:=hch.2.2 u hnv2
      rw[hnv2] at h1
      refine IfB.yes rfl ⟨bN,0,rfl,hbd,u,?_,rfl,store_one h4.new (by simp) rfl fun w242 h5'=>⟨rfl,e4.chN h5'.ch fun j e=>by omega,?_,by have:=h5'.size;omega⟩⟩
      ·obtain⟨bs,vs,hMR,hnow⟩:=(h.ext (EW.trans e4)).now
       have:=hMR.val (k:=i) hi2 (v:=u) (by rw[hnow,<-hnv,hnv2])
       rw[Int.toNat_natCast];exact this
      ·rw[h5'.new,hnv2]
       obtain⟨gn,u'⟩:=v
       dsimp only at h1 h2
       subst h2;rw[<-h1];rfl
    ·rintro _ w244 g ⟨e5,h232,hs5⟩
     have lt12:=heap_lt hBW
     unfold F20j12
     refine⟨so,boxAt hBW 8 e5,((i:Int),v),boxAll h232 (Ch.refl _ _),by decide,fun b249 w250 a2=>?_⟩
     have e6:Ext W w250:=e5.trans (a2.ch _)
     refine(hso.ext e6).lit (new:=chL ((i:Int),v)) (T':=47) a2.new rfl (chL_one _) rfl rfl (by omega) (by decide) fun s' w45 ho' hn' hC' hb'=>?_
     have nb:¬b217∈blk so:=fun h=>by have:=hbs b217 h;omega
     have h45:=hC'.at (e6.at hBW) nb
     have:=e6.size;have:=hC.size
     refine⟨rfl,store_one h45 (by simp) rfl fun w46 h46=>⟨rfl,m-1,by omega,i+1,s',hi2,by omega,hi1,?_,?_,?_,?_⟩⟩
     ·rw[h46.new];rfl
     ·rw[hps,List.flatMap_append]
      refine(show OwS w45 s' 3 _ from by simpa using ho').ch h46.ch fun j hj e=>?_
      rcases hb' j hj with h|h
      ·have:=hbs j h;omega
      ·omega
     ·intro j hj
      rcases hb' j hj with h|h
      ·exact hbs j h
      ·omega
     ·exact((hC.then e6 fun _ _ h=>h.elim).then hC' fun j _ h=>.inr (hbs j h)).then h46.ch fun j _ h=>.inl h
   ·have hn:s.ch (i:Int)=none:=by
     by_cases hc:s.ch (i:Int)=none
     ·exact hc
     ·rw[hqw.2 ((h.ok.wr _).2 hc)] at hq1;cases hq1
    rw[hn,List.append_nil] at hps
    exact⟨rfl,m-1,by omega,i+1,so,hi2,by omega,hi1,hBW,by rw[hps];exact hso,hbs,hC⟩
  ·have hi2:i=1000:=by omega
   subst hi2
   have h5W:=EW.at h5
   unfold F20k3
   refine⟨outX ⟨0,0,s.r,[],[],[]⟩ tr tw so,boxAll hBW (Ch.refl _ _),rfl,store_all h5W (by rw[List.size_toArray,hl5];rfl) (outL_one _ _ _ _) fun w49 h49=>⟨outX ⟨0,0,s.r,[],[],[]⟩ tr tw so,boxAll h49.new (Ch.refl _ _),?_⟩⟩
   have hkey:∀k,s.ch k≠none->k∈ranI 0 1000:=fun k hk=>by
    have:=h.ok.wk k ((h.ok.wr k).2 hk)
    rw[mem_ranI];omega
   have:=E.size
   have o1:OwS W tr 2 (rds.flatMap sv):=hrr.ch hC fun j hj e=>(by have:=kr j hj;have:=hrr.lt j hj;omega)
   have o2:OwS W tw 2 (wrs.flatMap sv):=hww.ch hC fun j hj e=>(by have:=kw j hj;have:=hww.lt j hj;omega)
   refine hR tr tw so ⟨0,0,s.r,rds,wrs,chOf s (ranI 0 1000)⟩ w49 ⟨rfl,rfl,rfl,nr,mr,nw,mw,(ranI_srt 0 1000).sublist (chOf_sub s _),mem_chOf' hkey⟩ ⟨?_,?_,?_,?_,?_,?_⟩ ((EW.mono fun _ _ h=>h.elim).then h49.ch fun _ _ h=>h)
   ·exact o1.ch h49.ch fun j hj e=>by have:=kr j hj;omega
   ·exact o2.ch h49.ch fun j hj e=>by have:=kw j hj;omega
   ·exact hso.ch h49.ch fun j hj e=>by have:=hbs j hj;omega
   ·exact fun j hj=>by have:=(kr j hj).1;omega
   ·exact fun j hj=>by have:=(kw j hj).1;omega
   ·exact fun j hj=>by have:=hbs j hj;omega
end
theorem c20{w:World}{tc tf ta:Sl}{code:List InsD}{foot:List SpTD}{args:List Int}{r:Rg}{bM:Nat}{bs:List Bool}{vs:List Int}{asked:Bool}
  (hc:Rd w tc 9 (code.flatMap insC))(hf:Rd w tf 5 (foot.flatMap spTC))(ha:Rd w ta 1 (args.map iv))(hal:args.length<=1000000)(hM:MapR w bM bs vs)(hst:∀k v,stR bs vs k=some v->I64 v)(hr:RgOk r)(hX:∀x∈code,I64 x.X):
  Cw 20 #[.agg #[slV tc,slV tf],slV ta,.agg (rgL r).toArray,.pointer (some ⟨bM,0,none⟩),.bool asked] w fun v w'=>∃tr tw th o,v=.agg (outL o tr tw th).toArray/\
   IsOut (RightP code foot args) (stR bs vs) (mrA asked foot args) (mwA asked foot args) args code r o/\OutM w.heap.size w' tr tw th o/\Ext w w':=by
 have hcn:tc.n=code.length:=rdN insC_len (by omega) hc
 refine F20_ok (tc,tf) ta r (some ⟨bM,0,none⟩) asked w _ fun b1 w2 a2 b3 w4 a4 b5 w6 a6=>?_
 have s2:=a2.size;have s4:=a4.size;have s6:=a6.size
 have p2:=a2.here;have p4:=a4.here;have p6:=a6.here
 have e6:Ext w w6:=((a2.ch _).trans (a4.ch _)).trans (a6.ch _)
 have x4:Ext w4 w6:=a6.ch _
 have x2:Ext w2 w6:=(a4.ch _).trans x4
 have h1:w6.heap[b1]? =some (.cells [slV tc,slV tf].toArray _ (0,0)):=x2.at a2.new
 have h3:w6.heap[b3]? =some (.cells (rgL r).toArray _ (0,0)):=x4.at a4.new
 have h5:=a6.new
 refine⟨(tc,tf),boxAll h1 (Ch.refl _ _),(c42 (hc.ext e6) (hf.ext e6) (ha.ext e6) hal).use ?_⟩
 rintro _ w9 ⟨rr,rfl,hrr,e9⟩
 have E9:Ext w w9:=e6.trans e9
 have s9:=e9.size
 refine⟨rr,rfl,IfB.intro (fun hn=>?_) fun hn=>?_⟩
 ·have hn:¬RightP code foot args:=fun h=>by rw[hrr.2 h] at hn;cases hn
  refine⟨r,boxAll h3 e9,rfl,store_all (e9.at h5) rfl (outL_one ⟨1,0,r,[],[],[]⟩ ⟨none,0,0⟩ ⟨none,0,0⟩ ⟨none,0,0⟩) fun w17 h17=>⟨outX ⟨1,0,r,[],[],[]⟩ ⟨none,0,0⟩ ⟨none,0,0⟩ ⟨none,0,0⟩,boxAll h17.new (Ch.refl _ _),?_⟩⟩
  exact⟨_,_,_,⟨1,0,r,[],[],[]⟩,rfl,⟨fun _=>rfl,fun h=>absurd h hn⟩,⟨.nil _ _,.nil _ _,.nil _ _,by simp[blk],by simp[blk],by simp[blk]⟩,E9.chN h17.ch fun j e=>by omega⟩
 have hok:RightP code foot args:=hrr.1 (by simpa using hn)
 have d9:Ext w6 w9.drew:=e9.trans (extDrew _)
 have D9:Ext w w9.drew:=e6.trans d9
 refine⟨tf,boxAt h1 1 d9,tf,boxAt h1 1 d9,(c16 (hf.ext D9) (ha.ext D9) hok.2.2 hok.1 false).use ?_⟩
 rintro _ w17 ⟨bR,rfl,sR,kR,e17⟩
 have E17:=D9.trans e17
 refine⟨_,rfl,boxAt h1 1 (d9.trans e17),(c16 (hf.ext E17) (ha.ext E17) hok.2.2 hok.1 true).use ?_⟩
 rintro _ w20 ⟨bW,rfl,sW,kW,e20⟩
 have E20:=E17.trans e20
 refine⟨_,rfl,(c43 (hM.ext E20)).use ?_⟩
 rintro _ w23 ⟨bN,rfl,hN,kN,e23⟩
 have d23:Ext w6 w23:=(d9.trans e17).trans (e20.trans e23)
 have E23:Ext w w23:=e6.trans d23
 have q0:w9.drew.heap.size=w9.heap.size:=rfl
 have q1:=e17.size;have q2:=e20.size;have q3:=e23.size
 refine⟨_,rfl,r,boxAll h3 d23,fun b26 w27 a27=>⟨rfl,store_all a27.new rfl (rg_one r) fun w28 h28 b29 w30 a30 b31 w32 a32=>?_⟩⟩
 have p27:=a27.here;have s27:=a27.size;have s28:=h28.size;have p30:=a30.here;have s30:=a30.size;have p32:=a32.here;have s32:=a32.size
 have e28:Ext w23 w28:=Ext.fresh a27 h28
 have e32:Ext w28 w32:=(a30.ch _).trans (a32.ch _)
 have e3032:Ext w30 w32:=a32.ch _
 have e2332:Ext w23 w32:=e28.trans e32
 have E32:Ext w w32:=E23.trans e2332
 have d32:Ext w6 w32:=d23.trans e2332
 have m32:RfM w32 bN b26 b29 b31 (stR bs vs) (ps0 r):=⟨e32.at h28.new,(SetP.new a30).ext e3032,SetP.new a32,⟨bs,vs,hN.ext e2332,by funext k;rfl⟩,ps0_ok hr⟩
 have hR32:SetP w32 bR (fun k=>hasS (footR foot args) k):=(sR.iff fun k _=>(by simp[footR])).ext ((e20.trans e23).trans e2332)
 have hW32:SetP w32 bW (fun k=>hasS (footW foot args) k):=(sW.iff fun k _=>(by simp[footW])).ext (e23.trans e2332)
 have hR0:=sR.lt;have hW0:=sW.lt;have hN0:=hN.lt
 have nF:∀j,j<w9.heap.size\/j=bR\/j=bW->¬RfF bN b26 b29 b31 j:=fun j hj h=>by unfold RfF at h;omega
 have F9:∀ {V V':World},Ext w32 V->Ch (RfF bN b26 b29 b31) V V'->Ch (RfF bN b26 b29 b31) w32 V':=fun e c=>(e.mono fun _ _ h=>h.elim).then c fun _ _ h=>h
 have C9:∀ {V:World},Ch (RfF bN b26 b29 b31) w32 V->Ext w V:=fun c=>E32.chN c fun j h=>by unfold RfF at h;omega
 have hcl:code.length<=8:=by
  rcases hok.2.1 with h|h
  ·subst h;simp
  ·exact h.l8
 have hcok:∀x∈code,InsOk x args.length:=fun x hx=>by
  rcases hok.2.1 with h|h
  ·subst h;cases hx
  ·exact h.all x hx
 refine⟨fun n x W=>∃(i:Nat)(s:PS),i<=code.length/\n+i=code.length/\x=(i:Int)/\runI (stR bs vs) (mrA asked foot args) (mwA asked foot args) args (code.take i) 0 (ps0 r)=.inr s/\RfM W bN b26 b29 b31 (stR bs vs) s/\Ch (RfF bN b26 b29 b31) w32 W,
  ⟨code.length,0,ps0 r,Nat.zero_le _,rfl,rfl,rfl,m32,Ch.refl _ _⟩,?_⟩
 rintro n _ W g ⟨i,s,hi,hni,rfl,hrun,hm,hC⟩
 have EW:=C9 hC
 have hsW:=hC.size
 have at6:∀ {j:Nat}{cs:List Value}{T:TypeId},w6.heap[j]? =some (.cells cs.toArray T (0,0))->W.heap[j]? =some (.cells cs.toArray T (0,0)):=fun h=>hC.at (d32.at h) (nF _ (.inl (by have:=heap_lt h;omega)))
 have hW1:=at6 h1
 have hW3:=at6 h3
 have hW5:W.heap[b5]? =_:=hC.at (d32.at h5) (nF _ (.inl (by omega)))
 unfold F20j1
 refine⟨tc,boxAt hW1 0 (Ch.refl _ _),IfB.dec (fun hlt=>?_) fun hge=>?_⟩
 rotate_left
 ·have hi2:i=code.length:=by omega
  subst hi2
  rw[List.take_length] at hrun
  exact refEnd (n0:=w.heap.size) (cs5:=outL ⟨0,0,(0,0,0,0),[],[],[]⟩ ⟨none,0,0⟩ ⟨none,0,0⟩ ⟨none,0,0⟩) hm (by omega) hW5 rfl fun tr tw th o V hD hO hCV=>⟨tr,tw,th,o,rfl,⟨fun h=>absurd hok h,fun _=>by rw[hrun];exact hD⟩,hO,EW.chN hCV fun j e=>by omega⟩
 have hi2:i<code.length:=by omega
 have hx:code[i]? =some code[i]:=List.getElem?_eq_getElem hi2
 have hmem:=List.getElem_mem hi2
 generalize code[i]=x at hx hmem
 have hxo:=hcok x hmem
 have hxX:=hX x hmem
 obtain⟨pb,po,hp,hcx⟩:=(hc.ext EW).elem (i:=i) (by omega) (by omega) (flatGet insC_len hx)
 refine⟨tc,boxAt hW1 0 (Ch.refl _ _),pb,po,hp,⟨by omega,hlt⟩,insX x,by rw[Int.toNat_natCast];exact hcx,fun b45 w46 a45=>⟨rfl,store_all a45.new rfl (insC_one x) fun w47 h47=>?_⟩⟩
 have e47:Ext W w47:=Ext.fresh a45 h47
 have p45:=a45.here;have s46:=a45.size;have s47:=h47.size
 have EW47:=EW.trans e47
 refine⟨fun k V=>Ext w47 V/\(x.1<=4->k=keyAt x.K args),⟨x.1,boxAt h47.new 0 (Ch.refl _ _),IfB.dec (fun h4=>⟨x.K,(rfIns h47.new).2,(c34 (ha.ext EW47) (hxo.ko h4) hok.1).use ?_⟩) fun h4=>⟨rfl,Ch.refl _ _,fun h=>absurd h h4⟩⟩,?_⟩
 ·rintro _ V ⟨rfl,eV⟩
  exact⟨_,rfl,rfl,eV,fun _=>rfl⟩
 rintro n54 w55 g ⟨e55,hn54⟩
 have E55:Ext W w55:=e47.trans e55
 have C55:Ch (RfF bN b26 b29 b31) w32 w55:=hC.then (E55.mono fun _ _ h=>h.elim) fun _ _ h=>h
 have h55:=e55.size
 have rc:RfC w55 bN b26 b29 b31 bR bW b45 (stR bs vs) s x args foot ta:=
  ⟨hm.ext E55,e55.at h47.new,hR32.ch C55 (nF _ (.inr (.inl rfl))),hW32.ch C55 (nF _ (.inr (.inr rfl))),ha.ext (EW47.trans e55),fun h0 j hj=>nF _ (.inl (by have:=rd_lt ha (by omega) h0 j hj;have:=E9.size;omega)),hok.1,hxo,hxX,hst,by unfold RfF;omega,nF _ (.inr (.inl rfl)),nF _ (.inr (.inr rfl)),by omega,by omega,by omega,by omega,by omega,by omega⟩
 refine refIns rc hn54 (fun V s' hst' hm' hCV=>⟨n-1,by omega,i+1,s',hi2,by omega,by rw[wrap_of (by omega) (by omega)];rfl,runI_next hx hrun hst',hm',C55.then hCV fun _ _ h=>h⟩) fun V e he hst' hCV=>?_
 have CV:Ch (RfF bN b26 b29 b31) w32 V:=C55.then hCV fun _ _ h=>h
 have EV:=C9 CV
 have hfail:=runI_fail hx hrun hst'
 unfold F20j9
 have v3:V.heap[b3]? =some (.cells (rgL r).toArray _ (0,0)):=CV.at (d32.at h3) (nF _ (.inl (by omega)))
 have v5:=CV.at (d32.at h5) (nF _ (.inl (by omega)))
 refine IfB.yes (by simp[he]) ⟨r,boxAll v3 (Ch.refl _ _),rfl,store_all v5 rfl (outL_one ⟨e,(i:Int),r,[],[],[]⟩ ⟨none,0,0⟩ ⟨none,0,0⟩ ⟨none,0,0⟩) fun v8 h8=>⟨outX ⟨e,(i:Int),r,[],[],[]⟩ ⟨none,0,0⟩ ⟨none,0,0⟩ ⟨none,0,0⟩,boxAll h8.new (Ch.refl _ _),?_⟩⟩
 exact⟨_,_,_,⟨e,(i:Int),r,[],[],[]⟩,rfl,⟨fun h=>absurd hok h,fun _=>by rw[hfail]⟩,⟨.nil _ _,.nil _ _,.nil _ _,by simp[blk],by simp[blk],by simp[blk]⟩,EV.chN h8.ch fun j e=>by omega⟩
def F5k1(t3:Sl)(w10:World)(b1:Nat)(b3:Nat)(t1:Sl)(t4:Bool)(R:RV):Prop:=Cx 13 #[Qy t3] w10 fun v12 w13=>∃(p14:Option Addr),v12=Value.pointer p14/\Cx 19 #[Qy t3] w13 fun v15 w16=>∃(p17:Option Addr),v15=Value.pointer p17/\∃(x18:Sl×Sl),CellsAt w16 b1 0 [Qy x18.fst,Qy x18.snd]/\∃(x19:Int×Int×Int×Int),CellsAt w16 b3 0 [Qz x19.1,Qz x19.snd.1,Qz x19.snd.snd.1,Qz x19.snd.snd.2]/\Cx 14 #[Value.agg #[Qy x18.fst,Qy x18.snd],Qy t1,Value.agg #[Qz x19.1,Qz x19.snd.1,Qz x19.snd.snd.1,Qz x19.snd.snd.2],Value.pointer p14,Value.bool t4] w16 fun v20 w21=>∃(x22:Int×Int×Int×Int×Int×Int×Sl×Sl×Sl),v20=Value.agg (lC27 x22).toArray/\AllocP w21 (Obj.cells #[Qz 0,Qz 0,Qz 0,Qz 0,Qz 0,Qz 0,Value.slice none 0 0,Value.slice none 0 0,Value.slice none 0 0] 27) fun b23 w24=>(lC27 x22).toArray.size=9/\StoreP w24 b23 0 (lC27 x22) fun w25=>∃(x26:Int×Int×Int×Int×Int×Int×Sl×Sl×Sl),CellsAt w25.drew b23 0 (lC27 x26)/\∃(x27:Sl×Sl),CellsAt w25.drew b1 0 [Qy x27.fst,Qy x27.snd]/\∃(x28:Int×Int×Int×Int),CellsAt w25.drew b3 0 [Qz x28.1,Qz x28.snd.1,Qz x28.snd.snd.1,Qz x28.snd.snd.2]/\Cx 20 #[Value.agg #[Qy x27.fst,Qy x27.snd],Qy t1,Value.agg #[Qz x28.1,Qz x28.snd.1,Qz x28.snd.snd.1,Qz x28.snd.snd.2],Value.pointer p17,Value.bool t4] w25.drew fun v29 w30=>∃(x31:Int×Int×Int×Int×Int×Int×Sl×Sl×Sl),v29=Value.agg (lC27 x31).toArray/\CellsAt w30 b23 0 (lC27 x26)/\Qv' 18 #[Value.agg (lC27 x26).toArray,Value.agg (lC27 x31).toArray] w30 fun t34 w33=>IfB t34 (Qu' 22 #[Value.pointer p14,Qz 0,Qz 999] w33 fun s37 w36=>Qu' 23 #[Value.pointer p17] w36 fun s40 w39=>Qv' 21 #[Qy s37,Qy s40] w39 fun t43 w42=>R (Value.bool t43) w42) (R (Value.bool false) w33)
theorem F5_ok(t0:Sl×Sl)(t1:Sl)(t2:Int×Int×Int×Int)(t3:Sl)(t4:Bool)(w:World)(R:RV)(h:AllocP w (Obj.cells #[Qy t0.fst,Qy t0.snd] 36) fun b1 w2=>AllocP w2 (Obj.cells #[Qz t2.1,Qz t2.snd.1,Qz t2.snd.snd.1,Qz t2.snd.snd.2] 23) fun b3 w4=>Qv' 8 #[] w4 fun t7 w6=>IfB (!t7) (R (Value.bool false) w6) (∃(x8:Sl×Sl),CellsAt w6 b1 0 [Qy x8.fst,Qy x8.snd]/\Qv' 12 #[Value.agg #[Qy x8.fst,Qy x8.snd],Qy t1,Qy t3] w6 fun t11 w10=>IfB t11 (R (Value.bool true) w10) (F5k1 t3 w10 b1 b3 t1 t4 R))):Cw 5 #[Value.agg #[Qy t0.fst,Qy t0.snd],Qy t1,Value.agg #[Qz t2.1,Qz t2.snd.1,Qz t2.snd.snd.1,Qz t2.snd.snd.2],Qy t3,Value.bool t4] w R:=
 ckF Tryz.func5 (nd (nd (nd (nd (nd (.node (.draw (sts [0,1,2,3,4,5] (.ac 6 [0] (.ac 7 [] (sts [8,9,11] (.ac 10 [11] (.ac 12 [] (.ac 13 [] (sts [14,15] .fin) .non) .non) .non)) .non) .non))) .nil)))))) h (by kernel_rfl) (by kernel_rfl)
def F8(w:World)(R:RV):Prop:=AllocP w (Obj.cells #[Qz 0,Qz 0] 64) fun b1 w2=>#[Qz (-1:Int),Qz 5].size=2/\StoreP w2 b1 0 [Qz (-1:Int),Qz 5] fun w3=>∃(x4:Int×Int),CellsAt w3 b1 0 [Qz x4.1,Qz x4.2]/\∃(x5:Int×Int),CellsAt w3 b1 0 [Qz x5.1,Qz x5.2]/\2*9<=16777216/\AllocP w3 (Obj.cells #[Qz 2,Qz 0,Qz 0,Qz 0,Qz x4.1,Qz x4.2,Qz 0,Qz 0,Qz 0,Qz 1,Qz 1,Qz 0,Qz 0,Qz x5.1,Qz x5.2,Qz 0,Qz 0,Qz 0] 66) fun b6 w7=>AllocP w7 (Obj.cells #[Value.slice none 0 0] 69) fun b8 w9=>Cx 14 #[Value.agg #[Value.slice (some ⟨b6,0,none⟩) 2 2,Value.slice none 0 0],Value.slice none 0 0,Value.agg #[Qz 7,Qz 0,Qz 0,Qz 0],Value.pointer (some ⟨b8,0,none⟩),Value.bool false] w9 fun v10 w11=>∃(x12:Int×Int×Int×Int×Int×Int×Sl×Sl×Sl),v10=Value.agg (lC27 x12).toArray/\AllocP w11 (Obj.cells #[Qz 0,Qz 0,Qz 0,Qz 0,Qz 0,Qz 0,Value.slice none 0 0,Value.slice none 0 0,Value.slice none 0 0] 27) fun b13 w14=>(lC27 x12).toArray.size=9/\StoreP w14 b13 0 (lC27 x12) fun w15=>1*2<=16777216/\AllocP w15 (Obj.cells #[Qz 5,Qz 5] 71) fun b16 w17=>∃(x18:Int×Int×Int×Int×Int×Int×Sl×Sl×Sl),CellsAt w17 b13 0 (lC27 x18)/\1*3<=16777216/\AllocP w17 (Obj.cells #[Qz 5,Value.bool false,Qz 7] 47) fun b19 w20=>Qv' 18 #[Value.agg (lC27 x18).toArray,Value.agg #[Qz 0,Qz 0,Qz 7,Qz 7,Qz 0,Qz 0,Value.slice (some ⟨b16,0,none⟩) 1 1,Value.slice (some ⟨b16,0,none⟩) 1 1,Value.slice (some ⟨b19,0,none⟩) 1 1]] w20 fun t23 w22=>R (Value.bool t23) w22
theorem F8_ok(w:World)(R:RV)(h:F8 w R):Cw 8 #[] w R:=
 call_of tbOk mixed en8 Tryz.func8 rfl .nil (by kernel_rfl) (Nat.le_of_ble_eq_true (by kernel_rfl)) (Eq.mp (α:=F8 w R) (by kernel_rfl) h)
theorem F12_ok(t0:Sl×Sl)(t1:Sl)(t2:Sl)(w:World)(R:RV)(h:AllocP w (Obj.cells #[Qy t0.fst,Qy t0.snd] 36) fun b1 w2=>Qs w2 b1 (0+0) fun s3=>IfB (decide (20<(s3.n:Int))) (R (Value.bool true) w2) (Qs w2 b1 (0+1) fun s4=>IfB (decide (20<(s4.n:Int))) (R (Value.bool true) w2) (IfB (decide (10<(t1.n:Int))) (R (Value.bool true) w2) (R (Value.bool (decide (100<(t2.n:Int)))) w2)))):Cw 12 #[Value.agg #[Qy t0.fst,Qy t0.snd],Qy t1,Qy t2] w R:=
 ckF Tryz.func12 .nil h (by kernel_rfl) (by kernel_rfl)
abbrev tySpn:Ty:=.pair tyI tyI
abbrev tyRg:Ty:=.arr 4 tyI
theorem arr_eq{cs:Array Value}{l:List Value}(h:cs.toList=l):cs=l.toArray:=by rw[<-h]
section
variable {A:Nat->Prop} {w:World}
theorem rep_all{e:Ty}{f:e.den->List Value}{Q:e.den->Prop}{l:List e.den}{cs:List Value}(hz:0<e.sz)(h:rep A w (.sl e) l cs)(hp:∀x c,rep A w e x c->c=f x/\Q x):
  ∃s:Sl,cs=[slV s]/\Rd w s e.sz (l.flatMap f)/\s.n=l.length/\(∀x∈l,Q x)/\(0<s.n->∀i∈blk s,i<w.heap.size):=by
 obtain⟨s,rfl,h2,h3,h4,h5⟩:=rep_plain (f:=f) h fun x _ c hc=>(hp x c hc).1
 refine⟨s,rfl,h2,h3,fun x hx=>?_,fun h0=>rep_blk_lt h hz h0⟩
 obtain⟨t,ht,_,_,_,_,css,h6,h7,h8⟩:=h
 obtain⟨i,hi,rfl⟩:=List.getElem_of_mem hx
 exact(hp _ _ (h7 i _ _ (List.getElem?_eq_getElem (by omega)) (List.getElem?_eq_getElem hi))).2
theorem i64_of{n:Int}(h:IntKind.i64.min<=n/\n<=IntKind.i64.max):I64 n:=⟨h.1,h.2⟩
theorem rep_pr{x:Pr}{cs:List Value}(h:rep A w tySpn x cs):cs=prV x/\I64 x.2:=by
 obtain⟨c,d,rfl,⟨rfl,_⟩,rfl,h⟩:=h;exact⟨rfl,i64_of h⟩
theorem rep_insI{x:InsD}{cs:List Value}(h:rep A w tyIns x cs):cs=insC x/\I64 x.X:=by
 refine⟨rep_ins h,?_⟩
 obtain⟨_,_,_,_,_,_,_,_,_,_,_,_,_,_,_,_,_,_,_,_,_,_,_,_,_,h⟩:=h
 exact i64_of h
theorem rep_rg{x:tyRg.den}{cs:List Value}(h:rep A w tyRg x cs):∃r:Rg,cs=rgL r/\RgOk r:=by
 obtain⟨h4,css,hl,hr,rfl⟩:=h
 have get:∀i(hi:i<x.length),∃n:Int,css[i]? =some [iv n]/\I64 n:=fun i hi=>by
  have hc:=List.getElem?_eq_getElem (show i<css.length by omega)
  obtain⟨e,h⟩:=hr i _ _ hc (List.getElem?_eq_getElem hi)
  exact⟨x[i],by rw[hc,e],i64_of h⟩
 obtain⟨a,ha,ia⟩:=get 0 (by omega)
 obtain⟨b,hb,ib⟩:=get 1 (by omega)
 obtain⟨c,hc,ic⟩:=get 2 (by omega)
 obtain⟨d,hd,id⟩:=get 3 (by omega)
 refine⟨(a,b,c,d),?_,ia,ib,ic,id⟩
 have e:css=[[iv a],[iv b],[iv c],[iv d]]:=by
  match css,hl.trans h4,ha,hb,hc,hd with
  | [q0,q1,q2,q3],_,ha,hb,hc,hd=>simp at ha hb hc hd;rw[ha,hb,hc,hd]
 rw[e];rfl
end
theorem stScan{A:Nat->Prop}{w:World}{b:Nat}{P:List (List Pr)}(hS:StA A w b P)(hI:Inv P):
  Cw 22 #[.pointer (some ⟨b,0,none⟩),iv 0,iv 999] w fun v w'=>∃t,v=slV t/\OwS w' t 2 (prs (pairsL (stP P) 1000))/\Ext w w'/\∀j∈blk t,w.heap.size<=j:=by
 obtain⟨s,ps,hS,hP,_⟩:=hS
 have hl:ps.length<=1000000:=by have:=hI.plen;rw[<-hP,List.length_map] at this;omega
 have h:=c22 (w:=w) (src:=some (b,s,ps)) ⟨hS,hl⟩ (by rw[show Src.fl (some (b,s,ps))=flatS ps from rfl,flatS_eq hP];exact hI.flen) 0 999
 rw[show Src.fl (some (b,s,ps))=flatS ps from rfl,flatS_eq hP,scanS_all (fun y hy=>(hI.rng y hy).2),List.filter_eq_self.2 (fun x hx=>decide_eq_true (hI.rng x hx).1)] at h
 have e:P.flatten=pairsL (stP P) 1000:=srt_ext hI.sorted (pairsL_srt _ _) fun x=>by
  rw[mem_pairsL,stP_iff hI]
  exact⟨fun hx=>⟨by have:=hI.rng x hx;omega,hx⟩,fun hx=>hx.2⟩
 rw[<-e]
 exact h
theorem scanPairs{A:Nat->Prop}{w:World}{bS bM:Nat}{P:List (List Pr)}{bs:List Bool}{vs:List Int}(hS:StA A w bS P)(hI:Inv P)(hM:MapR w bM bs vs)(he:stP P=stR bs vs){R:RV}(hR:∀w',Ext w w'->R (.bool true) w'):
  Cx 22 #[.pointer (some ⟨bS,0,none⟩),iv 0,iv 999] w fun v w36=>∃s37:Sl,v=slV s37/\Cx 23 #[.pointer (some ⟨bM,0,none⟩)] w36 fun v38 w39=>∃s40:Sl,v38=slV s40/\Cx 21 #[slV s37,slV s40] w39 fun v41 w42=>∃t:Bool,v41=.bool t/\R (.bool t) w42:=by
 refine(stScan hS hI).use ?_
 rintro _ w36 ⟨t,rfl,ho,e1,_⟩
 refine⟨t,rfl,(c23 (hM.ext e1)).use ?_⟩
 rintro _ w39 ⟨u,rfl,hu,e2,_⟩
 refine⟨u,rfl,(c21 (ho.ext e2).rd hu.rd (by have:=pairsL_len (stP P) 1000;omega)).use ?_⟩
 rintro _ w42 ⟨rfl,e3⟩
 rw[he]
 exact⟨_,rfl,by rw[decide_eq_true rfl];exact hR _ ((e1.trans e2).trans e3)⟩
abbrev keyA:KeyD:=(-1,5)
abbrev codeA:List InsD:=[(2,0,0,0,keyA,(0,0),0),(1,1,0,0,keyA,(0,0),0)]
theorem codeA_ok:RightP codeA [] []:=by
 refine⟨⟨by decide,by simp⟩,.inr ⟨by decide,by decide,by decide,by decide,fun x hx=>?_⟩,by decide,by decide,by decide,by simp⟩
 simp at hx
 rcases hx with rfl|rfl<;>constructor<;>simp[KeyOk]
theorem aliveOut{mr mw:Int->Prop}(hr:∀k,mr k)(hw:∀k,mw k){o:OutD}(h:IsOut (RightP codeA [] []) (stP []) mr mw [] codeA (7,0,0,0) o):o=⟨0,0,(7,7,0,0),[(5,5)],[(5,5)],[(5,false,7)]⟩:=by
 have h1:=h.2 codeA_ok
 have kA:keyAt keyA []=5:=rfl
 have s1:stepI (stP []) mr mw [] (2,0,0,0,keyA,(0,0),0) (ps0 (7,0,0,0))=.inr ⟨(7,0,0,0),fun _=>False,fun j=>False\/j=5,fun j=>if j=5 then some (false,7) else none⟩:=by
  unfold stepI
  rw[if_neg (by decide),if_pos rfl,show keyAt (InsD.K (2,0,0,0,keyA,(0,0),0)) []=5 from rfl,if_pos (bq_iff.2 (hw 5))]
  rfl
 have s2:stepI (stP []) mr mw [] (1,1,0,0,keyA,(0,0),0) ⟨(7,0,0,0),fun _=>False,fun j=>False\/j=5,fun j=>if j=5 then some (false,7) else none⟩=.inr ⟨(7,7,0,0),fun j=>False\/j=5,fun j=>False\/j=5,fun j=>if j=5 then some (false,7) else none⟩:=by
  unfold stepI
  rw[if_pos rfl,show keyAt (InsD.K (1,1,0,0,keyA,(0,0),0)) []=5 from rfl,if_pos (bq_iff.2 (hr 5))]
  rfl
 simp only[runI,s1,s2] at h1
 refine h1.uniq ⟨rfl,rfl,rfl,⟨by simp,by simp[mayS]⟩,fun k=>?_,⟨by simp,by simp[mayS]⟩,fun k=>?_,by simp,fun c=>?_⟩
 ·simp[hasS,mayS];omega
 ·simp[hasS,mayS];omega
 ·obtain⟨k,g,v⟩:=c
  dsimp only
  by_cases e:k=5
  ·subst e;simp[eq_comm]
  ·simp[e]
theorem c8(w:World):Cw 8 #[] w fun v w'=>v=.bool true/\Ext w w':=by
 refine F8_ok w _ fun b1 w2 a2=>⟨rfl,store_all a2.new rfl (by intro v hv;simp at hv;rcases hv with rfl|rfl<;>rfl) fun w3 h3=>?_⟩
 have e3:Ext w w3:=Ext.fresh a2 h3
 refine⟨keyA,boxAll h3.new (Ch.refl _ _),keyA,boxAll h3.new (Ch.refl _ _),by decide,fun b6 w7 a7 b8 w9 a9=>?_⟩
 have x9:Ext w7 w9:=a9.ch _
 have E9:Ext w w9:=(e3.trans (a7.ch _)).trans x9
 have hcode:Rd w9 ⟨some ⟨b6,0,none⟩,2,2⟩ 9 (codeA.flatMap insC):=((OwS.new (cs:=codeA.flatMap insC) (n:=2) (sz:=9) a7 rfl).ext x9).rd
 have hS:StA (fun i=>i<w9.heap.size) w9 b8 []:=by
  refine⟨⟨none,0,0⟩,[],⟨⟨_,a9.new⟩,.nil _ _,by simp,by simp,by simp,by simp[blk]⟩,rfl,?_⟩
  have p9:=a9.here;have z9:=a9.size
  rintro j (rfl|h|⟨x,hx,h⟩)
  ·omega
  ·simp[blk] at h
  ·simp at hx
 refine(c14 (foot:=[]) (args:=[]) (r:=(7,0,0,0)) (tf:=⟨none,0,0⟩) (ta:=⟨none,0,0⟩) hcode (OwS.nil _ _).rd (OwS.nil _ _).rd hS Inv.nil (fun k v h=>by rw[stP_nil] at h;cases h) ⟨⟨by decide,by decide⟩,⟨by decide,by decide⟩,⟨by decide,by decide⟩,⟨by decide,by decide⟩⟩ (fun x hx=>by simp at hx;rcases hx with rfl|rfl<;>exact⟨by decide,by decide⟩)).use ?_
 rintro _ w11 ⟨tr,tw,th,o,rfl,ho,hO,e11⟩
 have ho:=aliveOut (fun _=>.inl rfl) (fun _=>.inl rfl) ho
 subst ho
 refine⟨_,rfl,fun b13 w14 a14=>⟨rfl,store_all a14.new rfl (outL_one _ tr tw th) fun w15 h15=>⟨by decide,fun b16 w17 a17=>?_⟩⟩⟩
 have e15:Ext w11 w15:=Ext.fresh a14 h15
 have e17:Ext w15 w17:=a17.ch _
 refine⟨_,boxAll h15.new e17,by decide,fun b19 w20 a20=>?_⟩
 have e20:Ext w17 w20:=a20.ch _
 have E20:Ext w11 w20:=(e15.trans e17).trans e20
 have h5:OwS w20 ⟨some ⟨b16,0,none⟩,1,1⟩ 2 ([((5:Int),(5:Int))].flatMap sv):=(OwS.new (cs:=[((5:Int),(5:Int))].flatMap sv) (n:=1) (sz:=2) a17 rfl).ext e20
 have h7:OwS w20 ⟨some ⟨b19,0,none⟩,1,1⟩ 3 ([((5:Int),false,(7:Int))].flatMap chL):=OwS.new (cs:=[((5:Int),false,(7:Int))].flatMap chL) (n:=1) (sz:=3) a20 rfl
 refine(c18 (m:=0) (p:=⟨0,0,(7,7,0,0),[(5,5)],[(5,5)],[(5,false,7)]⟩) (hO.ext E20) ⟨h5,h5,h7,fun _ _=>Nat.zero_le _,fun _ _=>Nat.zero_le _,fun _ _=>Nat.zero_le _⟩ (by decide) (by decide) (by decide) rfl).use ?_
 rintro _ w22 ⟨rfl,e22⟩
 exact⟨true,rfl,rfl,((E9.trans e11).trans E20).trans e22⟩
theorem c12(tc tf ta tl:Sl)(w:World):Cw 12 #[.agg #[slV tc,slV tf],slV ta,slV tl] w fun v w'=>∃r,v=.bool r/\(r=false->tc.n<=20/\tf.n<=20/\ta.n<=10/\tl.n<=100)/\Ext w w':=by
 refine F12_ok (tc,tf) ta tl w _ fun b1 w2 a2=>?_
 have e2:Ext w w2:=a2.ch _
 have h1:w2.heap[b1]? =some (.cells [slV tc,slV tf].toArray _ (0,0)):=a2.new
 have no:∃r,Value.bool true=.bool r/\(r=false->tc.n<=20/\tf.n<=20/\ta.n<=10/\tl.n<=100)/\Ext w w2:=⟨true,rfl,fun h=>(by cases h),e2⟩
 refine⟨tc,boxAt h1 0 (Ch.refl _ _),IfB.dec (fun _=>no) fun h1'=>⟨tf,boxAt h1 1 (Ch.refl _ _),IfB.dec (fun _=>no) fun h2=>IfB.dec (fun _=>no) fun h3=>⟨_,rfl,fun h4=>?_,e2⟩⟩⟩
 have h4:=of_decide_eq_false h4
 omega
section
variable {st st':Int->Option Int} {mr mw:Int->Prop} {args:List Int}
theorem runI_ok(hst:∀k v,st k=some v->I64 v)(ha:ArgsOk args):∀(l:List InsD)(i:Nat)(s s':PS),(∀x∈l,InsOk x args.length/\I64 x.X)->PsOk s->runI st mr mw args l i s=.inr s'->PsOk s'
 | [],i,s,s',_,h,e=>by cases e;exact h
 | x::l,i,s,s',hl,h,e=>by
  rw[runI] at e
  cases hs:stepI st mr mw args x s with
  | inl n=>rw[hs] at e;cases e
  | inr t=>
   rw[hs] at e
   have hx:=hl x (List.mem_cons_self ..)
   exact runI_ok hst ha l (i+1) t s' (fun y hy=>hl y (List.mem_cons_of_mem _ hy)) (stepI_ok h hst hx.1 hx.2 ha hs) e
theorem stepI_err{x:InsD}{s:PS}{e:Int}(h:stepI st mr mw args x s=.inl e):e≠0:=by
 unfold stepI at h
 intro h0
 subst h0
 repeat' split at h
 all_goals (first|cases h|(injection h with h;omega))
theorem runI_err:∀(l:List InsD)(i:Nat)(s:PS){e:Int×Nat},runI st mr mw args l i s=.inl e->e.1≠0
 | [],i,s,e,h=>by cases h
 | x::l,i,s,e,h=>by
  rw[runI] at h
  cases hs:stepI st mr mw args x s with
  | inl n=>rw[hs] at h;cases h;exact stepI_err hs
  | inr t=>rw[hs] at h;exact runI_err l _ t h
end
section
variable {st st':Int->Option Int} {mr mw:Int->Prop} {args:List Int} {code:List InsD} {foot:List SpTD} {r:Rg} {o:OutD}
theorem IsOut.both(h:IsOut (RightP code foot args) st mr mw args code r o)(hst:∀k v,st k=some v->I64 v)(hX:∀x∈code,I64 x.X)(hr:RgOk r):
  (o.code≠0/\o.r=r/\o.rds=[]/\o.wrs=[]/\o.chs=[])\/(RightP code foot args/\∃s,runI st mr mw args code 0 (ps0 r)=.inr s/\Done s o/\PsOk s):=by
 by_cases hok:RightP code foot args
 ·have h1:=h.2 hok
  cases hrun:runI st mr mw args code 0 (ps0 r) with
  | inl e=>
   rw[hrun] at h1
   dsimp only at h1
   subst h1
   exact .inl ⟨runI_err _ _ _ hrun,rfl,rfl,rfl,rfl⟩
  | inr s=>
   rw[hrun] at h1
   refine .inr ⟨hok,s,rfl,h1,runI_ok hst hok.1 code 0 _ s (fun x hx=>⟨?_,hX x hx⟩) (ps0_ok hr) hrun⟩
   rcases hok.2.1 with e|e
   ·subst e;cases hx
   ·exact e.all x hx
 ·have h1:=h.1 hok
  subst h1
  exact .inl ⟨show (1:Int)≠0 by decide,rfl,rfl,rfl,rfl⟩
theorem IsOut.lens(h:IsOut (RightP code foot args) st mr mw args code r o)(hst:∀k v,st k=some v->I64 v)(hX:∀x∈code,I64 x.X)(hr:RgOk r):o.rds.length<=1000/\o.wrs.length<=1000/\o.chs.length<=1000:=by
 rcases h.both hst hX hr with ⟨_,_,e1,e2,e3⟩|⟨_,s,_,hd,hk⟩
 ·rw[e1,e2,e3];exact⟨by decide,by decide,by decide⟩
 ·refine⟨normS_len hd.nr,normS_len hd.nw,?_⟩
  have:=srtI_len hd.srt fun x hx=>by
   obtain⟨c,hc,rfl⟩:=List.mem_map.1 hx
   exact hk.wk _ ((hk.wr _).2 (by rw[(hd.mem c).1 hc];simp))
  rwa [List.length_map] at this
end
theorem rep_step{A:Nat->Prop}{w:World}{x:tyStp.den}{cs:List Value}(h:rep A w tyStp x cs):∃(tc tf:Sl),cs=[slV tc,slV tf]/\Rd w tc 9 (x.1.flatMap insC)/\Rd w tf 5 (x.2.flatMap spTC)/\∀i:InsD,i∈x.1->I64 i.X:=by
 obtain⟨c,d,rfl,h1,h2⟩:=h
 obtain⟨tc,rfl,r1,_,q,_⟩:=rep_all (e:=tyIns) (f:=insC) (by decide) h1 fun _ _=>rep_insI
 obtain⟨tf,rfl,r2,_⟩:=rep_all (e:=tySpT) (f:=spTC) (by decide) h2 fun _ _ h=>⟨rep_spT h,trivial⟩
 exact⟨tc,tf,rfl,r1,r2,q⟩
theorem ofL_i64:∀(l:List Pr){st:Int->Option Int},(∀x∈l,I64 x.2)->(∀k v,st k=some v->I64 v)->∀k v,ofL st l k=some v->I64 v
 | [],_,_,h=>h
 | x::l,st,hl,h=>ofL_i64 l (fun y hy=>hl y (List.mem_cons_of_mem _ hy)) fun k v hv=>by
  split at hv
  ·unfold updM at hv
   split at hv
   ·cases hv;exact hl x (List.mem_cons_self ..)
   ·exact h k v hv
  ·exact h k v hv
theorem stepRuns(w:World){x:tyStp.den}{cs:Array Value}(h0:rep (fun _=>True) w tyStp x cs.toList){l:List (Ty.int .i64).den}{c1:Value}(h1:rep (fun _=>True) w (.sl (.int .i64)) l [c1])
  {xr:tyRg.den}{cr:Array Value}(h2:rep (fun _=>True) w tyRg xr cr.toList){lp:List tySpn.den}{c3:Value}(h3:rep (fun _=>True) w (.sl tySpn) lp [c3]){ak:Ty.bool.den}{c4:Value}(h4:rep (fun _=>True) w .bool ak [c4]):
  Cw 5 #[.agg cs,c1,.agg cr,c3,c4] w fun v w'=>v=.bool true/\Ext w w':=by
 obtain⟨tc,tf,e0,hc,hf,hX⟩:=rep_step h0
 obtain⟨ta,e1,ha,_⟩:=rep_ints h1
 obtain⟨r,e2,hr⟩:=rep_rg h2
 obtain⟨tl,e3,hl,n3,hv,_⟩:=rep_all (e:=tySpn) (f:=prV) (by decide) h3 fun _ _=>rep_pr
 have e4:[c4]=[.bool ak]:=h4
 simp only[List.cons.injEq,and_true] at e1 e3 e4
 rw[arr_eq e0,arr_eq e2];subst e1;subst e3;subst e4
 have hn:=rdI ha
 refine F5_ok (tc,tf) ta r tl ak w _ fun b1 w2 a2 b3 w4 a4=>(c8 w4).use ?_
 rintro _ w6 ⟨rfl,e6⟩
 have x2:Ext w2 w6:=(a4.ch _:Ext w2 w4).trans e6
 have E6:Ext w w6:=(a2.ch _:Ext w w2).trans x2
 have k1:w6.heap[b1]? =some (.cells [slV tc,slV tf].toArray _ (0,0)):=x2.at a2.new
 have k3:w6.heap[b3]? =some (.cells (rgL r).toArray _ (0,0)):=e6.at a4.new
 refine⟨true,rfl,IfB.no rfl ⟨(tc,tf),boxAll k1 (Ch.refl _ _),(c12 tc tf ta tl w6).use ?_⟩⟩
 rintro _ w10 ⟨g,rfl,hg,e10⟩
 have E10:=E6.trans e10
 refine⟨g,rfl,IfB.intro (fun _=>⟨rfl,E10⟩) fun hg0=>?_⟩
 obtain⟨g1,g2,g3,g4⟩:=hg hg0
 unfold F5k1
 refine(c13 (xs:=lp) (hl.ext E10) (by omega)).use ?_
 rintro _ w13 ⟨bS,rfl,hS,e13⟩
 have hI:Inv (putL [] lp):=putL_inv Inv.nil
 have E13:=E10.trans e13
 refine⟨_,rfl,(c19 (l:=lp) (hl.ext E13) (by omega)).use ?_⟩
 rintro _ w16 ⟨bM,bs,vs,rfl,hM,hst,kM,e16⟩
 have E16:=E13.trans e16
 have D16:Ext w6 w16:=(e10.trans e13).trans e16
 have hS16:StA (fun i=>i<w16.heap.size) w16 bS (putL [] lp):=(hS.mono (B:=fun i=>i<w16.heap.size) fun i hi h=>Nat.lt_of_lt_of_le hi e16.size).ext e16
 have est:stP (putL [] lp)=stR bs vs:=by rw[stP_of _ _ Inv.nil,hst,stP_nil]
 have hval:∀k v,stR bs vs k=some v->I64 v:=by rw[hst];exact ofL_i64 lp hv fun k v h=>(by cases h)
 refine⟨_,rfl,(tc,tf),boxAll k1 D16,r,boxAll k3 D16,(c14 (hc.ext E16) (hf.ext E16) (ha.ext E16) hS16 hI (by rw[est];exact hval) hr hX).use ?_⟩
 rintro _ w21 ⟨tr,tw,th,o,rfl,ho,hO,e21⟩
 have D21:=D16.trans e21
 refine⟨outX o tr tw th,rfl,fun b23 w24 a24=>⟨rfl,store_all a24.new rfl (outL_one _ tr tw th) fun w25 h25=>?_⟩⟩
 have e25:Ext w21 w25:=Ext.fresh a24 h25
 have e25d:Ext w21 w25.drew:=e25.trans (extDrew _)
 have D25:=D21.trans e25d
 have E25:=E6.trans D25
 have m25:MapR w25.drew bM bs vs:=hM.ext (e21.trans e25d)
 refine⟨outX o tr tw th,boxAll h25.new (extDrew _),(tc,tf),boxAll k1 D25,r,boxAll k3 D25,(c20 (hc.ext E25) (hf.ext E25) (ha.ext E25) (by omega) m25 hval hr hX).use ?_⟩
 rintro _ w30 ⟨ur,uw,uh,p,rfl,hp,hP,e30⟩
 rw[est] at ho
 have hop:o=p:=ho.uniq hp
 have hlen:=ho.lens hval hX hr
 refine⟨outX p ur uw uh,rfl,boxAll h25.new ((extDrew _).trans e30),(c18 (hO.ext (e25d.trans e30)) hP (by omega) (by omega) (by omega) hop).use ?_⟩
 rintro _ w33 ⟨rfl,e33⟩
 have D33:=(e25d.trans e30).trans e33
 refine⟨true,rfl,IfB.yes rfl (scanPairs (R:=fun v w'=>v=.bool true/\Ext w w') (hS16.ext (e21.trans D33)) hI (m25.ext (e30.trans e33)) est fun w' e=>⟨rfl,((E25.trans e30).trans e33).trans e⟩)⟩
end Go.Proofs.YtoahfpabpdjkkaaGreat.Gx
namespace Go.Proofs.YtoahfpabpdjkkaaGreat.stepRuns
open Go.ChangeShapes Go.WideShapes Go.ChangeAt Go.RowKit
open Go.ChangeMaps (open_string shut_string)
set_option linter.unusedVariables false
theorem own:ownKnob Tryz.prog.godebug=none:=by kernel_rfl
set_option maxRecDepth 100000 in
theorem lifted(os:Os)(started:os.Started)(H:Type)(enc:TypeId×Value->H):
  ReturnsInHanded {} Tryz.checked os 5 .any (Rows.stepRunsSpec.pre6 enc Tryz.prog Tryz.f5 Rows.stepRunsRow.domain false) (Rows.stepRunsSpec.post enc Tryz.prog Tryz.f5 false true false false):=by
 refine returnsInHanded_of_change (C:=Tryz.checked) own started (by kernel_rfl) Tryz.func5
  (ChangeSpec.witness6 (enc:=enc) (C:=Tryz.checked) false ⟨#[],#[.agg #[.slice none 0 0,.slice none 0 0],.slice none 0 0,.agg #[.int .i64 0,.int .i64 0,.int .i64 0,.int .i64 0],.slice none 0 0,.bool false],[]⟩ 8 (by kernel_rfl) (by kernel_rfl) (by kernel_rfl) (by kernel_rfl)) ?_
 intro W base args ds gs before hval0 hW hcnd _
 have hval:∀(j:Nat) t v,Tryz.f5.params[j]? =some t->args[j]? =some v->Value.okWide Tryz.prog W .any base t v:=hval0
 have hW':=hW
 have hlt:=hW.lt
 obtain⟨p,q,hA0,hV,rfl,hfz,hnd⟩:=hW
 have hA:DataW.TrodAll enc Tryz.prog W 0 (fun _=>true) true Tryz.f5.params.toList args.toList ds p:=hA0
 have hpar:Tryz.f5.params=#[36,37,23,38,4]:=rfl
 rw[hpar] at hA hval
 obtain⟨v0,vs0,d0,ds0,p0,q0,hargs,rfl,rfl,h0,r0⟩:=trodAll_cons hA
 obtain⟨v1,vs1,d1,ds1,p1,q1,rfl,rfl,rfl,h1,r1⟩:=trodAll_cons r0
 obtain⟨v2,vs2,d2,ds2,p2,q2,rfl,rfl,rfl,h2,r2⟩:=trodAll_cons r1
 obtain⟨v3,vs3,d3,ds3,p3,q3,rfl,rfl,rfl,h3,r3⟩:=trodAll_cons r2
 obtain⟨v4,vs4,d4,ds4,p4,q4,rfl,rfl,rfl,h4,r4⟩:=trodAll_cons r3
 obtain⟨rfl,rfl,rfl⟩:=trodAll_nil r4
 obtain rfl:args=#[v0,v1,v2,v3,v4]:=by cases args;simp_all
 obtain⟨rfl,rfl⟩:=trodVars_none hV
 clear hA0 hval0
 obtain⟨x0,e0⟩:=Gx.open_arg (d:=12) (ty:=(.pair (.sl (.pair (.int .i64) (.pair (.int .i64) (.pair (.int .i64) (.pair (.int .i64) (.pair (.pair (.int .i64) (.int .i64)) (.pair (.pair (.int .i64) (.int .i64)) (.int .i64)))))))) (.sl (.pair (.pair (.int .i64) (.int .i64)) (.pair (.pair (.int .i64) (.int .i64)) .bool))))) (by kernel_rfl) h0
 have f0:v0=.agg v0.cells:=Gx.val_agg (hval 0 36 v0 rfl rfl) (.inl ⟨_,Tryz.underlying36⟩)
 obtain⟨x1,e1⟩:=Gx.open_arg (d:=12) (ty:=(.sl (.int .i64))) (by kernel_rfl) h1
 obtain⟨c1,g1⟩:∃c,v1.cells.toList=[c]:=List.length_eq_one_iff.1 (Gx.rep_len e1)
 have f1:v1=c1:=Gx.val_of_cells (hval 1 37 v1 rfl rfl) (fun fs n e=>by rw[Tryz.underlying37];exact⟨by simp,by simp⟩) g1
 rw[g1] at e1
 obtain⟨x2,e2⟩:=Gx.open_arg (d:=12) (ty:=(.arr 4 (.int .i64))) (by kernel_rfl) h2
 have f2:v2=.agg v2.cells:=Gx.val_agg (hval 2 23 v2 rfl rfl) (.inr ⟨_,_,Tryz.underlying23⟩)
 obtain⟨x3,e3⟩:=Gx.open_arg (d:=12) (ty:=(.sl (.pair (.int .i64) (.int .i64)))) (by kernel_rfl) h3
 obtain⟨c3,g3⟩:∃c,v3.cells.toList=[c]:=List.length_eq_one_iff.1 (Gx.rep_len e3)
 have f3:v3=c3:=Gx.val_of_cells (hval 3 38 v3 rfl rfl) (fun fs n e=>by rw[Tryz.underlying38];exact⟨by simp,by simp⟩) g3
 rw[g3] at e3
 obtain⟨x4,e4⟩:=Gx.open_arg (d:=12) (ty:=.bool) (by kernel_rfl) h4
 obtain⟨c4,g4⟩:∃c,v4.cells.toList=[c]:=List.length_eq_one_iff.1 (Gx.rep_len e4)
 have f4:v4=c4:=Gx.val_of_cells (hval 4 4 v4 rfl rfl) (fun fs n e=>by rw[Tryz.underlying4];exact⟨by simp,by simp⟩) g4
 rw[g4] at e4
 have call:Calls Tryz.prog 5 #[v0,v1,v2,v3,v4] W fun e w'=>e=.returned (.bool true)/\Below W.heap.size W w':=by
  rw[f0,f1,f2,f3,f4]
  refine(Gx.stepRuns W e0 e1 e2 e3 e4).calls.mono ?_
  rintro e w' ⟨v,rfl,rfl,hx⟩
  exact⟨rfl,hx.below⟩
 refine call.mono fun e W' ⟨he,hg⟩=>?_
 subst he
 have b4:∀sp:Nat->Bool,(∀x∈p4,sp x.block=true)->DataW.Trod enc Tryz.prog W' 0 sp true 4 v4 d4 p4:=fun sp hsp=>Gx.trod_keep (by kernel_rfl) (by kernel_rfl) (by decide+kernel) h4 hg (fun x hx=>hlt x (by simp[hx])) hsp
 have b3:∀sp:Nat->Bool,(∀x∈p3,sp x.block=true)->DataW.Trod enc Tryz.prog W' 0 sp true 38 v3 d3 p3:=fun sp hsp=>Gx.trod_keep (by kernel_rfl) (by kernel_rfl) (by decide+kernel) h3 hg (fun x hx=>hlt x (by simp[hx])) hsp
 have b2:∀sp:Nat->Bool,(∀x∈p2,sp x.block=true)->DataW.Trod enc Tryz.prog W' 0 sp true 23 v2 d2 p2:=fun sp hsp=>Gx.trod_keep (by kernel_rfl) (by kernel_rfl) (by decide+kernel) h2 hg (fun x hx=>hlt x (by simp[hx])) hsp
 have b1:∀sp:Nat->Bool,(∀x∈p1,sp x.block=true)->DataW.Trod enc Tryz.prog W' 0 sp true 37 v1 d1 p1:=fun sp hsp=>Gx.trod_keep (by kernel_rfl) (by kernel_rfl) (by decide+kernel) h1 hg (fun x hx=>hlt x (by simp[hx])) hsp
 have b0:∀sp:Nat->Bool,(∀x∈p0,sp x.block=true)->DataW.Trod enc Tryz.prog W' 0 sp true 36 v0 d0 p0:=fun sp hsp=>Gx.trod_keep (by kernel_rfl) (by kernel_rfl) (by decide+kernel) h0 hg (fun x hx=>hlt x (by simp[hx])) hsp
 exact⟨_,rfl,Gx.post_of_below (pa:=(p0++(p1++(p2++(p3++(p4++[])))))) (pv:=[]) hW' hg (fun _ _ _=>(trodAll_cons_mk (shut_bool Tryz.underlying4 _) trodAll_mk0)) (fun sp hsp=>by rw[hpar];exact(trodAll_cons_mk (b0 sp fun x hx=>hsp x (by simp[hx])) (trodAll_cons_mk (b1 sp fun x hx=>hsp x (by simp[hx])) (trodAll_cons_mk (b2 sp fun x hx=>hsp x (by simp[hx])) (trodAll_cons_mk (b3 sp fun x hx=>hsp x (by simp[hx])) (trodAll_cons_mk (b4 sp fun x hx=>hsp x (by simp[hx])) trodAll_mk0)))))) (fun _ _=>rfl) (by simp)
  (ok_one (by kernel_rfl) rfl (okWide_bool_mk Tryz.underlying4 _))⟩
set_option maxRecDepth 100000
theorem ft1:(laidOutB Tryz.checked.prog&&mapsRowed Tryz.checked.prog)=true:=by kernel_rfl
theorem ft2:(Rows.stepRunsRow.inPlace == Tryz.checked.prog.inPlace 5)=true:=by kernel_rfl
theorem ft3:(Rows.stepRunsRow.unfollowed == Tryz.checked.prog.unfollowed 5)=true:=by kernel_rfl
theorem ft4:(Rows.stepRunsRow.named == Tryz.checked.prog.varsNamed 5)=true:=by kernel_rfl
theorem ft6:((Tryz.checked.prog.stops == [])&&(Tryz.checked.prog.stopKnobs == []))=true:=by kernel_rfl
theorem ft7:(Rows.stepRunsRow.plainKeys == Tryz.checked.prog.plainKeys)=true:=by kernel_rfl
theorem ft8:Tryz.checked.prog.stopsHeard=true:=by kernel_rfl
theorem ft9:(Tryz.checked.prog.mayEnter&&((Rows.stepRunsRow.lifted == Tryz.checked.prog.liftsFinal)&&(Tryz.checked.prog.make == some Rows.stepRunsRow.make)))=true:=by kernel_rfl
theorem ft5:(Rows.stepRunsRow.recurses == Tryz.checked.prog.recurses 5)=true:=by
 have h:Tryz.checked.prog.unfollowed 5=true:=by have:=ft3;rw[beq_iff_eq] at this;exact this.symm
 unfold Program.recurses;rw[h];rfl
theorem facts:joinedFacts Tryz.checked.prog 5 Tryz.f5 Rows.stepRunsSpec Rows.stepRunsRow=true:=by
 obtain⟨h1,h2⟩:=Bool.and_eq_true_iff.1 ft1
 obtain⟨h3,h4⟩:=Bool.and_eq_true_iff.1 ft6
 obtain⟨h5,h6⟩:=Bool.and_eq_true_iff.1 ft9
 obtain⟨h7,h8⟩:=Bool.and_eq_true_iff.1 h6
 unfold joinedFacts
 rw[h1,h2,ft2,ft3,ft4,ft5,h3,h4,ft7,ft8,h5,h7,h8]
 kernel_rfl
theorem over:Rows.stepRunsRow.holds Tryz.pinned (OpenSpec.ofChange Rows.stepRunsSpec):=
 OpenClaim.holds_of_wide 5 Tryz.f5 rfl rfl rfl rfl rfl rfl rfl ⟨rfl,rfl,rfl,rfl,rfl⟩ rfl rfl rfl rfl rfl (by kernel_rfl) Tryz.func5 facts
  (of_decide_eq_true (by kernel_rfl)) (by unfold Func.isWrapper;first|(rw[if_pos (by decide+kernel)];kernel_rfl)|(rw[if_neg (by decide+kernel)];exact⟨rfl,rfl⟩))
  (fun os started H enc _=>lifted os started H enc)
theorem proved:Rows.StepRunsSaid:=
 over
#print axioms proved
end Go.Proofs.YtoahfpabpdjkkaaGreat.stepRuns
