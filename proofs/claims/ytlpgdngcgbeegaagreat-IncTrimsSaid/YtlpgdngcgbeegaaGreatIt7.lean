/- Merged by pack.py: RefF, GxON, RefG, CngA, AlvC, OpnP, GxOU, OpnA, GxOQ, CloN, IncB, IncC, IncD, IncE, GxOM, AlvD, GxOY, IncF, RefH, IntE, GxOP, RsgK, IncG, IncP, IncH, OrdN, IncI, IncJ. -/
import Derived.Test.YtlpgdngcgbeegaaGreatIt1
import Derived.Test.YtlpgdngcgbeegaaGreatIt2
import Derived.Test.YtlpgdngcgbeegaaGreatIt3
import Derived.Test.YtlpgdngcgbeegaaGreatIt4
import Derived.Test.YtlpgdngcgbeegaaGreatIt5
import Derived.Test.YtlpgdngcgbeegaaGreatIt6
namespace Go.Proofs.YtlpgdngcgbeegaaGreat.Gx
open Go
set_option linter.unusedSimpArgs false
set_option linter.unusedVariables false
abbrev arcN(a b m:Nat):ArcD:=((a:Int),(b:Int),(m:Int))
theorem InP.self(x:CatD)(hs:List Nd)(i:Nat)(d:Int):InP x hs i i d:=.inl rfl
theorem arcN_own{hs:List Nd}{i k:Nat}{m n:Nd}(hn:hs[i]? =some n)(h1:k<i)(h2:hs[k]? =some m)(h3:m.v.1=n.v.1)(h4:∀j m,k<j->j<i->hs[j]? =some m->m.v.1≠n.v.1)(a b c:Nat):(∃xs,OwnA hs i xs/\arcN a b c∈xs)↔a=k/\b=i/\c=1:=by
 have h0:OwnA hs i [((k:Int),(i:Int),1)]:=⟨n,hn,.inr ⟨k,m,h1,h2,h3,rfl,h4⟩⟩
 constructor
 ·rintro⟨xs,hx,he⟩
  rw[hx.uniq h0] at he
  have:=List.mem_singleton.1 he
  simp only[Prod.mk.injEq] at this
  omega
 ·rintro⟨rfl,rfl,rfl⟩
  exact⟨_,h0,by simp⟩
theorem arcN_no{hs:List Nd}{i:Nat}{n:Nd}(hn:hs[i]? =some n)(h:∀k m,k<i->hs[k]? =some m->m.v.1≠n.v.1)(a b c:Nat):¬ ∃xs,OwnA hs i xs/\arcN a b c∈xs:=by
 rintro⟨xs,hx,he⟩
 rw[hx.uniq ⟨n,hn,.inl ⟨rfl,h⟩⟩] at he
 cases he
theorem arcN_btw{x:CatD}{hs:List Nd}{k i l f:Nat}{nk ni:Nd}(h1:hs[k]? =some nk)(h2:hs[i]? =some ni)(h3:LstP x hs k ni.v.2.1 l)(h4:FstP x hs i nk.v.2.1 f)(a b c:Nat):(∃xs,BtwP x hs k i xs/\arcN a b c∈xs)↔(a=k/\b=i/\c=2)\/(a=l/\b=i/\c=3)\/(a=k/\b=f/\c=4):=by
 have h0:BtwP x hs k i [((k:Int),(i:Int),2),((l:Int),(i:Int),3),((k:Int),(f:Int),4)]:=⟨nk,ni,l,f,h1,h2,h3,h4,rfl⟩
 constructor
 ·rintro⟨xs,hx,he⟩
  rw[hx.uniq h0] at he
  simp only[List.mem_cons,List.not_mem_nil,or_false,Prod.mk.injEq] at he
  omega
 ·intro h
  refine⟨_,h0,?_⟩
  rcases h with ⟨rfl,rfl,rfl⟩|⟨rfl,rfl,rfl⟩|⟨rfl,rfl,rfl⟩<;>simp
def S1(x:CatD)(hs:List Nd)(i a b c:Nat):Prop:=∃i',i'<i/\ArcI x hs i' (arcN a b c)
def S2(x:CatD)(hs:List Nd)(i k a b c:Nat):Prop:=S1 x hs i a b c\/(∃xs,OwnA hs i xs/\arcN a b c∈xs)\/∃k',k'<k/\Dp hs i k'/\TwoP hs i k'/\∃xs,BtwP x hs k' i xs/\arcN a b c∈xs
theorem S2_zero(x:CatD)(hs:List Nd)(i a b c:Nat):S2 x hs i 0 a b c↔S1 x hs i a b c\/∃xs,OwnA hs i xs/\arcN a b c∈xs:=
 ⟨fun h=>h.elim .inl fun h=>h.elim .inr fun⟨k,hk,_⟩=>absurd hk (Nat.not_lt_zero _),fun h=>h.elim .inl fun h=>.inr (.inl h)⟩
theorem S2_no{x:CatD}{hs:List Nd}{i k:Nat}(h:¬(Dp hs i k/\TwoP hs i k))(a b c:Nat):S2 x hs i k a b c↔S2 x hs i (k+1) a b c:=by
 unfold S2
 refine or_congr_right (or_congr_right ⟨fun⟨k',hk,hh⟩=>⟨k',by omega,hh⟩,fun⟨k',hk,hh⟩=>?_⟩)
 rcases Nat.lt_or_ge k' k with h'|h'
 ·exact⟨k',h',hh⟩
 ·have:k'=k:=by omega
  subst this
  exact absurd ⟨hh.1,hh.2.1⟩ h
theorem S2_yes{x:CatD}{hs:List Nd}{i k:Nat}(h1:Dp hs i k)(h2:TwoP hs i k)(a b c:Nat):S2 x hs i (k+1) a b c↔S2 x hs i k a b c\/∃xs,BtwP x hs k i xs/\arcN a b c∈xs:=by
 unfold S2
 constructor
 ·rintro(h|h|⟨k',hk,hh⟩)
  ·exact .inl (.inl h)
  ·exact .inl (.inr (.inl h))
  ·rcases Nat.lt_or_ge k' k with h'|h'
   ·exact .inl (.inr (.inr ⟨k',h',hh⟩))
   ·have:k'=k:=by omega
    subst this
    exact .inr hh.2.2
 ·rintro((h|h|⟨k',hk,hh⟩)|h)
  ·exact .inl h
  ·exact .inr (.inl h)
  ·exact .inr (.inr ⟨k',by omega,hh⟩)
  ·exact .inr (.inr ⟨k,by omega,h1,h2,h⟩)
theorem S2_all{x:CatD}{hs:List Nd}{i n:Nat}(hn:i<=n)(a b c:Nat):S2 x hs i n a b c↔S1 x hs (i+1) a b c:=by
 unfold S2 S1
 constructor
 ·rintro(⟨i',h1,h2⟩|h|⟨k',hk,h1,h2,xs,h3,h4⟩)
  ·exact⟨i',by omega,h2⟩
  ·exact⟨i,by omega,.inl h⟩
  ·exact⟨i,by omega,.inr ⟨k',xs,h1,h2,h3,h4⟩⟩
 ·rintro⟨i',h1,h2⟩
  rcases Nat.lt_or_ge i' i with h'|h'
  ·exact .inl ⟨i',h',h2⟩
  ·have:i'=i:=by omega
   subst this
   rcases h2 with h2|⟨k,xs,h3,h4,h5,h6⟩
   ·exact .inr (.inl h2)
   ·exact .inr (.inr ⟨k,by have:=Dp_lt h3;omega,h3,h4,xs,h5,h6⟩)
theorem Tb3.ch{F:Nat->Prop}{W W':World}{b:Nat}{S:Nat->Nat->Nat->Prop}(h:Tb3 W b S)(e:Ch F W W')(hF:¬F b):Tb3 W' b S:=by
 obtain⟨bs,T,h1,h2,h3⟩:=h
 exact⟨bs,T,h1,e.at h2 hF,h3⟩
structure OutP(x:CatD)(hs:List Nd)(ys:List ArcD)(B:Int):Prop where
 srt:ys.Pairwise fun a b=>SfA.key a<SfA.key b
 mem:∀e,e∈ys↔ArcIn x hs e/\SfA.key e<B
theorem OutP.to{x:CatD}{hs:List Nd}{ys:List ArcD}{B B':Int}(h:OutP x hs ys B)(e:∀e,ArcIn x hs e->(SfA.key e<B↔SfA.key e<B')):OutP x hs ys B':=⟨h.srt,fun a=>(h.mem a).trans ⟨fun k=>⟨k.1,(e a k.1).1 k.2⟩,fun k=>⟨k.1,(e a k.1).2 k.2⟩⟩⟩
theorem OutP.add{x:CatD}{hs:List Nd}{ys:List ArcD}{a:ArcD}{B:Int}(h:OutP x hs ys B)(ha:ArcIn x hs a)(hk:SfA.key a=B)(hl:hs.length<=100):OutP x hs (ys++[a]) (B+1):=by
 refine⟨List.pairwise_append.2 ⟨h.srt,List.pairwise_singleton _ _,fun y hy z hz=>?_⟩,fun e=>?_⟩
 ·rw[List.mem_singleton.1 hz,hk];exact((h.mem y).1 hy).2
 ·rw[List.mem_append,h.mem,List.mem_singleton]
  constructor
  ·rintro(⟨h1,h2⟩|rfl)
   ·exact⟨h1,by omega⟩
   ·exact⟨ha,by omega⟩
  ·rintro⟨h1,h2⟩
   rcases(by omega:SfA.key e<B\/B<=SfA.key e) with h'|h'
   ·exact .inl ⟨h1,h'⟩
   ·exact .inr (arcKey_inj (h1.Q hl) (ha.Q hl) (by omega))
theorem OutP.skip{x:CatD}{hs:List Nd}{ys:List ArcD}{a:ArcD}{B:Int}(h:OutP x hs ys B)(ha:¬ArcIn x hs a)(hq:SfA.Q a)(hk:SfA.key a=B)(hl:hs.length<=100):OutP x hs ys (B+1):=by
 refine h.to fun e he=>⟨fun h=>by omega,fun h'=>?_⟩
 rcases(by omega:SfA.key e<B\/B<=SfA.key e) with h''|h''
 ·exact h''
 ·exact absurd (arcKey_inj (he.Q hl) hq (by omega) ▸ he) ha
set_option maxRecDepth 20000 in
theorem c32{w:World}{v:CatV}{x:CatD}{t:Sl}{hs:List Nd}(h:CatM w v x)(hH:Hst w t hs)(hM:HMay x hs):
  Cw 32 #[cxV v,slV t] w fun r w'=>∃t' ys,r=slV t'/\ArcsP x hs ys/\OwS w' t' 3 (ys.flatMap aC)/\ys.length<=100000/\Ext w w'/\∀j∈blk t',w.heap.size<=j:=by
 have htn:=hH.n
 have hl100:=hM.len
 refine F32_ok v t w _ fun b1 w2 a2=>?_
 have e2:Ext w w2:=a2.ch _
 refine(c93 (hH.ext e2) (by omega)).use ?_
 rintro _ w4 ⟨td,rows,rfl,hsq,hgm,hMx,e4⟩
 have E4:Ext w w4:=e2.trans e4
 refine⟨td,rfl,fun b6 w7 a7=>?_⟩
 have p7:=a7.here
 have z4:=E4.size
 have hT0:=Tb3.new (n:=50000) rfl a7
 refine⟨fun m z W=>∃i:Nat,i<=hs.length/\m+i=hs.length/\z=(i:Int)/\Tb3 W b6 (S1 x hs i)/\Ext w4 W,⟨hs.length,0,Nat.zero_le _,rfl,rfl,hT0.iff fun a b c=>⟨fun h=>h.elim,fun⟨_,h,_⟩=>absurd h (Nat.not_lt_zero _)⟩,a7.ch _⟩,?_⟩
 rintro m _ W g ⟨i,hi,hm,rfl,hT,eW⟩
 unfold F32j1
 refine IfB.dec (fun hlt=>?_) fun hge=>?_
 ·have hi':i<hs.length:=by omega
  have gi:hs[i]? =some hs[i]:=List.getElem?_eq_getElem hi'
  generalize hs[i]=ni at gi
  have oi:=hM.ok i ni gi
  have hbi:(0:Int)<=(i:Int)/\(i:Int)<(t.n:Int):=⟨by omega,hlt⟩
  have hb100:(0:Int)<=(i:Int)/\(i:Int)<((100:Nat):Int):=⟨by omega,by omega⟩
  refine⟨fun m' z V=>∃(k:Nat)(la:Int),k<=i/\m'+k=i/\z=(la,(k:Int))/\((la= -1/\∀j n,j<k->hs[j]? =some n->n.v.1≠ni.v.1)\/∃(l:Nat)(nl:Nd),la=(l:Int)/\l<k/\hs[l]? =some nl/\nl.v.1=ni.v.1/\∀j n,l<j->j<k->hs[j]? =some n->n.v.1≠ni.v.1)/\Tb3 V b6 (S1 x hs i)/\Ext w4 V,
   ⟨i,0, -1,Nat.zero_le _,rfl,rfl,.inl ⟨rfl,fun j n hj=>absurd hj (Nat.not_lt_zero _)⟩,hT,eW⟩,?_⟩
  rintro m' _ V g' ⟨k,la,hk,hmk,rfl,hla,hTV,eV⟩
  unfold F32j2
  refine IfB.dec (fun hl2=>?_) fun hg2=>?_
  ·dsimp only at hl2
   have hk':k<hs.length:=by omega
   have gk:hs[k]? =some hs[k]:=List.getElem?_eq_getElem hk'
   generalize hs[k]=nk at gk
   have ed:=extDrew V
   have eD:Ext w4 V.drew:=eV.trans ed
   obtain⟨pa,oa,hpa,hca⟩:=(hH.ext (E4.trans eD)).at gk
   obtain⟨pb,ob,hpb,hcb⟩:=(hH.ext (E4.trans eD)).at gi
   refine⟨fun n W'=>W'=V.drew/\n=if nk.v.1=ni.v.1 then (k:Int) else la,⟨pa,oa,hpa,⟨by dsimp only;omega,by dsimp only;omega⟩,nk.v.1,by dsimp only;rw[Int.toNat_natCast];exact hca 0 _ rfl,pb,ob,hpb,hbi,ni.v.1,by rw[Int.toNat_natCast];exact hcb 0 _ rfl,IfB.intro (fun hq=>⟨rfl,rfl,?_⟩) fun hq=>⟨rfl,rfl,?_⟩⟩,?_⟩
   ·rw[if_pos (by simpa using hq)]
   ·rw[if_neg (by simpa using hq)]
   rintro n _ g2 ⟨rfl,rfl⟩
   refine⟨rfl,m'-1,by omega,k+1,_,by omega,by omega,by dsimp only;rw[wrap_of (by omega) (by omega)];rfl,?_,hTV.ext ed,eD⟩
   by_cases hq:nk.v.1=ni.v.1
   ·rw[if_pos hq]
    exact .inr ⟨k,nk,rfl,by omega,gk,hq,fun j n h1 h2=>by omega⟩
   ·rw[if_neg hq]
    rcases hla with ⟨h1,h2⟩|⟨l,nl,h1,h2,h3,h4,h5⟩
    ·refine .inl ⟨h1,fun j n hj hn=>?_⟩
     rcases Nat.lt_or_ge j k with h'|h'
     ·exact h2 j n h' hn
     ·have:j=k:=by omega
      subst this
      rw[gk] at hn;cases hn;exact hq
    ·refine .inr ⟨l,nl,h1,by omega,h3,h4,fun j n hj hj2 hn=>?_⟩
     rcases Nat.lt_or_ge j k with h'|h'
     ·exact h5 j n hj h' hn
     ·have:j=k:=by omega
      subst this
      rw[gk] at hn;cases hn;exact hq
  ·dsimp only at hg2
   have hki:k=i:=by omega
   subst hki
   refine⟨fun _ W'=>Tb3 W' b6 (S2 x hs k 0)/\Ext w4 W',?_,?_⟩
   ·refine IfB.dec (fun hl=>?_) fun hl=>?_
    ·dsimp only at hl
     rcases hla with ⟨h1,_⟩|⟨l,nl,rfl,h2,h3,h4,h5⟩
     ·omega
     refine⟨⟨by dsimp only;omega,by dsimp only;omega⟩,hb100,by decide,rfl,hTV.put (i:=l) (k:=k) (m:=1) (by omega) (by omega) (by omega) (by dsimp only;rw[Int.toNat_natCast,Int.toNat_natCast,Nat.zero_add];rfl) fun W' hT' hC'=>⟨rfl,hT'.iff fun a b c=>?_,eV.chN hC' fun j e=>by omega⟩⟩
     rw[S2_zero,arcN_own gi h2 h3 h4 h5]
    ·dsimp only at hl
     rcases hla with ⟨_,h2⟩|⟨l,nl,rfl,_⟩
     ·refine⟨rfl,hTV.iff fun a b c=>?_,eV⟩
      rw[S2_zero]
      exact⟨.inl,fun h=>h.elim id fun h=>absurd h (arcN_no gi h2 a b c)⟩
     ·omega
   rintro _ w37 g2 ⟨hT37,e37⟩
   refine⟨fun m' z V=>∃q:Nat,q<=hs.length/\m'+q=hs.length/\z=(q:Int)/\Tb3 V b6 (S2 x hs k q)/\Ext w4 V,⟨hs.length,0,Nat.zero_le _,rfl,rfl,hT37,e37⟩,?_⟩
   rintro m4 _ V4 g4 ⟨q,hq,hmq,rfl,hTq,eq4⟩
   unfold F32j4
   refine IfB.dec (fun hl4=>?_) fun hg4=>?_
   ·have hq':q<hs.length:=by omega
    have gq:hs[q]? =some hs[q]:=List.getElem?_eq_getElem hq'
    generalize hs[q]=nq at gq
    have oq:=hM.ok q nq gq
    have hbq:(0:Int)<=(q:Int)/\(q:Int)<(t.n:Int):=⟨by omega,hl4⟩
    have hq100:(0:Int)<=(q:Int)/\(q:Int)<((100:Nat):Int):=⟨by omega,by omega⟩
    have ed:=extDrew V4
    have eD:Ext w4 V4.drew:=eq4.trans ed
    obtain⟨pa,oa,hpa,hca⟩:=(hH.ext (E4.trans eD)).at gq
    obtain⟨pb,ob,hpb,hcb⟩:=(hH.ext (E4.trans eD)).at gi
    have hw:IntKind.i64.wrap ((q:Int)+1)=((q+1:Nat):Int):=by rw[wrap_of (by omega) (by omega)];rfl
    refine⟨pa,oa,hpa,hbq,nq.v.1,by rw[Int.toNat_natCast];exact hca 0 _ rfl,pb,ob,hpb,hbi,ni.v.1,by rw[Int.toNat_natCast];exact hcb 0 _ rfl,IfB.intro (fun hs1=>⟨rfl,m4-1,by omega,q+1,hq',by omega,hw,(hTq.ext ed).iff (S2_no fun hh=>?_),eD⟩) fun hs1=>?_⟩
    ·have hs1:nq.v.1=ni.v.1:=by simpa using hs1
     obtain⟨a',b',h1,h2,h3⟩:=hh.2
     rw[gi] at h1;rw[gq] at h2;cases h1;cases h2
     exact h3 hs1
    have hs1:nq.v.1≠ni.v.1:=by simpa using hs1
    have hMd:=hMx.ext eD
    obtain⟨rr,hrr,hrl,hrm⟩:=hsq.at hi'
    obtain⟨c1,hc1,hcell⟩:=hMd.slot hrr
    obtain⟨c2,hc2,hcell2⟩:=hMd.cell hrm (gM_get hrr (show q<rr.2.length by omega))
    have hrn:=hMd.rn hrm
    have htd:=hMd.n
    have hrl2:=hsq.1
    refine⟨c1,0,hc1,⟨by omega,by omega⟩,rr.1,by rw[Int.toNat_natCast,Nat.zero_add];exact hcell,c2,0,hc2,⟨by omega,by omega⟩,gM rows k q,by rw[Int.toNat_natCast,Nat.zero_add];exact hcell2,IfB.intro (fun hd=>⟨rfl,m4-1,by omega,q+1,hq',by omega,hw,(hTq.ext ed).iff (S2_no fun hh=>?_),eD⟩) fun hd=>?_⟩
    ·rw[(hgm k q).2 hh.1] at hd;cases hd
    have hd:Dp hs k q:=(hgm k q).1 (by simpa using hd)
    have h2P:TwoP hs k q:=⟨ni,nq,gi,gq,hs1⟩
    refine⟨hq100,hb100,by decide,rfl,(hTq.ext ed).put (i:=q) (k:=k) (m:=2) (by omega) (by omega) (by omega) (by rw[Int.toNat_natCast,Int.toNat_natCast,Nat.zero_add];rfl) fun w61 hT61 hC61=>?_⟩
    have e61:Ext w4 w61:=eD.chN hC61 fun j e=>by omega
    have hq61:Ch (fun _=>False) w4 w61:=e61
    refine⟨fun m5 z V=>∃(r:Nat)(fi en:Int),r<=hs.length/\m5+r=hs.length/\z=(fi,en,(r:Int))/\
     ((fi= -1/\∀j,j<r->¬InP x hs k j nq.v.2.1)\/∃f:Nat,fi=(f:Int)/\f<r/\InP x hs k f nq.v.2.1/\∀j,j<f->¬InP x hs k j nq.v.2.1)/\
     ((en= -1/\∀j,j<r->¬InP x hs q j ni.v.2.1)\/∃l:Nat,en=(l:Int)/\l<r/\InP x hs q l ni.v.2.1/\∀j,l<j->j<r->¬InP x hs q j ni.v.2.1)/\Tb3 V b6 (fun a b c=>S2 x hs k q a b c\/a=q/\b=k/\c=2)/\Ext w4 V,
     ⟨hs.length,0, -1, -1,Nat.zero_le _,rfl,rfl,.inl ⟨rfl,fun j hj=>absurd hj (Nat.not_lt_zero _)⟩,.inl ⟨rfl,fun j hj=>absurd hj (Nat.not_lt_zero _)⟩,hT61,e61⟩,?_⟩
    rintro m5 _ V5 g5 ⟨r,fi,en,hr,hmr,rfl,hfi,hen,hT5,e5⟩
    unfold F32j5
    refine IfB.dec (fun hl5=>?_) fun hg5=>?_
    ·dsimp only at hl5
     have hr':r<hs.length:=by omega
     have x27:∀ {U:World},Ext w4 U->Ext w2 U:=fun e=>e4.trans e
     refine⟨fun y W'=>(∃fi' en':Int,y=(fi',en')/\((fi'= -1/\∀j,j<r+1->¬InP x hs k j nq.v.2.1)\/∃f:Nat,fi'=(f:Int)/\f<r+1/\InP x hs k f nq.v.2.1/\∀j,j<f->¬InP x hs k j nq.v.2.1)/\
      ((en'= -1/\∀j,j<r+1->¬InP x hs q j ni.v.2.1)\/∃l:Nat,en'=(l:Int)/\l<r+1/\InP x hs q l ni.v.2.1/\∀j,l<j->j<r+1->¬InP x hs q j ni.v.2.1))/\Tb3 W' b6 (fun a b c=>S2 x hs k q a b c\/a=q/\b=k/\c=2)/\Ext w4 W',
      ⟨fun n W'=>((n= -1/\∀j,j<r+1->¬InP x hs q j ni.v.2.1)\/∃l:Nat,n=(l:Int)/\l<r+1/\InP x hs q l ni.v.2.1/\∀j,l<j->j<r+1->¬InP x hs q j ni.v.2.1)/\Tb3 W' b6 (fun a b c=>S2 x hs k q a b c\/a=q/\b=k/\c=2)/\Ext w4 W',?_,?_⟩,?_⟩
     ·have ed5:=extDrew V5
      have eD5:Ext w4 V5.drew:=e5.trans ed5
      obtain⟨pc,oc,hpc,hcc⟩:=(hH.ext (E4.trans eD5)).at gi
      refine⟨v,cxN h a2.new (x27 eD5),pc,oc,hpc,hbi,ni.v.2.1,by rw[Int.toNat_natCast];exact hcc 1 _ rfl,(c94 (h.ext (E4.trans eD5)) (hH.ext (E4.trans eD5)) hM hq' hr' ni.v.2.1).use ?_⟩
      rintro _ w78 ⟨rb,rfl,hrb,e78⟩
      have e5':Ext w4 w78:=eD5.trans e78
      refine⟨rb,rfl,IfB.intro (fun hh=>⟨rfl,.inr ⟨r,rfl,by omega,hrb.1 hh,fun j h1 h2=>by omega⟩,(hT5.ext ed5).ext e78,e5'⟩) fun hh=>⟨rfl,?_,(hT5.ext ed5).ext e78,e5'⟩⟩
      have hno:¬InP x hs q r ni.v.2.1:=fun h'=>by have hh:rb=false:=hh;rw[hrb.2 h'] at hh;cases hh
      have up:∀ {lo:Nat},(∀j,lo<=j->j<r->¬InP x hs q j ni.v.2.1)->∀j,lo<=j->j<r+1->¬InP x hs q j ni.v.2.1:=fun h0 j h1 h2=>by
       rcases Nat.lt_or_ge j r with h'|h'
       ·exact h0 j h1 h'
       ·have:j=r:=by omega
        subst this;exact hno
      rcases hen with ⟨h1,h2⟩|⟨l,h1,h2,h3,h4⟩
      ·exact .inl ⟨h1,fun j hj=>up (lo:=0) (fun j _=>h2 j) j (Nat.zero_le _) hj⟩
      ·exact .inr ⟨l,h1,by omega,h3,fun j hj=>up (lo:=l+1) (fun j h=>h4 j h) j hj⟩
     ·rintro en' w81 g6 ⟨hen',hT81,e81⟩
      unfold F32j6
      have ed6:=extDrew w81
      have eD6:Ext w4 w81.drew:=e81.trans ed6
      refine IfB.dec (fun hneg=>?_) fun hpos=>?_
      ·dsimp only at hneg
       obtain⟨h1,h2⟩:fi= -1/\∀j,j<r->¬InP x hs k j nq.v.2.1:=by
        rcases hfi with h'|⟨f,h',_⟩
        ·exact h'
        ·omega
       obtain⟨pc,oc,hpc,hcc⟩:=(hH.ext (E4.trans eD6)).at gq
       refine⟨v,cxN h a2.new (x27 eD6),pc,oc,hpc,hbq,nq.v.2.1,by rw[Int.toNat_natCast];exact hcc 1 _ rfl,(c94 (h.ext (E4.trans eD6)) (hH.ext (E4.trans eD6)) hM hi' hr' nq.v.2.1).use ?_⟩
       rintro _ w91 ⟨rb,rfl,hrb,e91⟩
       refine⟨rb,rfl,IfB.intro (fun hh=>⟨rfl,⟨(r:Int),en',rfl,.inr ⟨r,rfl,by omega,hrb.1 hh,h2⟩,hen'⟩,(hT81.ext ed6).ext e91,eD6.trans e91⟩) fun hh=>⟨rfl,⟨fi,en',rfl,.inl ⟨h1,fun j hj=>?_⟩,hen'⟩,(hT81.ext ed6).ext e91,eD6.trans e91⟩⟩
       rcases Nat.lt_or_ge j r with h'|h'
       ·exact h2 j h'
       ·have:j=r:=by omega
        subst this
        exact fun h'=>by have hh:rb=false:=hh;rw[hrb.2 h'] at hh;cases hh
      ·dsimp only at hpos
       refine⟨rfl,⟨fi,en',rfl,?_,hen'⟩,hT81.ext ed6,eD6⟩
       rcases hfi with ⟨h',_⟩|⟨f,h1,h2,h3,h4⟩
       ·omega
       ·exact .inr ⟨f,h1,by omega,h3,h4⟩
     ·rintro _ w94 g7 ⟨⟨fi',en',rfl,hfi',hen'⟩,hT94,e94⟩
      exact⟨rfl,m5-1,by omega,r+1,fi',en',hr',by omega,by dsimp only;rw[wrap_of (by omega) (by omega)];rfl,hfi',hen',hT94,e94⟩
    ·dsimp only at hg5
     have hrn':r=hs.length:=by omega
     subst hrn'
     obtain⟨f,rfl,hf1,hf2,hf3⟩:∃f:Nat,fi=(f:Int)/\f<hs.length/\InP x hs k f nq.v.2.1/\∀j,j<f->¬InP x hs k j nq.v.2.1:=by
      rcases hfi with ⟨_,h'⟩|h'
      ·exact absurd (InP.self x hs k _) (h' k hi')
      ·exact h'
     obtain⟨l,rfl,hl1,hl2,hl3⟩:∃l:Nat,en=(l:Int)/\l<hs.length/\InP x hs q l ni.v.2.1/\∀j,l<j->j<hs.length->¬InP x hs q j ni.v.2.1:=by
      rcases hen with ⟨_,h'⟩|h'
      ·exact absurd (InP.self x hs q _) (h' q hq')
      ·exact h'
     have hF:FstP x hs k nq.v.2.1 f:=⟨hf2,fun j hj=>Nat.le_of_not_lt fun h'=>hf3 j h' hj⟩
     have hL:LstP x hs q ni.v.2.1 l:=⟨hl2,fun j hj=>Nat.le_of_not_lt fun h'=>hl3 j h' (hj.lt hq') hj⟩
     refine⟨⟨by dsimp only;omega,by dsimp only;omega⟩,hb100,by decide,rfl,hT5.put (i:=l) (k:=k) (m:=3) (by omega) (by omega) (by omega) (by dsimp only;rw[Int.toNat_natCast,Int.toNat_natCast,Nat.zero_add];rfl) fun w98 hT98 hC98=>⟨hq100,⟨by dsimp only;omega,by dsimp only;omega⟩,by decide,rfl,hT98.put (i:=q) (k:=f) (m:=4) (by omega) (by omega) (by omega) (by dsimp only;rw[Int.toNat_natCast,Int.toNat_natCast,Nat.zero_add];rfl) fun w99 hT99 hC99=>⟨rfl,m4-1,by omega,q+1,hq',by omega,hw,hT99.iff fun a b c=>?_,(e5.chN hC98 fun j e=>by omega).chN hC99 fun j e=>by omega⟩⟩⟩
     rw[S2_yes hd h2P,arcN_btw gq gi hL hF]
     constructor
     ·rintro(((h'|h')|h')|h')
      ·exact .inl h'
      ·exact .inr (.inl h')
      ·exact .inr (.inr (.inl h'))
      ·exact .inr (.inr (.inr h'))
     ·rintro(h'|h'|h'|h')
      ·exact .inl (.inl (.inl h'))
      ·exact .inl (.inl (.inr h'))
      ·exact .inl (.inr h')
      ·exact .inr h'
   ·have hq':q=hs.length:=by omega
    subst hq'
    exact⟨rfl,m-1,by omega,k+1,hi',by omega,by rw[wrap_of (by omega) (by omega)];rfl,hTq.iff (S2_all (by omega)),eq4⟩
 ·have hi':i=hs.length:=by omega
  subst hi'
  have z7:w4.heap.size=b6:=p7.symm
  have eb:∀ {V V':World}{F:Nat->Prop},Ext w4 V->Ch F V V'->(∀j,F j->b6<j)->Ext w4 V':=fun e c hF=>e.chN c fun j hj=>by have:=hF j hj;omega
  refine⟨fun m z V=>∃(i:Nat)(so:Sl)(ys:List ArcD),i<=hs.length/\m+i=hs.length/\z=(so,(i:Int))/\OutP x hs ys ((i:Int)*1000000+1)/\OwS V so 3 (ys.flatMap aC)/\ys.length<=i*400/\(∀j∈blk so,b6<j)/\Tb3 V b6 (S1 x hs hs.length)/\Ext w4 V/\b6<V.heap.size,
   ⟨hs.length,0,⟨none,0,0⟩,[],Nat.zero_le _,rfl,rfl,⟨.nil,fun e=>⟨fun h=>(by cases h),fun⟨h1,h2⟩=>?_⟩⟩,.nil _ _,by simp,by simp[blk],hT,eW,?_⟩,?_⟩
  ·have:=h1.q;unfold SfA.key at h2;omega
  ·obtain⟨_,_,_,hb,_⟩:=hT
   exact heap_lt hb
  rintro m1 _ W1 g1 ⟨i,so,ys,hi1,hm1,rfl,hOut,hos,hyl,hbk,hT1,eW1,hbW⟩
  refine IfB.dec (fun hl1=>?_) fun hg1=>?_
  ·dsimp only at hl1
   refine⟨fun m z V=>∃(k:Nat)(so:Sl)(ys:List ArcD),k<=hs.length/\m+k=hs.length/\z=(so,(k:Int))/\OutP x hs ys ((i:Int)*1000000+(k:Int)*1000+1)/\OwS V so 3 (ys.flatMap aC)/\ys.length<=i*400+k*4/\(∀j∈blk so,b6<j)/\Tb3 V b6 (S1 x hs hs.length)/\Ext w4 V/\b6<V.heap.size,
    ⟨hs.length,0,so,ys,Nat.zero_le _,rfl,rfl,hOut.to fun e _=>by omega,hos,by omega,hbk,hT1,eW1,hbW⟩,?_⟩
   rintro m2 _ W2 g2 ⟨k,so2,ys2,hk2,hm2,rfl,hOut2,hos2,hyl2,hbk2,hT2,eW2,hbW2⟩
   unfold F32j8
   refine IfB.dec (fun hl2=>?_) fun hg2=>?_
   ·dsimp only at hl2
    refine⟨fun m z V=>∃(c:Nat)(so:Sl)(ys:List ArcD),1<=c/\c<=5/\m+c=5/\z=(so,(c:Int))/\OutP x hs ys ((i:Int)*1000000+(k:Int)*1000+(c:Int))/\OwS V so 3 (ys.flatMap aC)/\ys.length+1<=i*400+k*4+c/\(∀j∈blk so,b6<j)/\Tb3 V b6 (S1 x hs hs.length)/\Ext w4 V/\b6<V.heap.size,
     ⟨4,1,so2,ys2,by omega,by omega,rfl,rfl,hOut2,hos2,by omega,hbk2,hT2,eW2,hbW2⟩,?_⟩
    rintro m3 _ W3 g3 ⟨c,so3,ys3,hc1,hc5,hm3,rfl,hOut3,hos3,hyl3,hbk3,hT3,eW3,hbW3⟩
    unfold F32j9
    have hon:=owsN aC_len (by omega) hos3
    refine IfB.dec (fun hl3=>?_) fun hg3=>?_
    ·dsimp only at hl3
     obtain⟨tb',htc,hts⟩:=hT3.get (i:=i) (k:=k) (m:=c) (by omega) (by omega) (by omega) rfl
     have hQ:SfA.Q (arcN i k c):=⟨⟨by dsimp only;omega,by dsimp only;omega⟩,⟨by dsimp only;omega,by dsimp only;omega⟩,by dsimp only;omega,by dsimp only;omega⟩
     refine⟨fun s V=>∃ys:List ArcD,OutP x hs ys ((i:Int)*1000000+(k:Int)*1000+(c:Int)+1)/\OwS V s 3 (ys.flatMap aC)/\ys.length<=i*400+k*4+c/\(∀j∈blk s,b6<j)/\Tb3 V b6 (S1 x hs hs.length)/\Ext w4 V/\b6<V.heap.size,
      ⟨⟨by dsimp only;omega,by dsimp only;omega⟩,⟨by dsimp only;omega,by dsimp only;omega⟩,⟨by dsimp only;omega,by dsimp only;omega⟩,tb',by dsimp only;rw[Int.toNat_natCast,Int.toNat_natCast,Int.toNat_natCast,Nat.zero_add];exact htc,IfB.intro (fun ht=>⟨by decide,fun b125 w126 a126=>?_⟩) fun ht=>⟨rfl,ys3,hOut3.skip (a:=arcN i k c) (fun h'=>?_) hQ rfl hl100,hos3,by omega,hbk3,hT3,eW3,hbW3⟩⟩,?_⟩
     ·have e126:Ext W3 w126:=a126.ch _
      have z126:=a126.size
      refine(hos3.ext e126).lit (new:=aC (arcN i k c)) a126.new rfl (aC_one _) rfl rfl (by omega) (by decide) fun s' w' ho' hn' hC' hbk'=>⟨rfl,ys3++[arcN i k c],hOut3.add (hts.1 ht) rfl hl100,by rw[List.flatMap_append,List.flatMap_singleton];exact ho',by rw[List.length_append,List.length_singleton];omega,fun j hj=>?_,(hT3.ext e126).ch hC' fun hj=>by have:=hbk3 _ hj;omega,eb (eW3.trans e126) hC' hbk3,by have:=hC'.size;omega⟩
      rcases hbk' j hj with h'|h'
      ·exact hbk3 j h'
      ·omega
     ·have ht:tb'=false:=ht
      rw[hts.2 h'] at ht;cases ht
     rintro s130 w131 g4 ⟨ys4,hOut4,hos4,hyl4,hbk4,hT4,eW4,hbW4⟩
     have hcz:(i:Int)*1000000+(k:Int)*1000+(c:Int)+1=(i:Int)*1000000+(k:Int)*1000+((c+1:Nat):Int):=by omega
     rw[hcz] at hOut4
     exact⟨rfl,m3-1,by omega,c+1,s130,ys4,by omega,by omega,by omega,by dsimp only;rw[wrap_of (by omega) (by omega)];rfl,hOut4,hos4,by omega,hbk4,hT4,eW4,hbW4⟩
    ·dsimp only at hg3
     have hcc:c=5:=by omega
     subst hcc
     refine⟨rfl,m2-1,by omega,k+1,so3,ys3,by omega,by omega,by dsimp only;rw[wrap_of (by omega) (by omega)];rfl,hOut3.to fun e he=>?_,hos3,by omega,hbk3,hT3,eW3,hbW3⟩
     have:=he.q;unfold SfA.key;omega
   ·dsimp only at hg2
    have hkk:k=hs.length:=by omega
    subst hkk
    refine⟨rfl,m1-1,by omega,i+1,so2,ys2,by omega,by omega,by dsimp only;rw[wrap_of (by omega) (by omega)];rfl,hOut2.to fun e he=>?_,hos2,by omega,hbk2,hT2,eW2,hbW2⟩
    have:=he.q;unfold SfA.key;omega
  ·dsimp only at hg1
   have hii:i=hs.length:=by omega
   subst hii
   refine⟨so,ys,rfl,⟨hOut.srt,fun _ e=>(hOut.mem e).trans ⟨fun h=>h.1,fun h=>⟨h,?_⟩⟩,fun hno=>absurd hM hno⟩,hos,by omega,E4.trans eW1,fun j hj=>by have:=hbk j hj;omega⟩
   have:=h.q;unfold SfA.key;omega
set_option maxRecDepth 100000
def F100j5(t1:Sl)(b3:Nat)(n47:Int)(y51:Nat->Int->World->Prop)(b53:Nat)(n54:Int)(y58:Nat->Int->World->Prop)(b60:Nat)(n61:Int)(w62:World):Prop:=IfB (decide (n61<(t1.n:Int))) (Qx (some ⟨b3,0,none⟩) n54 ((((t1.2:Int)).toNat:Nat):Int) fun b65 b66=>Qs w62 b65 (b66+n54.toNat) fun s67=>Qx s67.1 n47 (s67.2:Int) fun b68 b69=>Qb w62 b68 (b69+n47.toNat) fun t70=>IfB t70 (Qx (some ⟨b3,0,none⟩) n47 ((((t1.2:Int)).toNat:Nat):Int) fun b71 b72=>Qs w62 b71 (b72+n47.toNat) fun s73=>Qx s73.1 n61 (s73.2:Int) fun b74 b75=>Qb w62 b74 (b75+n61.toNat) fun t76=>IfB t76 (Qx (some ⟨b3,0,none⟩) n54 ((((t1.2:Int)).toNat:Nat):Int) fun b77 b78=>Qs w62 b77 (b78+n54.toNat) fun s79=>Qx s79.1 n61 (s79.2:Int) fun b80 b81=>#[Value.bool true].size=1/\StoreP w62 b80 (b81+n61.toNat) [Value.bool true] fun w82=>Qn y58 b60 (IntKind.i64.wrap (n61+1)) w82) (Qn y58 b60 (IntKind.i64.wrap (n61+1)) w62)) (Qn y58 b60 (IntKind.i64.wrap (n61+1)) w62)) (Qn y51 b53 (IntKind.i64.wrap (n54+1)) w62)
def F100j3(t1:Sl)(R:RV)(b3:Nat)(y44:Nat->Int->World->Prop)(b46:Nat)(n47:Int)(w48:World):Prop:=IfB (decide (n47<(t1.n:Int))) (Ql (α:=Int) 0 w48 fun y51 b53 n54 w55=>IfB (decide (n54<(t1.n:Int))) (Ql (α:=Int) 0 w55 fun y58 b60 n61 w62=>(F100j5 t1 b3 n47 y51 b53 n54 y58 b60 n61 w62)) (Qn y44 b46 (IntKind.i64.wrap (n47+1)) w55)) (R (Value.slice (some ⟨b3,0,none⟩) ((t1.2:Int)).toNat ((t1.2:Int)).toNat) w48)
def F100j2(t1:Sl)(R:RV)(b3:Nat)(s23:Sl)(y24:Nat->Int->World->Prop)(b26:Nat)(n27:Int)(w28:World):Prop:=IfB (decide (n27<(s23.n:Int))) (Qx s23.1 n27 (s23.2:Int) fun b31 b32=>Qi w28.drew b31 (b32+n27.toNat*3+0) fun n33=>Qx (some ⟨b3,0,none⟩) n33 ((((t1.2:Int)).toNat:Nat):Int) fun b34 b35=>Qs w28.drew b34 (b35+n33.toNat) fun s36=>Qx s23.1 n27 (s23.2:Int) fun b37 b38=>Qi w28.drew b37 (b38+n27.toNat*3+1) fun n39=>Qx s36.1 n39 (s36.2:Int) fun b40 b41=>#[Value.bool true].size=1/\StoreP w28.drew b40 (b41+n39.toNat) [Value.bool true] fun w42=>Qn y24 b26 (IntKind.i64.wrap (n27+1)) w42) (Ql (α:=Int) 0 w28 fun y44 b46 n47 w48=>(F100j3 t1 R b3 y44 b46 n47 w48))
def F100j1(t1:Sl)(R:RV)(b1:Nat)(b3:Nat)(y5:Nat->Int->World->Prop)(b7:Nat)(n8:Int)(w9:World):Prop:=IfB (decide (n8<(t1.n:Int))) ((0<=(t1.2:Int)/\(t1.2:Int)<=(t1.2:Int)/\(t1.2:Int)<=281474976710656/\((1:Nat):Int)*(t1.2:Int)<=281474976710656)/\AllocP w9 (Obj.cells { toList:=zc #[Value.bool false] ((t1.2:Int)).toNat } 4) fun b12 w13=>Qx (some ⟨b3,0,none⟩) n8 ((((t1.2:Int)).toNat:Nat):Int) fun b14 b15=>#[Value.slice (some ⟨b12,0,none⟩) ((t1.2:Int)).toNat ((t1.2:Int)).toNat].size=1/\StoreP w13 b14 (b15+n8.toNat) [Value.slice (some ⟨b12,0,none⟩) ((t1.2:Int)).toNat ((t1.2:Int)).toNat] fun w16=>Qn y5 b7 (IntKind.i64.wrap (n8+1)) w16) (∃(x18:Sl×List Value),CellsN w9 b1 0 17 (Qy x18.fst::x18.2)/\Qu' 32 #[Value.agg { toList:=Qy x18.fst::x18.2 },Qy t1] w9 fun s23 w22=>Ql (α:=Int) 0 w22 fun y24 b26 n27 w28=>(F100j2 t1 R b3 s23 y24 b26 n27 w28))
theorem F100_ok(t0:Sl×List Value)(t1:Sl)(w:World)(R:RV)(h:AllocP w (Obj.cells { toList:=Qy t0.fst::t0.2 } 26) fun b1 w2=>(0<=(t1.2:Int)/\(t1.2:Int)<=(t1.2:Int)/\(t1.2:Int)<=281474976710656/\((24:Nat):Int)*(t1.2:Int)<=281474976710656)/\AllocP w2 (Obj.cells { toList:=zc #[Value.slice none 0 0] ((t1.2:Int)).toNat } 70) fun b3 w4=>Ql (α:=Int) 0 w4 fun y5 b7 n8 w9=>(F100j1 t1 R b1 b3 y5 b7 n8 w9)):Cw 100 #[Value.agg { toList:=Qy t0.fst::t0.2 },Qy t1] w R:=
 ckF Tryz.func100 (nd (nd (nd (.node (nd (.loop [(7,oi)] (rg [7,7,17,26]) .nil)) (nd (.node (nd (.loop [(9,oi)] (rg [9,9,30,49]) (nd (.node (.draw (sts [0,1,2,3,4,5,6,7,8,9,10,11,12,13] (.ac 14 [] .fin .non))) .nil)))) (.node (nd (.loop [(10,oi)] (rg [10,12,50,86]) (nd (.node (nd (.loop [(11,oi)] (rg [11,12,55,86]) (nd (.node (nd (.loop [(12,oi)] (rg [12,12,60,86]) .nil)) .nil)))) .nil)))) .nil))))))) h (by kernel_rfl) (by kernel_rfl)
def F39j1(t1:Sl)(R:RV)(s8:Sl)(y9:Nat->Sl×Int->World->Prop)(b11:Nat)(x12:Sl×Int)(w13:World):Prop:=IfB (decide (x12.snd<(t1.n:Int))) (Qx s8.1 x12.2 (s8.2:Int) fun b16 b17=>Qs w13 b16 (b17+x12.2.toNat) fun s18=>Qx s18.1 x12.2 (s18.2:Int) fun b19 b20=>Qb w13 b19 (b20+x12.2.toNat) fun t21=>IfB t21 (1*1<=16777216/\AllocP w13 (Obj.cells #[Qz x12.2] 3) fun b22 w23=>∃(l24:List Value),ReadC w23 (some ⟨b22,0,none⟩) (1*1) l24/\AppendP tt3 3 w23 x12.fst.1 x12.fst.2 x12.fst.3 1 l24 fun s25 w26=>Qn y9 b11 ({ p:=s25.1,n:=s25.2,c:=s25.3 },IntKind.i64.wrap (x12.2+1)) w26) (Qn y9 b11 ({ p:=x12.fst.1,n:=x12.fst.2,c:=x12.fst.3 },IntKind.i64.wrap (x12.2+1)) w13)) (R (Qy x12.fst) w13)
theorem F39_ok(t0:Sl×List Value)(t1:Sl)(w:World)(R:RV)(h:AllocP w (Obj.cells { toList:=Qy t0.fst::t0.2 } 26) fun b1 w2=>∃(x3:Sl×List Value),CellsN w2 b1 0 17 (Qy x3.fst::x3.2)/\Qu' 100 #[Value.agg { toList:=Qy x3.fst::x3.2 },Qy t1] w2 fun s8 w7=>Ql (α:=Sl×Int) ({ p:=none,n:=0,c:=0 },0) w7 fun y9 b11 x12 w13=>(F39j1 t1 R s8 y9 b11 x12 w13)):Cw 39 #[Value.agg { toList:=Qy t0.fst::t0.2 },Qy t1] w R:=
 ckF Tryz.func39 (nd (nd (nd (.node (nd (.loop [(6,.one (.sl)),(7,oi)] (rg [6,7,11,27]) .nil)) .nil)))) h (by kernel_rfl) (by kernel_rfl)
theorem F33_ok(t0:Sl×List Value)(t1:Sl)(w:World)(R:RV)(h:AllocP w (Obj.cells { toList:=Qy t0.fst::t0.2 } 26) fun b1 w2=>∃(x3:Sl×List Value),CellsN w2 b1 0 17 (Qy x3.fst::x3.2)/\Qv' 31 #[Value.agg { toList:=Qy x3.fst::x3.2 },Qy t1] w2 fun t8 w7=>IfB t8 (∃(x9:Sl×List Value),CellsN w7 b1 0 17 (Qy x9.fst::x9.2)/\Qu' 39 #[Value.agg { toList:=Qy x9.fst::x9.2 },Qy t1] w7 fun s14 w13=>R (Value.bool ((s14.2:Int) == 0)) w13) (R (Value.bool false) w7)):Cw 33 #[Value.agg { toList:=Qy t0.fst::t0.2 },Qy t1] w R:=
 ckF Tryz.func33 .nil h (by kernel_rfl) (by kernel_rfl)
def F40j3(t1:Sl)(s8:Sl)(b9:Nat)(y11:Nat->Sl->World->Prop)(b13:Nat)(y18:Nat->Sl×Int->World->Prop)(b20:Nat)(x21:Sl×Int)(y28:Nat->Bool×Int->World->Prop)(b30:Nat)(x31:Bool×Int)(w32:World):Prop:=IfB (decide (x31.snd<(t1.n:Int))) (IfB x31.1 (Qx (some ⟨b9,0,none⟩) x31.2 ((((t1.2:Int)).toNat:Nat):Int) fun b35 b36=>Qb w32 b35 (b36+x31.2.toNat) fun t37=>IfB t37 (Qn y28 b30 (true,IntKind.i64.wrap (x31.2+1)) w32) (Qx s8.1 x31.2 (s8.2:Int) fun b39 b40=>Qs w32 b39 (b40+x31.2.toNat) fun s41=>Qx s41.1 x21.2 (s41.2:Int) fun b42 b43=>Qb w32 b42 (b43+x21.2.toNat) fun t44=>Qn y28 b30 (!t44,IntKind.i64.wrap (x31.2+1)) w32)) (Qn y28 b30 (false,IntKind.i64.wrap (x31.2+1)) w32)) (IfB x31.1 (Qx (some ⟨b9,0,none⟩) x21.2 ((((t1.2:Int)).toNat:Nat):Int) fun b47 b48=>#[Value.bool true].size=1/\StoreP w32 b47 (b48+x21.2.toNat) [Value.bool true] fun w49=>1*1<=16777216/\AllocP w49 (Obj.cells #[Qz x21.2] 3) fun b50 w51=>∃(l52:List Value),ReadC w51 (some ⟨b50,0,none⟩) (1*1) l52/\AppendP tt3 3 w51 x21.fst.1 x21.fst.2 x21.fst.3 1 l52 fun s53 w54=>Qn y11 b13 { p:=s53.1,n:=s53.2,c:=s53.3 } w54) (Qn y18 b20 ({ p:=x21.fst.1,n:=x21.fst.2,c:=x21.fst.3 },IntKind.i64.wrap (x21.2+1)) w32))
def F40j2(t1:Sl)(s8:Sl)(b9:Nat)(y11:Nat->Sl->World->Prop)(b13:Nat)(y18:Nat->Sl×Int->World->Prop)(b20:Nat)(x21:Sl×Int)(w22:World):Prop:=IfB (decide (x21.snd<(t1.n:Int))) (Qx (some ⟨b9,0,none⟩) x21.2 ((((t1.2:Int)).toNat:Nat):Int) fun b25 b26=>Qb w22 b25 (b26+x21.2.toNat) fun t27=>Ql (α:=Bool×Int) (!t27,0) w22 fun y28 b30 x31 w32=>(F40j3 t1 s8 b9 y11 b13 y18 b20 x21 y28 b30 x31 w32)) (Qn y11 b13 { p:=x21.fst.1,n:=x21.fst.2,c:=x21.fst.3 } w22)
theorem F40_ok(t0:Sl×List Value)(t1:Sl)(w:World)(R:RV)(h:AllocP w (Obj.cells { toList:=Qy t0.fst::t0.2 } 26) fun b1 w2=>∃(x3:Sl×List Value),CellsN w2 b1 0 17 (Qy x3.fst::x3.2)/\Qu' 100 #[Value.agg { toList:=Qy x3.fst::x3.2 },Qy t1] w2 fun s8 w7=>(0<=(t1.2:Int)/\(t1.2:Int)<=(t1.2:Int)/\(t1.2:Int)<=281474976710656/\((1:Nat):Int)*(t1.2:Int)<=281474976710656)/\AllocP w7 (Obj.cells { toList:=zc #[Value.bool false] ((t1.2:Int)).toNat } 4) fun b9 w10=>Ql (α:=Sl) ({ p:=none,n:=0,c:=0 }) w10 fun y11 b13 s14 w15=>IfB (decide ((s14.n:Int)<(t1.n:Int))) (Ql (α:=Sl×Int) ({ p:=s14.1,n:=s14.2,c:=s14.3 },0) w15 fun y18 b20 x21 w22=>(F40j2 t1 s8 b9 y11 b13 y18 b20 x21 w22)) (R (Qy s14) w15)):Cw 40 #[Value.agg { toList:=Qy t0.fst::t0.2 },Qy t1] w R:=
 ckF Tryz.func40 (nd (nd (nd (nd (.node (.loop [(7,.one (.sl))] (rg [7,10,17,63]) (nd (nd (.loop [(7,.one (.sl)),(8,oi)] (rg [7,10,22,63]) (nd (.node (nd (.node (nd (.loop [(9,ob),(10,oi)] (rg [9,10,33,55]) .nil)) .nil)) .nil)))))) .nil))))) h (by kernel_rfl) (by kernel_rfl)
def F25j1(t0:Sl)(t1:Sl)(R:RV)(y1:Nat->Int->World->Prop)(b3:Nat)(n4:Int)(w5:World):Prop:=IfB (decide (n4<(t0.n:Int))) (Qx t0.1 n4 (t0.2:Int) fun b8 b9=>Qi w5.drew b8 (b9+n4.toNat) fun n10=>Qx t1.1 n4 (t1.2:Int) fun b11 b12=>Qi w5.drew b11 (b12+n4.toNat) fun n13=>IfB (n10 != n13) (R (Value.bool false) w5.drew) (Qn y1 b3 (IntKind.i64.wrap (n4+1)) w5.drew)) (R (Value.bool true) w5)
theorem F25_ok(t0:Sl)(t1:Sl)(w:World)(R:RV)(h:IfB ((t0.2:Int) != (t1.2:Int)) (R (Value.bool false) w) (Ql (α:=Int) 0 w fun y1 b3 n4 w5=>(F25j1 t0 t1 R y1 b3 n4 w5))):Cw 25 #[Qy t0,Qy t1] w R:=
 ckF Tryz.func25 (nd (nd (.node (nd (.loop [(5,oi)] (rg [4,5,11,25]) (nd (.node (.node (.draw (sts [0,1,2,3,4,5,6,7,8] .fin)) .nil) .nil)))) .nil))) h (by kernel_rfl) (by kernel_rfl)
structure FwE(E:Nat->Nat->Prop)(n m i k:Nat)(rows:List MxR):Prop where
 lo:∀a b,Fw E m a b->gM rows a b=true
 hi:∀a b,gM rows a b=true->TC E a b
 done:∀a b,b<n->(a<i\/(a=i/\b<k))->Fw E (m+1) a b->gM rows a b=true
theorem FwE.next{E:Nat->Nat->Prop}{n m i k:Nat}{rows rows':List MxR}(h:FwE E n m i k rows)(hle:∀a b,gM rows a b=true->gM rows' a b=true)(hup:∀a b,gM rows' a b=true->TC E a b)
  (hik:Fw E (m+1) i k->gM rows' i k=true):FwE E n m i (k+1) rows':=
 ⟨fun a b hab=>hle a b (h.lo a b hab),hup,fun a b hb hab hF=>by
  by_cases he:a=i/\b=k
  ·obtain⟨rfl,rfl⟩:=he;exact hik hF
  ·exact hle a b (h.done a b hb (by omega) hF)⟩
theorem FwE.row{E:Nat->Nat->Prop}{n m i:Nat}{rows:List MxR}(h:FwE E n m i n rows):FwE E n m (i+1) 0 rows:=
 ⟨h.lo,h.hi,fun a b hb hab hF=>h.done a b hb (by omega) hF⟩
theorem tc_lt{E:Nat->Nat->Prop}{n:Nat}(hE:∀a b,E a b->a<n/\b<n){a b:Nat}(h:TC E a b):a<n/\b<n:=by
 induction h with
 | one e=>exact hE _ _ e
 | more _ e ih=>exact⟨ih.1,(hE _ _ e).2⟩
theorem FwE.stage{E:Nat->Nat->Prop}{n m:Nat}{rows:List MxR}(hE:∀a b,E a b->a<n/\b<n)(h:FwE E n m n 0 rows):FwE E n (m+1) 0 0 rows:=
 ⟨fun a b hab=>h.done a b (tc_lt hE (Fw_tc hab)).2 (.inl (tc_lt hE (Fw_tc hab)).1) hab,h.hi,fun a b _ hab=>by omega⟩
theorem c100{w:World}{v:CatV}{x:CatD}{t:Sl}{hs:List Nd}(h:CatM w v x)(hH:Hst w t hs)(hY:HMay x hs):
  Cw 100 #[cxV v,slV t] w fun r w'=>∃t' rows ys,r=slV t'/\ArcsP x hs ys/\Sqr hs.length rows/\(∀i k,gM rows i k=true↔TC (ArcE x hs) i k)/\Mx w' w.heap.size t' rows/\Ext w w':=by
 have hn:=hH.n
 have hl100:=hY.len
 refine F100_ok v t w _ fun b1 w2 a2=>⟨⟨by omega,by omega,by omega,by omega⟩,fun b3 w4 a4=>?_⟩
 have e2:Ext w w2:=a2.ch _
 have e4:Ext w2 w4:=a4.ch _
 have p2:=a2.here;have z2:=a2.size;have p4:=a4.here;have z4:=a4.size
 rw[Int.toNat_natCast,zc_all (v:=Value.slice none 0 0) (by intro x hx;simpa using hx),hn] at a4
 obtain⟨ts,hts⟩:∃ts:Sl,ts=⟨some ⟨b3,0,none⟩,hs.length,hs.length⟩:=⟨_,rfl⟩
 have hM0:Mx w4 w.heap.size ts (List.replicate hs.length (⟨none,0,0⟩,[])):=by
  have hmem:∀r∈List.replicate hs.length ((⟨none,0,0⟩,[]):MxR),r=(⟨none,0,0⟩,[]):=fun r hr=>(List.mem_replicate.1 hr).2
  refine⟨?_,fun r hr=>?_,fun r hr=>?_,fun a b r s _ hr _=>?_,fun j hj=>?_,fun r hr=>?_⟩
  ·rw[hts]
   refine OwS.new (w:=w2) (T:=70) ?_ (by simp)
   rw[List.map_replicate]
   simpa using a4
  ·rw[hmem r hr];exact .nil _ _
  ·rw[hmem r hr];simp[blk]
  ·rw[hmem r (List.mem_of_getElem? hr)];simp[blk]
  ·rw[hts] at hj;simp[blk] at hj;omega
  ·rw[hmem r hr];simp[blk]
 have hslot:∀ {i:Nat},i<hs.length->(0:Int)<=(i:Int)/\(i:Int)<((((t.2:Int)).toNat:Nat):Int):=fun{i} h=>⟨by omega,by omega⟩
 have w1:∀ {i:Nat},i<hs.length->IntKind.i64.wrap ((i:Int)+1)=((i+1:Nat):Int):=fun{i} h=>by rw[wrap_of (by omega) (by omega)];rfl
 have hb1:ts.p=some ⟨b3,0,none⟩:=by rw[hts]
 have slot:∀ {W:World}{rows:List MxR}{i:Nat}{r:MxR},Mx W w.heap.size ts rows->rows[i]? =some r->W.cell? ⟨b3,0+(i:Int).toNat,none⟩=some (slV r.1):=fun{W rows i r} hM hr=>by
  obtain⟨b,hp,hc⟩:=hM.slot hr
  rw[hb1] at hp;cases hp
  rw[Int.toNat_natCast,Nat.zero_add];exact hc
 refine⟨fun m z W=>∃(i:Nat)(rows:List MxR),i<=hs.length/\m+i=hs.length/\z=(i:Int)/\rows.length=hs.length/\(∀a r,rows[a]? =some r->r.2.length=if a<i then hs.length else 0)/\(∀a b,gM rows a b=false)/\Mx W w.heap.size ts rows/\Ext w2 W,
  ⟨hs.length,0,List.replicate hs.length (⟨none,0,0⟩,[]),Nat.zero_le _,rfl,rfl,by simp,fun a r hr=>?_,fun a b=>?_,hM0,e4⟩,?_⟩
 ·rw[(List.mem_replicate.1 (List.mem_of_getElem? hr)).2];rfl
 ·unfold gM
  rw[List.getElem?_replicate]
  split
  ·rename_i r hr
   split at hr
   ·cases hr;simp
   ·cases hr
  ·rfl
 rintro m _ W g ⟨i,rows,hi,hmi,rfl,hrl,hrw,hg,hM,hE⟩
 unfold F100j1
 have zE:=(e2.trans hE).size
 refine IfB.dec (fun hlt=>?_) fun hge=>?_
 ·have hi':i<hs.length:=by omega
  refine⟨⟨by omega,by omega,by omega,by omega⟩,fun b12 w13 a12=>?_⟩
  have p12:=a12.here;have z12:=a12.size
  have e12:Ext W w13:=a12.ch _
  rw[Int.toNat_natCast,zc_all (v:=Value.bool false) (by intro x hx;simpa using hx),hn] at a12
  have hrow:OwS w13 ⟨some ⟨b12,0,none⟩,hs.length,hs.length⟩ 1 (bvs (List.replicate hs.length false)):=by
   refine OwS.new (w:=W) (T:=4) ?_ (by simp)
   rw[show bvs (List.replicate hs.length false)=List.replicate hs.length (Value.bool false) from List.map_replicate]
   simpa using a12
  refine⟨b3,0,rfl,hslot hi',rfl,?_⟩
  rw[Int.toNat_natCast,Int.toNat_natCast,hn]
  have hM13:=hM.ext e12
  have hbk:∀j∈blk (⟨some ⟨b12,0,none⟩,hs.length,hs.length⟩:Sl),j=b12:=fun j hj=>by simpa [blk] using hj
  refine hM13.row' (by omega) hrow (fun j hj=>by have:=hbk j hj;omega) (fun j hj h=>by have:=hbk j hj;have:=hM.own.lt j h;omega) (fun r hr j hj h=>by have:=hbk j hj;have:=(hM.row r hr).lt j h;omega) hb1 fun w16 hM16 hC16=>?_
  refine⟨rfl,m-1,by omega,i+1,_,hi',by omega,w1 hi',by rw[List.length_set];exact hrl,fun a r hr=>?_,fun a b=>?_,hM16,(hE.trans e12).chN hC16 fun j e=>by omega⟩
  ·rw[List.getElem?_set] at hr
   by_cases hia:i=a
   ·subst hia
    rw[if_pos rfl,if_pos (by omega)] at hr
    cases hr
    rw[if_pos (by omega)];exact List.length_replicate
   ·rw[if_neg hia] at hr
    rw[hrw a r hr]
    by_cases h:a<i
    ·rw[if_pos h,if_pos (by omega)]
    ·rw[if_neg h,if_neg (by omega)]
  ·rw[gM_row (by omega)]
   split
   ·rfl
   ·exact hg a b
 ·have hi':i=hs.length:=by omega
  subst hi'
  have hsq:Sqr hs.length rows:=⟨hrl,fun r hr=>by
   obtain⟨a,ha,e⟩:=List.getElem_of_mem hr
   have:=hrw a r (by rw[List.getElem?_eq_getElem ha,e])
   rwa [if_pos (by omega)] at this⟩
  refine⟨v,cxN h a2.new hE,(c32 (h.ext (e2.trans hE)) (hH.ext (e2.trans hE)) hY).use ?_⟩
  rintro _ w22 ⟨s23,ys,rfl,hA,ho,hyl,e22,hbs⟩
  have hsn:=owsN aC_len (by omega) ho
  have E22:Ext w w22:=(e2.trans hE).trans e22
  have z22:=E22.size
  have hold:∀r∈rows,∀j∈blk r.1,j<W.heap.size:=fun r hr j hj=>(hM.row r hr).lt j hj
  refine⟨s23,rfl,fun m z V=>∃(q:Nat)(rows:List MxR),q<=ys.length/\m+q=ys.length/\z=(q:Int)/\Sqr hs.length rows/\(∀a b,gM rows a b=true↔ArE (ys.take q) a b)/\(∀r∈rows,∀j∈blk r.1,j<W.heap.size)/\Mx V w.heap.size ts rows/\Ch (fun j=>w.heap.size<=j/\j<W.heap.size) w22 V,
   ⟨ys.length,0,rows,Nat.zero_le _,rfl,rfl,hsq,fun a b=>⟨fun h=>(by rw[hg] at h;cases h),fun⟨c,h⟩=>(by simp at h)⟩,hold,hM.ext e22,Ch.refl _ _⟩,?_⟩
  rintro m _ V g ⟨q,rows2,hq,hmq,rfl,hsq2,hg2,hold2,hM2,hC2⟩
  have hE2:Ext w V:=E22.chN hC2 fun j hj=>hj.1
  unfold F100j2
  refine IfB.dec (fun hlt=>?_) fun hge=>?_
  ·have hq':q<ys.length:=by omega
   have hx:ys[q]? =some ys[q]:=List.getElem?_eq_getElem hq'
   have hxm:ys[q]∈ys:=List.getElem_mem hq'
   have htk:=take_succ_get hx
   generalize ys[q]=e at hx hxm htk
   obtain⟨a,b,h1,h2,ha,hb,_⟩:=arc_of hY hA hxm
   obtain⟨e1,f1,c⟩:=e
   dsimp only at h1 h2
   subst h1;subst h2
   have ed:=extDrew V
   have hMd:=hM2.ext ed
   have hRd:=(ho.rd.ch hC2 fun j hj hF=>by have:=hbs j hj;omega).ext ed
   obtain⟨pb,po,hpp,hcc⟩:=hRd.elem (i:=q) (by omega) (by omega) (flatGet aC_len hx)
   obtain⟨ra,hra,hral,hram⟩:=hsq2.at ha
   obtain⟨bb,hpb,_⟩:=hMd.cell hram (gM_get hra (k:=b) (by omega))
   have hrn:=hMd.rn hram
   have hbq:(0:Int)<=(q:Int)/\(q:Int)<(s23.n:Int):=⟨by omega,hlt⟩
   refine⟨pb,po,hpp,hbq,(a:Int),by rw[Int.toNat_natCast];exact hcc 0 _ rfl,b3,0,rfl,hslot ha,ra.1,slot hMd hra,pb,po,hpp,hbq,(b:Int),by rw[Int.toNat_natCast];exact hcc 1 _ rfl,bb,0,hpb,⟨by omega,by omega⟩,rfl,?_⟩
   rw[Int.toNat_natCast]
   refine hMd.put hra (by omega) hpb fun w' hM' hC'=>⟨rfl,m-1,by omega,q+1,_,hq',by omega,by rw[wrap_of (by omega) (by omega)];rfl,hsq2.set hra _,fun i k=>?_,fun r hr j hj=>?_,hM',(hC2.trans (ed.mono fun _ _ h=>h.elim)).trans (hC'.mono fun j _ e=>⟨hMd.rnew ra hram j (by simp[blk,hpb,e]),hold2 ra hram j (by simp[blk,hpb,e])⟩)⟩
   ·rw[gM_set hra (by omega),htk]
    unfold ArE at hg2 ⊢
    constructor
    ·intro h
     split at h
     ·rename_i hab
      obtain⟨rfl,rfl⟩:=hab
      exact⟨c,by simp⟩
     ·obtain⟨c',hc'⟩:=(hg2 i k).1 h
      exact⟨c',List.mem_append.2 (.inl hc')⟩
    ·rintro⟨c',hc'⟩
     split
     ·rfl
     ·rename_i hab
      rcases List.mem_append.1 hc' with h'|h'
      ·exact(hg2 i k).2 ⟨c',h'⟩
      ·have:=List.mem_singleton.1 h'
       simp only[Prod.mk.injEq] at this
       exact absurd ⟨by omega,by omega⟩ hab
   ·rcases mem_set hr with rfl|⟨a',_,ha'⟩
    ·exact hold2 ra hram j hj
    ·exact hold2 r (List.mem_of_getElem? ha') j hj
  ·have hq':q=ys.length:=by omega
   subst hq'
   rw[List.take_length] at hg2
   have hEE:∀a b,ArcE x hs a b->a<hs.length/\b<hs.length:=fun a b h=>h.lt
   have hF0:FwE (ArcE x hs) hs.length 0 0 0 rows2:=⟨fun a b h=>(hg2 a b).2 ((hA.are hY a b).2 h),fun a b h=>.one ((hA.are hY a b).1 ((hg2 a b).1 h)),fun a b _ hab=>by omega⟩
   refine⟨fun n z W'=>∃(m:Nat)(rows:List MxR),m<=hs.length/\n+m=hs.length/\z=(m:Int)/\Sqr hs.length rows/\FwE (ArcE x hs) hs.length m 0 0 rows/\Mx W' w.heap.size ts rows/\Ext w W',⟨hs.length,0,rows2,Nat.zero_le _,rfl,rfl,hsq2,hF0,hM2,hE2⟩,?_⟩
   rintro n _ w53 g ⟨m,rows3,hm,hnm,rfl,hsq3,hF3,hM3,hE3⟩
   unfold F100j3
   have hst:∀ {i:Nat},i<hs.length->(0:Int)<=(i:Int)/\(i:Int)<(t.n:Int):=fun{i} h=>⟨by omega,by omega⟩
   refine IfB.dec (fun hlt=>?_) fun hge=>?_
   ·have hm':m<hs.length:=by omega
    refine⟨fun q z W'=>∃(i:Nat)(rows:List MxR),i<=hs.length/\q+i=hs.length/\z=(i:Int)/\Sqr hs.length rows/\FwE (ArcE x hs) hs.length m i 0 rows/\Mx W' w.heap.size ts rows/\Ext w W',⟨hs.length,0,rows3,Nat.zero_le _,rfl,rfl,hsq3,hF3,hM3,hE3⟩,?_⟩
    rintro q _ w60 g ⟨i,rows4,hi,hqi,rfl,hsq4,hF4,hM4,hE4⟩
    refine IfB.dec (fun hlt2=>?_) fun hge2=>?_
    ·have hi':i<hs.length:=by omega
     refine⟨fun s z W'=>∃(k:Nat)(rows:List MxR),k<=hs.length/\s+k=hs.length/\z=(k:Int)/\Sqr hs.length rows/\FwE (ArcE x hs) hs.length m i k rows/\Mx W' w.heap.size ts rows/\Ext w W',⟨hs.length,0,rows4,Nat.zero_le _,rfl,rfl,hsq4,hF4,hM4,hE4⟩,?_⟩
     rintro s _ w67 g ⟨k,rows5,hk,hsk,rfl,hsq5,hF5,hM5,hE5⟩
     unfold F100j5
     refine IfB.dec (fun hlt3=>?_) fun hge3=>?_
     ·have hk':k<hs.length:=by omega
      obtain⟨ri,hri,hril,hrim⟩:=hsq5.at hi'
      obtain⟨rm,hrm,hrml,hrmm⟩:=hsq5.at hm'
      have hin:=hM5.rn hrim
      have hmn:=hM5.rn hrmm
      obtain⟨c1,hp1,hc1⟩:=hM5.cell hrim (gM_get hri (k:=m) (by omega))
      obtain⟨c2,hp2,hc2⟩:=hM5.cell hrmm (gM_get hrm (k:=k) (by omega))
      have stay:(Fw (ArcE x hs) (m+1) i k->gM rows5 i k=true)->∃b90,b90<s/\∃(k':Nat)(rows:List MxR),k'<=hs.length/\b90+k'=hs.length/\IntKind.i64.wrap ((k:Int)+1)=(k':Int)/\Sqr hs.length rows/\FwE (ArcE x hs) hs.length m i k' rows/\Mx w67 w.heap.size ts rows/\Ext w w67:=fun h=>
       ⟨s-1,by omega,k+1,rows5,hk',by omega,w1 hk',hsq5,hF5.next (fun _ _ h=>h) hF5.hi h,hM5,hE5⟩
      refine⟨b3,0,rfl,hslot hi',ri.1,slot hM5 hri,c1,0,hp1,⟨by omega,by show (m:Int)<(ri.1.n:Int);omega⟩,gM rows5 i m,by rw[Int.toNat_natCast,Nat.zero_add];exact hc1,IfB.intro (fun h1=>?_) fun h1=>⟨rfl,stay fun hF=>?_⟩⟩
      ·refine⟨b3,0,rfl,hslot hm',rm.1,slot hM5 hrm,c2,0,hp2,⟨by omega,by show (k:Int)<(rm.1.n:Int);omega⟩,gM rows5 m k,by rw[Int.toNat_natCast,Nat.zero_add];exact hc2,IfB.intro (fun h2=>?_) fun h2=>⟨rfl,stay fun hF=>?_⟩⟩
       ·refine⟨b3,0,rfl,hslot hi',ri.1,slot hM5 hri,c1,0,hp1,⟨by omega,by show (k:Int)<(ri.1.n:Int);omega⟩,rfl,?_⟩
        rw[Int.toNat_natCast]
        have hup:=(hF5.hi _ _ h1).trans (hF5.hi _ _ h2)
        have hset:=gM_set hri (k:=k) (by omega) true
        refine hM5.put hri (by omega) hp1 fun w' hM' hC'=>⟨rfl,s-1,by omega,k+1,_,hk',by omega,w1 hk',hsq5.set hri _,hF5.next (fun a b h=>?_) (fun a b h=>?_) (fun _=>?_),hM',hE5.chN hC' fun j e=>hM5.rnew ri hrim j (by simp[blk,hp1,e])⟩
        ·rw[hset];split
         ·rfl
         ·exact h
        ·rw[hset] at h
         split at h
         ·rename_i hab;rw[hab.1,hab.2];exact hup
         ·exact hF5.hi a b h
        ·rw[hset,if_pos ⟨rfl,rfl⟩]
       ·rcases hF with hF|hF
        ·exact hF5.lo _ _ hF
        ·rw[hF5.lo _ _ hF.2] at h2;cases h2
      ·rcases hF with hF|hF
       ·exact hF5.lo _ _ hF
       ·rw[hF5.lo _ _ hF.1] at h1;cases h1
     ·have hk':k=hs.length:=by omega
      subst hk'
      exact⟨rfl,q-1,by omega,i+1,rows5,hi',by omega,w1 hi',hsq5,hF5.row,hM5,hE5⟩
    ·have hi':i=hs.length:=by omega
     subst hi'
     exact⟨rfl,n-1,by omega,m+1,rows4,hm',by omega,w1 hm',hsq4,hF4.stage hEE,hM4,hE4⟩
   ·have hm':m=hs.length:=by omega
    subst hm'
    refine⟨ts,rows3,ys,?_,hA,hsq3,fun a b=>⟨hF3.hi a b,fun h=>hF3.lo a b ((Fw_iff fun a b h=>(hEE a b h).2).2 h)⟩,hM3,hE3⟩
    rw[hts,Int.toNat_natCast,hn]
theorem c39{w:World}{v:CatV}{x:CatD}{t:Sl}{hs:List Nd}(h:CatM w v x)(hH:Hst w t hs)(hY:HMay x hs):
  Cw 39 #[cxV v,slV t] w fun r w'=>∃(t':Sl)(ys:List ArcD)(os:List Nat),r=slV t'/\ArcsP x hs ys/\os.Pairwise (· < ·)/\(∀i,i∈os↔i<hs.length/\TC (ArcE x hs) i i)/\OwS w' t' 1 (os.map fun k:Nat=>iv (k:Int))/\Ext w w':=by
 have htn:=hH.n
 have hl100:=hY.len
 refine F39_ok v t w _ fun b1 w2 a2=>?_
 have e2:Ext w w2:=a2.ch _
 refine⟨v,cxN h a2.new (Ch.refl _ _),(c100 (h.ext e2) (hH.ext e2) hY).use ?_⟩
 rintro _ w7 ⟨s8,rows,ys,rfl,hA,hsq,hg,hMx,e7⟩
 have E7:=e2.trans e7
 have hsn:=hMx.n
 have hsq1:=hsq.1
 refine⟨s8,rfl,fun m z W=>∃(i:Nat)(os:List Nat)(so:Sl),i<=hs.length/\m+i=hs.length/\z=(so,(i:Int))/\os.Pairwise (· < ·)/\(∀k,k∈os↔k<i/\TC (ArcE x hs) k k)/\OwS W so 1 (os.map fun k:Nat=>iv (k:Int))/\(∀j∈blk so,w7.heap.size<=j)/\Ext w7 W,
  ⟨hs.length,0,[],⟨none,0,0⟩,Nat.zero_le _,rfl,rfl,.nil,by simp,.nil _ _,by simp[blk],Ch.refl _ _⟩,?_⟩
 rintro m _ W g ⟨i,os,so,hi,hm,rfl,hsr,hmem,hos,hbk,eW⟩
 unfold F39j1
 have hosn:=hos.len
 rw[List.length_map,Nat.mul_one] at hosn
 have hol:os.length<=i:=by
  have:=nodup_le (a:=os) (b:=List.range i) (hsr.imp fun h e=>by omega) fun k hk=>List.mem_range.2 ((hmem k).1 hk).1
  simpa using this
 refine IfB.dec (fun hlt=>?_) fun hge=>?_
 ·dsimp only at hlt
  have hi':i<hs.length:=by omega
  have hw:IntKind.i64.wrap ((i:Int)+1)=((i+1:Nat):Int):=by rw[wrap_of (by omega) (by omega)];rfl
  obtain⟨ra,hra,hral,hram⟩:=hsq.at hi'
  have hMd:=hMx.ext eW
  obtain⟨b1',hp1,hc1⟩:=hMd.slot hra
  obtain⟨b2',hp2,hc2⟩:=hMd.cell hram (gM_get hra (k:=i) (by omega))
  have hrn:=hMd.rn hram
  have up:∀ {os':List Nat},(∀k,k∈os'↔k∈os\/(k=i/\gM rows i i=true))->∀k,k∈os'↔k<i+1/\TC (ArcE x hs) k k:=fun h k=>by
   rw[h,hmem]
   constructor
   ·rintro(⟨h1,h2⟩|⟨rfl,h2⟩)
    ·exact⟨by omega,h2⟩
    ·exact⟨by omega,(hg k k).1 h2⟩
   ·rintro⟨h1,h2⟩
    rcases Nat.lt_or_ge k i with h'|h'
    ·exact .inl ⟨h',h2⟩
    ·have:k=i:=by omega
     subst this
     exact .inr ⟨rfl,(hg k k).2 h2⟩
  refine⟨b1',0,hp1,⟨by dsimp only;omega,by dsimp only;omega⟩,ra.1,by dsimp only;rw[Int.toNat_natCast,Nat.zero_add];exact hc1,b2',0,hp2,⟨by dsimp only;omega,by dsimp only;omega⟩,gM rows i i,by dsimp only;rw[Int.toNat_natCast,Nat.zero_add];exact hc2,IfB.intro (fun hin=>⟨by decide,fun b22 w23 a23=>?_⟩) fun hin=>⟨rfl,m-1,by omega,i+1,os,so,hi',by omega,by dsimp only;rw[hw],hsr,up fun k=>?_,hos,hbk,eW⟩⟩
  ·have e23:Ext W w23:=a23.ch _
   have z23:=a23.size;have p23:=a23.here;have zW:=eW.size
   refine(hos.ext e23).lit (new:=[iv (i:Int)]) a23.new rfl (by intro v hv;rw[List.mem_singleton.1 hv];rfl) rfl rfl (by omega) (by decide) fun s25 w26 ho26 hn26 hC26 hb26=>⟨rfl,m-1,by omega,i+1,os++[i],s25,hi',by omega,by dsimp only;rw[hw],?_,up fun k=>?_,by rw[List.map_append];exact ho26,fun j hj=>?_,(eW.trans e23).chN hC26 fun j hj=>hbk j hj⟩
   ·exact List.pairwise_append.2 ⟨hsr,List.pairwise_singleton _ _,fun a ha b hb=>by rw[List.mem_singleton.1 hb];exact((hmem a).1 ha).1⟩
   ·rw[List.mem_append,List.mem_singleton]
    exact⟨fun h=>h.imp id fun h=>⟨h,hin⟩,fun h=>h.imp id fun h=>h.1⟩
   ·rcases hb26 j hj with h'|h'
    ·exact hbk j h'
    ·omega
  ·have hin:gM rows i i=false:=hin
   exact⟨.inl,fun h=>h.elim id fun h=>(by rw[hin] at h;cases h.2)⟩
 ·dsimp only at hge
  have hi':i=hs.length:=by omega
  subst hi'
  exact⟨so,ys,os,rfl,hA,hsr,hmem,hos,E7.trans eW⟩
def GoodP(x:CatD)(hs:List Nd):Prop:=HMay x hs/\∃r,FairR x hs r
theorem c33{w:World}{v:CatV}{x:CatD}{t:Sl}{hs:List Nd}(h:CatM w v x)(hH:Hst w t hs):
  Cw 33 #[cxV v,slV t] w fun r w'=>∃b,r=.bool b/\(b=true↔GoodP x hs)/\Ext w w':=by
 refine F33_ok v t w _ fun b1 w2 a2=>?_
 have e2:Ext w w2:=a2.ch _
 refine⟨v,cxN h a2.new (Ch.refl _ _),(c31 (h.ext e2) (hH.ext e2)).use ?_⟩
 rintro _ w7 ⟨r,rfl,hr,e7⟩
 have E7:=e2.trans e7
 refine⟨r,rfl,IfB.intro (fun h1=>⟨v,cxN h a2.new e7,(c39 (h.ext E7) (hH.ext E7) (hr.1 h1)).use ?_⟩) fun h1=>⟨false,rfl,⟨fun h=>(by cases h),fun h'=>?_⟩,E7⟩⟩
 ·rintro _ w13 ⟨s14,ys,os,rfl,hA,hsr,hmem,ho,e13⟩
  have hn:=ho.len
  rw[List.length_map,Nat.mul_one] at hn
  refine⟨s14,rfl,_,rfl,?_,E7.trans e13⟩
  rw[beq_iff_eq]
  have hM:=hr.1 h1
  unfold GoodP
  rw[<-acyc_iff hM hA]
  constructor
  ·intro h0
   refine⟨hM,fun i hi=>?_⟩
   have hos:os=[]:=List.eq_nil_of_length_eq_zero (by omega)
   have:=(hmem i).2 ⟨(TC.lt hi).1,hi⟩
   rw[hos] at this;cases this
  ·rintro⟨_,h0⟩
   have hos:os=[]:=by
    cases os with
    | nil=>rfl
    | cons a os=>exact absurd ((hmem a).1 (by simp)).2 (h0 a)
   have hn:s14.n=0:=by rw[<-hn,hos];rfl
   rw[hn];rfl
 ·have h1:r=false:=h1
  rw[hr.2 h'.1] at h1;cases h1
abbrev Cg(hs ks:List Nd):Prop:=hs.map dOf=ks.map dOf
section
variable {hs ks:List Nd} {x:CatD}
theorem Cg.len(h:Cg hs ks):hs.length=ks.length:=by have:=congrArg List.length h;simpa using this
theorem Cg.get(h:Cg hs ks){i:Nat}{a:Nd}(ha:hs[i]? =some a):∃b,ks[i]? =some b/\dOf a=dOf b:=by
 have:=congrArg (·[i]?) h
 simp only[List.getElem?_map,ha,Option.map_some] at this
 cases hb:ks[i]? with
 | none=>rw[hb] at this;cases this
 | some b=>rw[hb] at this;exact⟨b,rfl,Option.some.inj this⟩
theorem Cg.snoc{a b:Nd}(h:Cg hs ks)(e:dOf a=dOf b):Cg (hs++[a]) (ks++[b]):=by
 show List.map _ _=List.map _ _
 rw[List.map_append,List.map_append,h];simp[e]
theorem dOf_iff{a b:Nd}:dOf a=dOf b↔a.v.1=b.v.1/\a.v.2.1=b.v.2.1/\a.v.2.2.1=b.v.2.2.1/\a.v.2.2.2.1=b.v.2.2.2.1/\a.rs=b.rs/\a.ws=b.ws:=by
 unfold dOf
 simp only[Prod.mk.injEq]
theorem dirP.cg{a b a' b':Nd}(ha:dOf a=dOf a')(hb:dOf b=dOf b')(h:dirP a b):dirP a' b':=by
 obtain⟨a1,_,_,_,a5,a6⟩:=dOf_iff.1 ha
 obtain⟨b1,_,_,_,b5,b6⟩:=dOf_iff.1 hb
 unfold dirP cnfP at h ⊢
 rw[<-a1,<-b1,<-a5,<-a6,<-b5,<-b6];exact h
theorem EdP.cg(h:Cg hs ks){i k:Nat}(e:EdP hs i k):EdP ks i k:=by
 obtain⟨hl,a,b,ha,hb,hd⟩:=e
 obtain⟨a',ha',ea⟩:=h.get ha
 obtain⟨b',hb',eb⟩:=h.get hb
 exact⟨hl,a',b',ha',hb',hd.cg ea eb⟩
theorem Dp.cg(h:Cg hs ks){i k:Nat}(d:Dp hs i k):Dp ks i k:=by
 induction d with
 | one e=>exact .one (e.cg h)
 | more _ e ih=>exact .more ih (e.cg h)
theorem InP.cg(h:Cg hs ks){i k:Nat}{d:Int}(p:InP x hs i k d):InP x ks i k d:=by
 rcases p with e|⟨a,b,ha,hb,h1,h2,h3,h4⟩
 ·exact .inl e
 ·obtain⟨a',ha',ea⟩:=h.get ha
  obtain⟨b',hb',eb⟩:=h.get hb
  obtain⟨a1,a2,a3,a4,_,_⟩:=dOf_iff.1 ea
  obtain⟨b1,b2,b3,b4,_,_⟩:=dOf_iff.1 eb
  exact .inr ⟨a',b',ha',hb',by rw[<-a1,<-b1,h1],by rw[<-a4,h2],by rw[<-b4,h3],by rw[<-a2,<-a3,<-b3,h4]⟩
theorem FstP.cg(h:Cg hs ks){i f:Nat}{d:Int}(p:FstP x hs i d f):FstP x ks i d f:=⟨p.1.cg h,fun k hk=>p.2 k (hk.cg h.symm)⟩
theorem LstP.cg(h:Cg hs ks){i f:Nat}{d:Int}(p:LstP x hs i d f):LstP x ks i d f:=⟨p.1.cg h,fun k hk=>p.2 k (hk.cg h.symm)⟩
theorem ownL.cg(h:Cg hs ks)(s:Int):Cg (ownL hs s) (ownL ks s):=by
 have:∀l:List Nd,(ownL l s).map dOf=(l.map dOf).filter fun d=>d.1 == s:=fun l=>by
  unfold ownL
  rw[List.filter_map];rfl
 show List.map _ _=List.map _ _
 rw[this,this,h]
theorem Cg.take(h:Cg hs ks)(m:Nat):Cg (hs.take m) (ks.take m):=by
 show List.map _ _=List.map _ _
 rw[List.map_take,List.map_take,h]
theorem lastOwn.cg(h:Cg hs ks)(i:Nat)(s:Int):(lastOwn hs i s).map dOf=(lastOwn ks i s).map dOf:=by
 have:=ownL.cg (h.take i) s
 unfold lastOwn
 rw[<-List.getLast?_map,<-List.getLast?_map,this]
theorem nextP.cg{o o':Option Nd}{n n':Nd}{k:Int}(ho:o.map dOf=o'.map dOf)(hn:dOf n=dOf n')(h:nextP o n k):nextP o' n' k:=by
 obtain⟨n1,n2,n3,n4,_,_⟩:=dOf_iff.1 hn
 cases o with
 | none=>
  cases o' with
  | none=>unfold nextP at h ⊢;dsimp only at h ⊢;rw[<-n3,<-n4];exact h
  | some m'=>cases ho
 | some m=>
  cases o' with
  | none=>cases ho
  | some m'=>
   obtain⟨m1,m2,m3,m4,_,_⟩:=dOf_iff.1 (Option.some.inj ho)
   unfold nextP at h ⊢
   dsimp only at h ⊢
   rw[<-n2,<-n3,<-n4,<-m2,<-m3,<-m4];exact h
theorem HMay.cg(h:Cg hs ks)(p:HMay x hs):HMay x ks:=by
 refine⟨p.cat,by rw[<-h.len];exact p.len,fun i n hn=>?_⟩
 obtain⟨a,ha,e⟩:=Cg.get h.symm hn
 have o:=p.ok i a ha
 obtain⟨a1,a2,a3,a4,a5,a6⟩:=dOf_iff.1 e
 refine⟨by rw[a1];exact o.s0,by rw[a2];exact o.c0,by rw[a2];exact o.cn,by rw[a3];exact o.st0,by rw[a5];exact o.rs,by rw[a6];exact o.ws,?_⟩
 rw[a2]
 exact nextP.cg (by rw[a1];exact lastOwn.cg h i a.v.1) e.symm o.nx
theorem OwnA.cg(h:Cg hs ks){i:Nat}{xs:List ArcD}(p:OwnA hs i xs):OwnA ks i xs:=by
 obtain⟨n,hn,hp⟩:=p
 obtain⟨n',hn',en⟩:=h.get hn
 have e1:=(dOf_iff.1 en).1
 refine⟨n',hn',hp.imp (fun⟨h1,h2⟩=>⟨h1,fun k m hk hm=>?_⟩) fun⟨k,m,hk,hm,h1,h2,h3⟩=>?_⟩
 ·obtain⟨m',hm',em⟩:=Cg.get h.symm hm
  rw[(dOf_iff.1 em).1,<-e1];exact h2 k m' hk hm'
 ·obtain⟨m',hm',em⟩:=h.get hm
  refine⟨k,m',hk,hm',by rw[<- (dOf_iff.1 em).1,<-e1];exact h1,h2,fun j q g1 g2 hq=>?_⟩
  obtain⟨q',hq',eq⟩:=Cg.get h.symm hq
  rw[(dOf_iff.1 eq).1,<-e1];exact h3 j q' g1 g2 hq'
theorem BtwP.cg(h:Cg hs ks){a b:Nat}{xs:List ArcD}(p:BtwP x hs a b xs):BtwP x ks a b xs:=by
 obtain⟨na,nb,l,f,ha,hb,h1,h2,h3⟩:=p
 obtain⟨na',ha',ea⟩:=h.get ha
 obtain⟨nb',hb',eb⟩:=h.get hb
 exact⟨na',nb',l,f,ha',hb',by rw[<- (dOf_iff.1 eb).2.1];exact h1.cg h,by rw[<- (dOf_iff.1 ea).2.1];exact h2.cg h,h3⟩
theorem ArcI.cg(h:Cg hs ks){i:Nat}{e:ArcD}(p:ArcI x hs i e):ArcI x ks i e:=by
 rcases p with ⟨xs,h1,h2⟩|⟨k,xs,h1,⟨a,b,ha,hb,hne⟩,h3,h4⟩
 ·exact .inl ⟨xs,h1.cg h,h2⟩
 ·obtain⟨a',ha',ea⟩:=h.get ha
  obtain⟨b',hb',eb⟩:=h.get hb
  exact .inr ⟨k,xs,h1.cg h,⟨a',b',ha',hb',by rw[<- (dOf_iff.1 ea).1,<- (dOf_iff.1 eb).1];exact hne⟩,h3.cg h,h4⟩
theorem ArcIn.cg(h:Cg hs ks){e:ArcD}(p:ArcIn x hs e):ArcIn x ks e:=by
 obtain⟨i,hi,p⟩:=p
 exact⟨i,by rw[<-h.len];exact hi,p.cg h⟩
theorem ArcE.cg(h:Cg hs ks){a b:Nat}(p:ArcE x hs a b):ArcE x ks a b:=p.imp fun c hc=>hc.cg h
theorem ArcsP.cg(h:Cg hs ks){ys:List ArcD}(p:ArcsP x hs ys):ArcsP x ks ys:=
 ⟨p.srt,fun hM e=>(p.mem (hM.cg h.symm) e).trans ⟨fun q=>q.cg h,fun q=>q.cg h.symm⟩,fun hM=>p.no fun h'=>hM (h'.cg h)⟩
theorem RowOf.cg(h:Cg hs ks){i:Nat}{xs:List Int}(p:RowOf hs i xs):RowOf ks i xs:=⟨p.srt,fun k=>(p.mem k).trans ⟨fun⟨k',e,d⟩=>⟨k',e,d.cg h⟩,fun⟨k',e,d⟩=>⟨k',e,d.cg h.symm⟩⟩⟩
theorem FairR.cg(h:Cg hs ks){r:Nat->Nat}(p:FairR x hs r):FairR x ks r:=by
 refine⟨fun i j hi hj=>p.inj i j (by rw[h.len];exact hi) (by rw[h.len];exact hj),fun i k e=>p.keep i k (e.cg h.symm),fun o a b u no na ho ha hne h1 h2 h3 h4 h5=>?_⟩
 obtain⟨no',ho',eo⟩:=Cg.get h.symm ho
 obtain⟨na',ha',ea⟩:=Cg.get h.symm ha
 have c:=(dOf_iff.1 eo).2.1
 exact p.fair o a b u no' na' ho' ha' (by rw[<- (dOf_iff.1 ea).1,<- (dOf_iff.1 eo).1];exact hne) (by rw[<-c];exact h1.cg h.symm) h2 h3 (by rw[<-c];exact h4.cg h.symm) (h5.imp (fun d=>d.cg h.symm) fun d=>d.cg h.symm)
theorem GoodP.cg(h:Cg hs ks)(p:GoodP x hs):GoodP x ks:=⟨p.1.cg h,p.2.imp fun r hr=>hr.cg h⟩
end
theorem SlR.mk{w:World}{e:Ty}{s:Sl}{l:List e.den}{css:List (List Value)}(hl:css.length=l.length)(hr:∀(i:Nat) c x,css[i]? =some c->l[i]? =some x->rep (fun _=>True) w e x c)(hR:Rd w s e.sz css.flatten)(hn:s.n=l.length)(hc:s.n<=s.c)(hm:s.n<=maxLen):SlR w e s l:=
 ⟨s,rfl,hn,hc,hm,fun _ _ _=>trivial,css,hl,hr,hR⟩
theorem rdBlk{w:World}{b n sz:Nat}{arr:Array Value}{T:TypeId}{cs:List Value}(h:w.heap[b]? =some (.cells arr T (0,0)))(hs:arr.toList=cs)(hl:cs.length=n*sz):Rd w ⟨some ⟨b,0,none⟩,n,n⟩ sz cs:=
 ⟨hl,hl,cellsAt_of h fun i v hv=>by rw[Nat.zero_add,<-Array.getElem?_toList,hs];exact hv⟩
abbrev strA:ByteArray:=ByteArray.mk (Array.mk [(97:UInt8)])
abbrev insA:InsD:=(5,0,0,0,(0,0),(0,0),0)
abbrev stpA:StpD:=([insA],[])
abbrev clsA:ClsD:=(strA,0,[stpA,stpA],[([],[]),([],[])],false)
abbrev catA:CatD:=([clsA],List.replicate 16 0)
theorem insA_ok:InsOk insA 0:=⟨by decide,by decide,by decide,by decide,by decide,by decide,by decide,by decide,by decide,by decide,fun h=>absurd h (by decide),fun h=>absurd h (by decide)⟩
theorem stpA_ok:CodeOk stpA.1 0/\FootOk stpA.2 0:=
 ⟨⟨by decide,by decide,by decide,by decide,fun x hx=>by rw[List.mem_singleton.1 hx];exact insA_ok⟩,by decide,by decide,by decide,fun s hs=>by cases hs⟩
theorem clsA_ok:ClsOk clsA:=by
 refine⟨by decide,by decide,by decide,by decide,by decide,by decide,rfl,fun s hs=>?_,fun s hs=>?_⟩
 ·simp only[List.mem_cons,List.not_mem_nil,or_false] at hs
  rcases hs with rfl|rfl<;>exact stpA_ok
 ·simp only[List.mem_cons,List.not_mem_nil,or_false] at hs
  rcases hs with rfl|rfl<;>exact⟨.inl rfl,by decide,by decide,by decide,fun s hs=>by cases hs⟩
theorem brkA(c d:Nat):brk catA c d=0:=by
 unfold brk
 dsimp only
 rw[List.getD_eq_getElem?_getD,List.getElem?_replicate]
 split<;>rfl
theorem catA_ok:CatOk catA:=by
 refine⟨by decide,by decide,fun c hc=>?_,fun i k a b hk ha hb=>?_,fun c d hc hd=>?_⟩
 ·rw[List.mem_singleton.1 hc];exact clsA_ok
 ·have:=get_lt ha
  have h1:catA.1.length=1:=rfl
  omega
 ·rw[brkA]
  refine⟨Int.le_refl _,?_⟩
  unfold topB
  split
  ·exact Int.pow_pos (by decide)
  ·decide
theorem brkBA(c d i:Nat):brkB catA c d i=false:=by
 unfold brkB
 rw[brkA]
 simp
theorem rep_insA(w:World):rep (fun _=>True) w tyIns insA (insC insA):=
 ⟨[_],_,rfl,⟨rfl,by decide⟩,[_],_,rfl,⟨rfl,by decide⟩,[_],_,rfl,⟨rfl,by decide⟩,[_],_,rfl,⟨rfl,by decide⟩,[_,_],_,rfl,⟨[_],[_],rfl,⟨rfl,by decide⟩,rfl,by decide⟩,[_,_],_,rfl,⟨[_],[_],rfl,⟨rfl,by decide⟩,rfl,by decide⟩,rfl,by decide⟩
theorem one_le_max:1<=maxLen:=by decide+kernel
theorem two_le_max:2<=maxLen:=by decide+kernel
theorem SlR.nil(w:World)(e:Ty):SlR w e ⟨none,0,0⟩ []:=
 SlR.mk (css:=[]) rfl (fun i c x h=>by cases h) (OwS.nil w e.sz).rd rfl (Nat.le_refl _) (Nat.zero_le _)
theorem SlR.one{w:World}{e:Ty}{b:Nat}{x:e.den}{c:List Value}{T:TypeId}(hb:w.heap[b]? =some (.cells c.toArray T (0,0)))(hx:rep (fun _=>True) w e x c):SlR w e ⟨some ⟨b,0,none⟩,1,1⟩ [x]:=by
 refine SlR.mk (css:=[c]) rfl (fun i c' x' hc hx'=>?_) (rdBlk hb (by simp) (by have:=rep_len hx;simp;omega)) rfl (Nat.le_refl _) one_le_max
 cases i with
 | zero=>cases hc;cases hx';exact hx
 | succ i=>cases hc
theorem SlR.two{w:World}{e:Ty}{b:Nat}{x y:e.den}{c d:List Value}{T:TypeId}(hb:w.heap[b]? =some (.cells (c++d).toArray T (0,0)))(hx:rep (fun _=>True) w e x c)(hy:rep (fun _=>True) w e y d):SlR w e ⟨some ⟨b,0,none⟩,2,2⟩ [x,y]:=by
 refine SlR.mk (css:=[c,d]) rfl (fun i c' x' hc hx'=>?_) (rdBlk hb (by simp) (by have:=rep_len hx;have:=rep_len hy;simp;omega)) rfl (Nat.le_refl _) two_le_max
 match i,hc,hx' with
 | 0,hc,hx'=>cases hc;cases hx';exact hx
 | 1,hc,hx'=>cases hc;cases hx';exact hy
theorem catA_mem{w:World}{b1 b8 b10 b12:Nat}{T1 T8 T10 T12:TypeId}(h1:w.heap[b1]? =some (.cells (insC insA).toArray T1 (0,0)))
  (h8:w.heap[b8]? =some (.cells #[slV ⟨some ⟨b1,0,none⟩,1,1⟩,slV ⟨none,0,0⟩,slV ⟨some ⟨b1,0,none⟩,1,1⟩,slV ⟨none,0,0⟩] T8 (0,0)))
  (h10:w.heap[b10]? =some (.cells { toList:=zc #[slV ⟨none,0,0⟩,slV ⟨none,0,0⟩] 2 } T10 (0,0)))
  (h12:w.heap[b12]? =some (.cells (clsC (strA,0,⟨some ⟨b8,0,none⟩,2,2⟩,⟨some ⟨b10,0,none⟩,2,2⟩,false)).toArray T12 (0,0))):
  CatM w (⟨some ⟨b12,0,none⟩,1,1⟩,List.replicate 16 (.int .i64 0)) catA:=by
 have r1:rep (fun _=>True) w tyStp stpA [slV ⟨some ⟨b1,0,none⟩,1,1⟩,slV ⟨none,0,0⟩]:=⟨[_],[_],rfl,SlR.one h1 (rep_insA w),SlR.nil w tySpT⟩
 have r0:rep (fun _=>True) w tyStp ([],[]) [slV ⟨none,0,0⟩,slV ⟨none,0,0⟩]:=⟨[_],[_],rfl,SlR.nil w tyIns,SlR.nil w tySpT⟩
 have hz:zc #[slV ⟨none,0,0⟩,slV ⟨none,0,0⟩] 2=[slV ⟨none,0,0⟩,slV ⟨none,0,0⟩]++[slV ⟨none,0,0⟩,slV ⟨none,0,0⟩]:=by
  rw[zc_all (v:=slV ⟨none,0,0⟩) (by intro x hx;simpa using hx)];rfl
 rw[hz] at h10
 have rc:rep (fun _=>True) w tyCls clsA (clsC (strA,0,⟨some ⟨b8,0,none⟩,2,2⟩,⟨some ⟨b10,0,none⟩,2,2⟩,false)):=
  ⟨[_],_,rfl,⟨rfl,one_le_max⟩,[_],_,rfl,⟨rfl,by decide⟩,[_],_,rfl,SlR.two (e:=tyStp) (c:=[_,_]) (d:=[_,_]) h8 r1 r1,[_],_,rfl,SlR.two (e:=tyStp) (c:=[_,_]) (d:=[_,_]) h10 r0 r0,rfl⟩
 exact⟨SlR.one h12 rc,rfl,rfl,fun n hn=>by rw[(List.mem_replicate.1 hn).2];omega⟩
def closedD(x:CatD):CatD:=(x.1,List.replicate 16 0)
theorem rep_one{A:Nat->Prop}{w:World}:∀ {t:Ty}{x:t.den}{cs:List Value},rep A w t x cs->One cs
 | .int _,_,_,h=>by rw[h.1];intro v hv;rw[List.mem_singleton.1 hv];rfl
 | .bool,_,_,h=>by rw[show _=_ from h];intro v hv;rw[List.mem_singleton.1 hv];rfl
 | .str,_,_,h=>by rw[h.1];intro v hv;rw[List.mem_singleton.1 hv];rfl
 | .pair a b,_,_,h=>by
  obtain⟨c,d,rfl,h1,h2⟩:=h
  exact One.append (rep_one h1) (rep_one h2)
 | .sl e,_,_,h=>by obtain⟨s,rfl,_⟩:=h;intro v hv;rw[List.mem_singleton.1 hv];rfl
 | .arr n e,l,_,h=>by
  obtain⟨hn,css,hl,hr,rfl⟩:=h
  intro v hv
  obtain⟨c,hc,hv⟩:=List.mem_flatten.1 hv
  obtain⟨i,hi,rfl⟩:=List.getElem_of_mem hc
  exact rep_one (hr i _ _ (List.getElem?_eq_getElem hi) (List.getElem?_eq_getElem (by omega))) v hv
def flatT:Ty->Bool
 | .pair a b=>flatT a&&flatT b
 | .sl _=>false
 | .arr _ e=>flatT e
 | _=>true
theorem rep_flat{A B:Nat->Prop}{w w':World}:∀ {t:Ty}{x:t.den}{cs:List Value},flatT t=true->rep A w t x cs->rep B w' t x cs
 | .int _,_,_,_,h=>h
 | .bool,_,_,_,h=>h
 | .str,_,_,_,h=>h
 | .pair a b,_,_,hf,h=>by
  obtain⟨c,d,rfl,h1,h2⟩:=h
  unfold flatT at hf
  rw[Bool.and_eq_true] at hf
  exact⟨c,d,rfl,rep_flat hf.1 h1,rep_flat hf.2 h2⟩
 | .arr n e,l,_,hf,h=>by
  obtain⟨hn,css,hl,hr,rfl⟩:=h
  exact⟨hn,css,hl,fun i c x hc hx=>rep_flat (t:=e) hf (hr i c x hc hx),rfl⟩
abbrev RS(A:Nat->Prop)(w:World)(e:Ty)(s:Sl)(l:List e.den):Prop:=rep A w (.sl e) l [slV s]
theorem RS.mk{A:Nat->Prop}{w:World}{e:Ty}{s:Sl}{l:List e.den}{css:List (List Value)}(hl:css.length=l.length)(hr:∀(i:Nat) c x,css[i]? =some c->l[i]? =some x->rep A w e x c)(hR:Rd w s e.sz css.flatten)(hn:s.n=l.length)(hc:s.n<=s.c)(hm:s.n<=maxLen)(hA:∀i∈blk s,A i):RS A w e s l:=
 ⟨s,rfl,hn,hc,hm,fun _=>hA,css,hl,hr,hR⟩
theorem RS.mono{A B:Nat->Prop}{w:World}{e:Ty}{s:Sl}{l:List e.den}(h:RS A w e s l)(hB:∀i,A i->B i):RS B w e s l:=rep_mono hB h
theorem RS.all{A:Nat->Prop}{w:World}{e:Ty}{s:Sl}{l:List e.den}(h:RS A w e s l):SlR w e s l:=rep_mono (fun _ _=>trivial) h
theorem RS.ch{A F:Nat->Prop}{w w':World}{e:Ty}{s:Sl}{l:List e.den}(h:RS A w e s l)(hc:Ch F w w')(hF:∀i,A i->¬F i):RS A w' e s l:=rep_ch hc hF h
theorem SlR.copy{w:World}{e:Ty}{s:Sl}{l:List e.den}(h:SlR w e s l)(hf:flatT e=true):∃cs,Rd w s e.sz cs/\One cs/\∀(A:Nat->Prop) w' t',OwS w' t' e.sz cs->t'.n=s.n->(∀i∈blk t',A i)->RS A w' e t' l:=by
 obtain⟨css,h1,h2,h3⟩:=h.rd
 have hn:=h.n
 have hc:=h.cap
 refine⟨_,h3,fun v hv=>?_,fun A w' t' ho hn' hA=>RS.mk h1 (fun i c x hc hx=>rep_flat hf (h2 i c x hc hx)) ho.rd (by omega) ho.cap (by omega) hA⟩
 obtain⟨c,hc,hv⟩:=List.mem_flatten.1 hv
 obtain⟨i,hi,rfl⟩:=List.getElem_of_mem hc
 exact rep_one (h2 i _ _ (List.getElem?_eq_getElem hi) (List.getElem?_eq_getElem (by omega))) v hv
theorem flatMap_flat{α:Type}(f:α->List Value)(l:List α):(l.map f).flatten=l.flatMap f:=by rw[List.flatMap_def]
theorem le_max{n:Nat}(h:n<=1000000):n<=maxLen:=Nat.le_trans h (by decide+kernel)
abbrev StpN(A:Nat->Prop)(w:World)(s:Sl×Sl)(x:StpD):Prop:=RS A w tyIns s.1 x.1/\RS A w tySpT s.2 x.2
theorem rep_stpN{A:Nat->Prop}{w:World}{x:StpD}{cs:List Value}(h:rep A w tyStp x cs):∃s:Sl×Sl,cs=stC s/\StpN A w s x:=by
 obtain⟨c,d,rfl,h1,h2⟩:=h
 obtain⟨s,rfl,_⟩:=id h1
 obtain⟨t,rfl,_⟩:=id h2
 exact⟨(s,t),rfl,h1,h2⟩
theorem RS.steps{A:Nat->Prop}{w:World}{s:Sl}{l:List StpD}(h:RS A w tyStp s l):∃ss:List (Sl×Sl),ss.length=l.length/\Rd w s 2 (ss.flatMap stC)/\∀(i:Nat) y x,ss[i]? =some y->l[i]? =some x->StpN A w y x:=by
 obtain⟨t,ns,ht,h1,h2,h3,h4,h5,h6⟩:=rep_list (f:=stC) (Q:=fun x n=>StpN A w n x) h fun x _ c hc=>rep_stpN hc
 have:=slEq ht;subst this
 exact⟨ns,h2,h1,fun i y x hy hx=>h6 i x y hx hy⟩
theorem RS.mkSteps{A:Nat->Prop}{w:World}{s:Sl}{l:List StpD}{ss:List (Sl×Sl)}(hl:ss.length=l.length)(ho:OwS w s 2 (ss.flatMap stC))(hm:l.length<=1000000)(hr:∀(i:Nat) y x,ss[i]? =some y->l[i]? =some x->StpN A w y x)(hA:∀i∈blk s,A i):RS A w tyStp s l:=by
 have h1:=ho.len
 have h2:(ss.flatMap stC).length=ss.length*2:=flatLen stC_len _
 have h3:s.n=l.length:=by omega
 refine RS.mk (css:=ss.map stC) (by simp[hl]) (fun i c x hc hx=>?_) (by rw[flatMap_flat];exact ho.rd) h3 ho.cap (le_max (by omega)) hA
 rw[List.getElem?_map] at hc
 obtain⟨y,hy,rfl⟩:=Option.map_eq_some_iff.1 hc
 obtain⟨g1,g2⟩:=hr i y x hy hx
 exact⟨[_],[_],rfl,g1,g2⟩
structure ClsN(A:Nat->Prop)(w:World)(v:ClsV)(x:ClsD):Prop where
 nm:v.1=x.1
 ar:v.2.1=x.2.1
 st:RS A w tyStp v.2.2.1 x.2.2.1
 co:RS A w tyStp v.2.2.2.1 x.2.2.2.1
 re:v.2.2.2.2=x.2.2.2.2
 sz:x.1.size<=maxLen
theorem ClsN.ch{A F:Nat->Prop}{w w':World}{v:ClsV}{x:ClsD}(h:ClsN A w v x)(hc:Ch F w w')(hF:∀i,A i->¬F i):ClsN A w' v x:=⟨h.nm,h.ar,h.st.ch hc hF,h.co.ch hc hF,h.re,h.sz⟩
theorem ClsN.ext{A:Nat->Prop}{w w':World}{v:ClsV}{x:ClsD}(h:ClsN A w v x)(e:Ext w w'):ClsN A w' v x:=h.ch e fun _ _=>id
theorem rep_clsN{A:Nat->Prop}{w:World}{x:ClsD}{cs:List Value}(h:rep A w tyCls x cs):∃v:ClsV,cs=clsC v/\ClsN A w v x:=by
 obtain⟨c1,d1,rfl,⟨rfl,hz⟩,c2,d2,rfl,⟨rfl,_⟩,c3,d3,rfl,h3,c4,d4,rfl,h4,h5⟩:=h
 have h5:d4=[.bool x.2.2.2.2]:=h5
 subst h5
 obtain⟨s,e3,_⟩:=id h3
 obtain⟨t,e4,_⟩:=id h4
 subst e3;subst e4
 exact⟨(x.1,x.2.1,s,t,x.2.2.2.2),rfl,rfl,rfl,h3,h4,rfl,hz⟩
theorem RS.classes{A:Nat->Prop}{w:World}{s:Sl}{l:List ClsD}(h:RS A w tyCls s l):∃vs:List ClsV,vs.length=l.length/\Rd w s 5 (vs.flatMap clsC)/\∀(i:Nat) y x,vs[i]? =some y->l[i]? =some x->ClsN A w y x:=by
 obtain⟨t,ns,ht,h1,h2,h3,h4,h5,h6⟩:=rep_list (f:=clsC) (Q:=fun x n=>ClsN A w n x) h fun x _ c hc=>rep_clsN hc
 have:=slEq ht;subst this
 exact⟨ns,h2,h1,fun i y x hy hx=>h6 i x y hx hy⟩
theorem RS.mkClasses{A:Nat->Prop}{w:World}{s:Sl}{l:List ClsD}{vs:List ClsV}(hl:vs.length=l.length)(ho:OwS w s 5 (vs.flatMap clsC))(hm:l.length<=1000000)(har:∀x∈l, -9223372036854775808<=x.2.1/\x.2.1<=9223372036854775807)(hr:∀(i:Nat) y x,vs[i]? =some y->l[i]? =some x->ClsN A w y x)(hA:∀i∈blk s,A i):RS A w tyCls s l:=by
 have h1:=ho.len
 have h2:(vs.flatMap clsC).length=vs.length*5:=flatLen clsC_len _
 have h3:s.n=l.length:=by omega
 refine RS.mk (css:=vs.map clsC) (by simp[hl]) (fun i c x hc hx=>?_) (by rw[flatMap_flat];exact ho.rd) h3 ho.cap (le_max (by omega)) hA
 rw[List.getElem?_map] at hc
 obtain⟨y,hy,rfl⟩:=Option.map_eq_some_iff.1 hc
 obtain⟨y1,y2,y3,y4,y5⟩:=y
 obtain⟨g1,g2,g3,g4,g5,g6⟩:=hr i _ x hy hx
 dsimp only at g1 g2 g3 g4 g5
 subst g1;subst g2;subst g5
 exact⟨[_],_,rfl,⟨rfl,g6⟩,[_],_,rfl,⟨rfl,har x (List.mem_of_getElem? hx)⟩,[_],_,rfl,g3,[_],_,rfl,g4,rfl⟩
def GxOUby0:ByteArray:=(ByteArray.mk (Array.mk ([] )))
set_option linter.unusedVariables false
set_option maxRecDepth 100000
def F147j1(R:RV)(s3:Sl)(y4:Nat->Int->World->Prop)(b6:Nat)(n7:Int)(w8:World):Prop:=IfB (decide (n7<(s3.n:Int))) (Qx s3.1 n7 (s3.2:Int) fun b11 b12=>∃(x13:Sl×Sl),CellsAt w8 b11 (b12+n7.toNat*2) [Qy x13.fst,Qy x13.snd]/\AllocP w8 (Obj.cells #[Value.slice none 0 0,Value.slice none 0 0] 99) fun b14 w15=>#[Qy x13.fst,Qy x13.snd].size=2/\StoreP w15 b14 0 [Qy x13.fst,Qy x13.snd] fun w16=>Qs w16.drew b14 (0+0) fun s17=>Qs w16.drew b14 (0+1) fun s18=>Qu' 196 #[Qy s17] w16.drew fun s21 w20=>w20.cell? ⟨b14,0+1,none⟩=some (Qy s18)/\Qu' 197 #[Qy s18] w20 fun s24 w23=>Qx s3.1 n7 (s3.2:Int) fun b25 b26=>#[Qy s21,Qy s24].size=2/\StoreP w23 b25 (b26+n7.toNat*2) [Qy s21,Qy s24] fun w27=>Qn y4 b6 (IntKind.i64.wrap (n7+1)) w27) (R (Qy s3) w8)
theorem F147_ok(t0:Sl)(w:World)(R:RV)(h:Cx 195 #[Qy t0] w fun v1 w2=>∃s3:Sl,v1=Qy s3/\Ql (α:=Int) 0 w2 fun y4 b6 n7 w8=>(F147j1 R s3 y4 b6 n7 w8)):Cw 147 #[Qy t0] w R:=
 ckF Tryz.func147 (nd (nd (.node (nd (.loop [(10,oi)] (rg [4,5,10,25]) (nd (nd (.node (nd (.draw (sts [0,1,2,3,5,6] (.ac 4 [6,5,1,0] (.ac 7 [1,0] (sts [8,9] (.ac 10 [] .fin .non)) .non) .non)))) .nil))))) .nil))) h (by kernel_rfl) (by kernel_rfl)
def F78k1(s10:Sl)(n14:Int)(w15:World)(b1:Nat)(b13:Nat)(y11:Nat->Int->World->Prop):Prop:=Qx s10.1 n14 (s10.2:Int) fun b18 b19=>∃(x20:ByteArray×Int×Sl×Sl×Bool),CellsAt w15 b18 (b19+n14.toNat*5) (lC49 x20)/\AllocP w15 (Obj.cells #[Value.string GxOUby0,Qz 0,Value.slice none 0 0,Value.slice none 0 0,Value.bool false] 49) fun b21 w22=>(lC49 x20).toArray.size=5/\StoreP w22 b21 0 (lC49 x20) fun w23=>Qs w23.drew b1 (0+0) fun s24=>Qs w23.drew b1 (0+0) fun s25=>Qs w23.drew b21 (0+2) fun s26=>Qs w23.drew b21 (0+3) fun s27=>Qu' 147 #[Qy s26] w23.drew fun s30 w29=>w29.cell? ⟨b21,0+3,none⟩=some (Qy s27)/\w29.cell? ⟨b1,0+0,none⟩=some (Qy s25)/\w29.cell? ⟨b1,0+0,none⟩=some (Qy s24)/\Qu' 147 #[Qy s27] w29 fun s33 w32=>w32.cell? ⟨b1,0+0,none⟩=some (Qy s25)/\w32.cell? ⟨b1,0+0,none⟩=some (Qy s24)/\Qx s24.1 n14 (s24.2:Int) fun b34 b35=>#[Qy s30].size=1/\StoreP w32 b34 (b35+n14.toNat*5+2) [Qy s30] fun w36=>w36.cell? ⟨b1,0+0,none⟩=some (Qy s25)/\Qx s25.1 n14 (s25.2:Int) fun b37 b38=>#[Qy s33].size=1/\StoreP w36 b37 (b38+n14.toNat*5+3) [Qy s33] fun w39=>Qn y11 b13 (IntKind.i64.wrap (n14+1)) w39
def F78j1(R:RV)(b1:Nat)(b3:Nat)(s10:Sl)(y11:Nat->Int->World->Prop)(b13:Nat)(n14:Int)(w15:World):Prop:=IfB (decide (n14<(s10.n:Int))) (F78k1 s10 n14 w15 b1 b13 y11) (∃(x41:Sl×List Value),CellsN w15 b1 0 17 (Qy x41.fst::x41.2)/\(Array.mk (Qy x41.fst::x41.2 )).size=17/\StoreP w15 b3 0 (Qy x41.fst::x41.2) fun w44=>∃(x45:Sl×List Value),CellsN w44 b3 0 17 (Qy x45.fst::x45.2)/\R (Value.agg { toList:=Qy x45.fst::x45.2 }) w44)
theorem F78_ok(t0:Sl×List Value)(w:World)(R:RV)(h:AllocP w (Obj.cells { toList:=Qy t0.fst::t0.2 } 26) fun b1 w2=>AllocP w2 (Obj.cells #[Value.slice none 0 0,Qz 0,Qz 0,Qz 0,Qz 0,Qz 0,Qz 0,Qz 0,Qz 0,Qz 0,Qz 0,Qz 0,Qz 0,Qz 0,Qz 0,Qz 0,Qz 0] 26) fun b3 w4=>Qs w4 b1 (0+0) fun s5=>Qu' 146 #[Qy s5] w4 fun s8 w7=>#[Qy s8].size=1/\StoreP w7 b1 (0+0) [Qy s8] fun w9=>Qs w9 b1 (0+0) fun s10=>Ql (α:=Int) 0 w9 fun y11 b13 n14 w15=>(F78j1 R b1 b3 s10 y11 b13 n14 w15)):Cw 78 #[Value.agg { toList:=Qy t0.fst::t0.2 }] w R:=
 ckF Tryz.func78 (nd (nd (.node (nd (.loop [(12,oi)] (rg [3,4,12,33]) (nd (nd (.node (nd (.draw (sts [0,1,2,3,4,5,6,7,9,10] (.ac 8 (rg [0,5,9,10]) (.ac 11 (rg [0,5]) (sts [12,13] (.ac 14 [5,4,3] (sts [15,16] (.ac 17 [] .fin .non)) .non)) .non) .non)))) .nil))))) .nil))) h (by kernel_rfl) (by kernel_rfl)
theorem F50_ok(t0:Sl×List Value)(w:World)(R:RV)(h:AllocP w (Obj.cells { toList:=Qy t0.fst::t0.2 } 26) fun b1 w2=>AllocP w2 (Obj.cells #[Value.slice none 0 0,Qz 0,Qz 0,Qz 0,Qz 0,Qz 0,Qz 0,Qz 0,Qz 0,Qz 0,Qz 0,Qz 0,Qz 0,Qz 0,Qz 0,Qz 0,Qz 0] 26) fun b3 w4=>∃(x5:Sl×List Value),CellsN w4 b1 0 17 (Qy x5.fst::x5.2)/\Cx 78 #[Value.agg { toList:=Qy x5.fst::x5.2 }] w4 fun v8 w9=>∃(x10:Sl×List Value),v8=Value.agg { toList:=Qy x10.fst::x10.2 }/\(Array.mk (Qy x10.fst::x10.2 )).size=17/\StoreP w9 b1 0 (Qy x10.fst::x10.2) fun w11=>#[Qz 0,Qz 0,Qz 0,Qz 0,Qz 0,Qz 0,Qz 0,Qz 0,Qz 0,Qz 0,Qz 0,Qz 0,Qz 0,Qz 0,Qz 0,Qz 0].size=16/\StoreP w11 b1 (0+1) [Qz 0,Qz 0,Qz 0,Qz 0,Qz 0,Qz 0,Qz 0,Qz 0,Qz 0,Qz 0,Qz 0,Qz 0,Qz 0,Qz 0,Qz 0,Qz 0] fun w12=>∃(x13:Sl×List Value),CellsN w12 b1 0 17 (Qy x13.fst::x13.2)/\(Array.mk (Qy x13.fst::x13.2 )).size=17/\StoreP w12 b3 0 (Qy x13.fst::x13.2) fun w16=>∃(x17:Sl×List Value),CellsN w16 b3 0 17 (Qy x17.fst::x17.2)/\R (Value.agg { toList:=Qy x17.fst::x17.2 }) w16):Cw 50 #[Value.agg { toList:=Qy t0.fst::t0.2 }] w R:=
 ckF Tryz.func50 .nil h (by kernel_rfl) (by kernel_rfl)
def F146(t0:Sl)(w:World)(R:RV):Prop:=IfB t0.1.isNone (R (Value.slice none 0 0) w) (0*5<=16777216/\AllocP w (Obj.cells #[] 49) fun b1 w2=>∃(l3:List Value),ReadC w2 t0.1 (t0.2*5) l3/\AppendP tt49 49 w2 (some ⟨b1,0,none⟩) 0 0 t0.2 l3 fun s4 w5=>R (Qy s4) w5)
theorem F146_ok(t0:Sl)(w:World)(R:RV)(h:F146 t0 w R):Cw 146 #[Qy t0] w R:=
 ckF Tryz.func146 .nil h (by kernel_rfl) (by kernel_rfl)
def F195(t0:Sl)(w:World)(R:RV):Prop:=IfB t0.1.isNone (R (Value.slice none 0 0) w) (0*2<=16777216/\AllocP w (Obj.cells #[] 99) fun b1 w2=>∃(l3:List Value),ReadC w2 t0.1 (t0.2*2) l3/\AppendP tt99 99 w2 (some ⟨b1,0,none⟩) 0 0 t0.2 l3 fun s4 w5=>R (Qy s4) w5)
theorem F195_ok(t0:Sl)(w:World)(R:RV)(h:F195 t0 w R):Cw 195 #[Qy t0] w R:=
 ckF Tryz.func195 .nil h (by kernel_rfl) (by kernel_rfl)
def F196(t0:Sl)(w:World)(R:RV):Prop:=IfB t0.1.isNone (R (Value.slice none 0 0) w) (0*9<=16777216/\AllocP w (Obj.cells #[] 95) fun b1 w2=>∃(l3:List Value),ReadC w2 t0.1 (t0.2*9) l3/\AppendP tt95 95 w2 (some ⟨b1,0,none⟩) 0 0 t0.2 l3 fun s4 w5=>R (Qy s4) w5)
theorem F196_ok(t0:Sl)(w:World)(R:RV)(h:F196 t0 w R):Cw 196 #[Qy t0] w R:=
 ckF Tryz.func196 .nil h (by kernel_rfl) (by kernel_rfl)
def F197(t0:Sl)(w:World)(R:RV):Prop:=IfB t0.1.isNone (R (Value.slice none 0 0) w) (0*5<=16777216/\AllocP w (Obj.cells #[] 217) fun b1 w2=>∃(l3:List Value),ReadC w2 t0.1 (t0.2*5) l3/\AppendP tt217 217 w2 (some ⟨b1,0,none⟩) 0 0 t0.2 l3 fun s4 w5=>R (Qy s4) w5)
theorem F197_ok(t0:Sl)(w:World)(R:RV)(h:F197 t0 w R):Cw 197 #[Qy t0] w R:=
 ckF Tryz.func197 .nil h (by kernel_rfl) (by kernel_rfl)
theorem flatPut{α:Type}{f:α->List Value}{sz:Nat}(hf:∀x,(f x).length=sz){x y:α}{k:Nat}{v:Value}(hk:k<sz)(hy:f y=(f x).set k v):∀ {l:List α}{i:Nat},l[i]? =some x->(l.flatMap f).set (i*sz+k) v=(l.set i y).flatMap f
 | [],_,h=>by cases h
 | a::l,0,h=>by
  cases h
  rw[List.set_cons_zero,List.flatMap_cons,List.flatMap_cons,Nat.zero_mul,Nat.zero_add,List.set_append_left _ _ (by rw[hf];exact hk),hy]
 | a::l,i+1,h=>by
  rw[List.set_cons_succ,List.flatMap_cons,List.flatMap_cons,List.set_append_right _ _ (by rw[hf,Nat.add_mul];omega),hf,Nat.add_mul,show i*sz+1*sz+k-sz=i*sz+k by omega,flatPut hf hk hy (l:=l) h]
theorem putOne{cs:List Value}{o:Nat}{v:Value}(h:o<cs.length):cs.take o++[v]++cs.drop (o+1)=cs.set o v:=by
 rw[List.set_eq_take_append_cons_drop,if_pos h];simp
theorem c146{w:World}{t:Sl}{cs:List Value}(h:Rd w t 5 cs)(h1:One cs)(hl:t.n<=1000000):Cw 146 #[slV t] w fun v w'=>∃t',v=slV t'/\OwS w' t' 5 cs/\t'.n=t.n/\Ext w w'/\∀i∈blk t',w.heap.size<=i:=by
 refine F146_ok t w _ ?_
 have e:∀R,F146 t w R=CloneF tt49 49 5 t w R:=fun _=>rfl
 rw[e]
 refine CloneF_of h rfl rfl h1 ⟨by omega,Nat.le_trans (Nat.mul_le_mul (show 2*t.n<=2000000 by omega) (show _<=1000 by decide)) (by decide)⟩ (fun s' w' h1 h2 h3 h4=>⟨s',rfl,h1,h2,h3,h4⟩) fun hp=>?_
 have h2:=h.2
 rw[hp] at h2
 have:cs=[]:=h2
 have h3:=h.1
 rw[this] at h3
 simp at h3;omega
theorem c195{w:World}{t:Sl}{cs:List Value}(h:Rd w t 2 cs)(h1:One cs)(hl:t.n<=1000000):Cw 195 #[slV t] w fun v w'=>∃t',v=slV t'/\OwS w' t' 2 cs/\t'.n=t.n/\Ext w w'/\∀i∈blk t',w.heap.size<=i:=by
 refine F195_ok t w _ ?_
 have e:∀R,F195 t w R=CloneF tt99 99 2 t w R:=fun _=>rfl
 rw[e]
 refine CloneF_of h rfl rfl h1 ⟨by omega,Nat.le_trans (Nat.mul_le_mul (show 2*t.n<=2000000 by omega) (show _<=1000 by decide)) (by decide)⟩ (fun s' w' h1 h2 h3 h4=>⟨s',rfl,h1,h2,h3,h4⟩) fun hp=>?_
 have h2:=h.2
 rw[hp] at h2
 have:cs=[]:=h2
 have h3:=h.1
 rw[this] at h3
 simp at h3;omega
theorem c196{w:World}{t:Sl}{cs:List Value}(h:Rd w t 9 cs)(h1:One cs)(hl:t.n<=1000000):Cw 196 #[slV t] w fun v w'=>∃t',v=slV t'/\OwS w' t' 9 cs/\t'.n=t.n/\Ext w w'/\∀i∈blk t',w.heap.size<=i:=by
 refine F196_ok t w _ ?_
 have e:∀R,F196 t w R=CloneF tt95 95 9 t w R:=fun _=>rfl
 rw[e]
 refine CloneF_of h rfl rfl h1 ⟨by omega,Nat.le_trans (Nat.mul_le_mul (show 2*t.n<=2000000 by omega) (show _<=1000 by decide)) (by decide)⟩ (fun s' w' h1 h2 h3 h4=>⟨s',rfl,h1,h2,h3,h4⟩) fun hp=>?_
 have h2:=h.2
 rw[hp] at h2
 have:cs=[]:=h2
 have h3:=h.1
 rw[this] at h3
 simp at h3;omega
theorem c197{w:World}{t:Sl}{cs:List Value}(h:Rd w t 5 cs)(h1:One cs)(hl:t.n<=1000000):Cw 197 #[slV t] w fun v w'=>∃t',v=slV t'/\OwS w' t' 5 cs/\t'.n=t.n/\Ext w w'/\∀i∈blk t',w.heap.size<=i:=by
 refine F197_ok t w _ ?_
 have e:∀R,F197 t w R=CloneF tt217 217 5 t w R:=fun _=>rfl
 rw[e]
 refine CloneF_of h rfl rfl h1 ⟨by omega,Nat.le_trans (Nat.mul_le_mul (show 2*t.n<=2000000 by omega) (show _<=1000 by decide)) (by decide)⟩ (fun s' w' h1 h2 h3 h4=>⟨s',rfl,h1,h2,h3,h4⟩) fun hp=>?_
 have h2:=h.2
 rw[hp] at h2
 have:cs=[]:=h2
 have h3:=h.1
 rw[this] at h3
 simp at h3;omega
theorem c147{w:World}{t:Sl}{l:List StpD}(h:StsR w t l)(hl:l.length<=1000)(hc:∀s∈l,s.1.length<=1000/\s.2.length<=1000):
  Cw 147 #[slV t] w fun v w'=>∃t',v=slV t'/\RS (fun j=>w.heap.size<=j) w' tyStp t' l/\Ext w w':=by
 obtain⟨ss,hsl,hrd,hss⟩:=RS.steps (rep_old (by decide) h)
 have hn:=h.n
 refine F147_ok t w _ ((c195 hrd (stC_all ss) (by omega)).use ?_)
 rintro _ w2 ⟨t3,rfl,ho,htn,e2,hb⟩
 have hbl:∀j∈blk t3,j<w2.heap.size:=ho.lt
 refine⟨t3,rfl,fun m x W=>∃(i:Nat)(zs:List (Sl×Sl)),i<=l.length/\m+i=l.length/\x=(i:Int)/\zs.length=l.length/\OwS W t3 2 (zs.flatMap stC)/\(∀(k:Nat) y x,zs[k]? =some y->l[k]? =some x->StpN (fun j=>j∉blk t3/\(k<i->w.heap.size<=j)) W y x)/\Ch (fun j=>j∈blk t3) w2 W,⟨l.length,0,ss,Nat.zero_le _,rfl,rfl,hsl,ho,fun k y x hy hx=>?_,Ch.refl _ _⟩,?_⟩
 ·obtain⟨g1,g2⟩:=hss k y x hy hx
  have hA:∀j,j<w.heap.size->j∉blk t3/\(k<0->w.heap.size<=j):=fun j hj=>⟨fun h=>by have:=hb j h;omega,fun h=>by omega⟩
  exact⟨(g1.ch e2 fun _ _=>id).mono hA,(g2.ch e2 fun _ _=>id).mono hA⟩
 rintro m _ W g ⟨i,zs,hi,hmi,rfl,hzl,hoz,hzs,hC⟩
 unfold F147j1
 refine IfB.dec (fun hlt=>?_) fun hge=>⟨t3,rfl,RS.mkSteps hzl hoz (by omega) (fun k y x hy hx=>?_) hb,e2.chN hC fun j hj=>hb j hj⟩
 ·have hi':i<l.length:=by omega
  have hx:l[i]? =some l[i]:=List.getElem?_eq_getElem hi'
  have hxm:l[i]∈l:=List.getElem_mem hi'
  have hy:zs[i]? =some (zs[i]'(by omega)):=List.getElem?_eq_getElem (by omega)
  generalize l[i]=x at hx hxm
  generalize zs[i]'_=y at hy
  obtain⟨g1,g2⟩:=hzs i y x hy hx
  obtain⟨hx1,hx2⟩:=hc x hxm
  obtain⟨b,o,hp,hcell⟩:=hoz.rd.elem (i:=i) (by omega) (by omega) (flatGet stC_len hy)
  refine⟨b,o,hp,⟨by omega,hlt⟩,y,by rw[Int.toNat_natCast];exact hcell,fun b14 w15 a15=>⟨rfl,store_all (vs:=stC y) a15.new rfl (stC_one y) fun w16 u16=>?_⟩⟩
  have ed:=extDrew w16
  have e16:Ext W w16.drew:=(Ext.fresh a15 u16).trans ed
  obtain⟨ca,ra,oa,ma⟩:=SlR.copy (g1.all.ext e16) (by decide)
  have na:=g1.all.n
  have nb:=g2.all.n
  refine⟨y.1,boxAt (cs:=stC y) u16.new 0 ed,y.2,boxAt (cs:=stC y) u16.new 1 ed,(c196 ra oa (by omega)).use ?_⟩
  rintro _ w20 ⟨s21,rfl,ho21,hn21,e20,hb21⟩
  obtain⟨cb,rb,ob,mb⟩:=SlR.copy ((g2.all.ext e16).ext e20) (by decide)
  refine⟨s21,rfl,boxAt (cs:=stC y) u16.new 1 (ed.trans e20),(c197 rb ob (by omega)).use ?_⟩
  rintro _ w23 ⟨s24,rfl,ho24,hn24,e23,hb24⟩
  have e23':Ext W w23:=(e16.trans e20).trans e23
  obtain⟨b',hp'⟩:=hoz.ptr (by omega)
  have hbb:b'∈blk t3:=by simp[blk,hp']
  have hz2:(zs.flatMap stC).length=l.length*2:=by rw[flatLen stC_len,hzl]
  refine⟨s24,rfl,b',0,hp',⟨by omega,hlt⟩,rfl,?_⟩
  rw[Int.toNat_natCast,Nat.zero_add]
  have zW:=e16.size;have z20:=e20.size;have z23:=e23.size;have zC:=hC.size;have z2:=e2.size
  refine(hoz.ext e23').store (vs:=stC (s21,s24)) hp' (by rw[stC_len];omega) (stC_one _) fun w27 ho27 hC27=>⟨rfl,m-1,by omega,i+1,zs.set i (s21,s24),hi',by omega,by rw[wrap_of (by omega) (by omega)];rfl,by rw[List.length_set,hzl],?_,fun k y' x' hy' hx'=>?_,(hC.trans (e23'.mono fun _ _ h=>h.elim)).trans (hC27.mono fun j _ hj=>by rw[hj];exact hbb)⟩
  ·rw[stC_len,flatSet stC_len (by omega)] at ho27
   exact ho27
  ·have keep:∀ {A:Nat->Prop}{e:Ty}{s:Sl}{q:List e.den},(∀j,A j->j∉blk t3)->RS A w23 e s q->RS A w27 e s q:=fun hA h=>RS.ch h hC27 fun j hj he=>hA j hj (by rw[he];exact hbb)
   rw[List.getElem?_set] at hy'
   by_cases hk:i=k
   ·subst hk
    rw[if_pos rfl,if_pos (by omega)] at hy'
    cases hy'
    rw[hx] at hx';cases hx'
    have n21:∀j∈blk s21,j∉blk t3/\(i<i+1->w.heap.size<=j):=fun j hj=>by
     have:=hb21 j hj
     exact⟨fun h=>by have:=hbl j h;omega,fun _=>by omega⟩
    have n24:∀j∈blk s24,j∉blk t3/\(i<i+1->w.heap.size<=j):=fun j hj=>by
     have:=hb24 j hj
     exact⟨fun h=>by have:=hbl j h;omega,fun _=>by omega⟩
    exact⟨keep (fun j hj=>hj.1) (ma _ w23 s21 (ho21.ext e23) hn21 n21),keep (fun j hj=>hj.1) (mb _ w23 s24 ho24 hn24 n24)⟩
   ·rw[if_neg hk] at hy'
    obtain⟨q1,q2⟩:=hzs k y' x' hy' hx'
    have up:∀j,(j∉blk t3/\(k<i->w.heap.size<=j))->j∉blk t3/\(k<i+1->w.heap.size<=j):=fun j hj=>⟨hj.1,fun h=>hj.2 (by omega)⟩
    exact⟨keep (fun j hj=>hj.1) ((q1.ch e23' fun _ _=>id).mono up),keep (fun j hj=>hj.1) ((q2.ch e23' fun _ _=>id).mono up)⟩
 ·have hk:k<l.length:=get_lt hx
  obtain⟨q1,q2⟩:=hzs k y x hy hx
  exact⟨q1.mono fun j hj=>hj.2 (by omega),q2.mono fun j hj=>hj.2 (by omega)⟩
theorem cxC_len{w:World}{v:CatV}{x:CatD}(h:CatM w v x):(cxC v).length=17:=by rw[List.length_cons,h.br,List.length_map,h.b16]
theorem cxC_one{w:World}{v:CatV}{x:CatD}(h:CatM w v x):One (cxC v):=by
 intro y hy
 rcases List.mem_cons.1 hy with rfl|hy
 ·rfl
 ·rw[h.br] at hy;obtain⟨n,_,rfl⟩:=List.mem_map.1 hy;rfl
theorem c78{w:World}{v:CatV}{x:CatD}(h:CatM w v x)(hk:CatOk x):
  Cw 78 #[cxV v] w fun r w'=>∃s:Sl,r=cxV (s,v.2)/\RS (fun j=>w.heap.size<=j) w' tyCls s x.1/\Ext w w':=by
 have h17:=cxC_len h
 have h1:=cxC_one h
 have hn:=h.cl.n
 have h4:=hk.n4
 obtain⟨vs,hvl,hrd,hvs⟩:=RS.classes (rep_old (by decide) h.cl)
 refine F78_ok v w _ fun b1 w2 a2 b3 w4 a4=>⟨v.1,boxAt (cs:=cxC v) a2.new 0 (a4.ch _),?_⟩
 have e2:Ext w w2:=a2.ch _
 have e4:Ext w2 w4:=a4.ch _
 have E4:=e2.trans e4
 have p2:=a2.here;have z2:=a2.size;have p4:=a4.here;have z4:=a4.size
 refine(c146 (hrd.ext E4) (flatOne clsC_one _) (by omega)).use ?_
 rintro _ w7 ⟨s8,rfl,ho,hsn,e7,hb⟩
 have z7:=e7.size
 refine⟨s8,rfl,rfl,storeC (e7.at (e4.at a2.new)) (by simp) (by simp) (by intro y hy;rw[List.mem_singleton.1 hy];rfl) fun w9 h9 c9=>?_⟩
 have hbl:∀j∈blk s8,j<w7.heap.size:=ho.lt
 have hb1:b1∉blk s8:=fun hj=>by have:=hb b1 hj;omega
 have hb3:b3∉blk s8:=fun hj=>by have:=hb b3 hj;omega
 have ho9:=ho.ch c9 fun j hj e=>hb1 (e ▸ hj)
 have E9:Ext w w9:=(E4.trans e7).chN c9 fun j hj=>by omega
 have B3:=c9.at (e7.at a4.new) (by omega)
 have H9:w9.heap[b1]? =some (.cells (cxC (s8,v.2)).toArray 26 (0,0)):=by
  rw[h9]
  show some (Obj.cells (spliceL (slV v.1::v.2) 0 [slV s8]).toArray _ _)=_
  simp[spliceL]
 have z9:=c9.size
 refine⟨s8,boxAt (cs:=cxC (s8,v.2)) H9 0 (Ch.refl _ _),fun m z W=>∃(i:Nat)(ys:List ClsV),i<=x.1.length/\m+i=x.1.length/\z=(i:Int)/\ys.length=x.1.length/\OwS W s8 5 (ys.flatMap clsC)/\(∀(k:Nat) y q,ys[k]? =some y->x.1[k]? =some q->ClsN (fun j=>j∉blk s8/\j≠b3/\(k<i->w.heap.size<=j)) W y q)/\Ch (fun j=>j∈blk s8) w9 W,⟨x.1.length,0,vs,Nat.zero_le _,rfl,rfl,hvl,ho9,fun k y q hy hq=>?_,Ch.refl _ _⟩,?_⟩
 ·obtain⟨g1,g2,g3,g4,g5,g6⟩:=(hvs k y q hy hq).ext E9
  have hA:∀j,j<w.heap.size->j∉blk s8/\j≠b3/\(k<0->w.heap.size<=j):=fun j hj=>⟨fun h=>by have:=hb j h;omega,by omega,fun h=>by omega⟩
  exact⟨g1,g2,g3.mono hA,g4.mono hA,g5,g6⟩
 rintro m _ W g ⟨i,ys,hi,hmi,rfl,hyl,hoy,hys,hC⟩
 unfold F78j1
 have B1:=hC.at H9 hb1
 have zC:=hC.size
 refine IfB.dec (fun hlt=>?_) fun hge=>?_
 ·have hi':i<x.1.length:=by omega
  have hx:x.1[i]? =some x.1[i]:=List.getElem?_eq_getElem hi'
  have hxm:x.1[i]∈x.1:=List.getElem_mem hi'
  have hy:ys[i]? =some (ys[i]'(by omega)):=List.getElem?_eq_getElem (by omega)
  have hqo:=hk.cls _ hxm
  generalize x.1[i]=q at hx hxm hqo
  generalize ys[i]'_=y at hy
  have hN:=hys i y q hy hx
  obtain⟨b,hp⟩:=hoy.ptr (by omega)
  have hbb:b∈blk s8:=by simp[blk,hp]
  obtain⟨b',hp',hcell⟩:=hoy.elem (i:=i) (by omega) (flatGet clsC_len hy)
  rw[hp] at hp';cases hp'
  have hbn:(0:Int)<=(i:Int)/\(i:Int)<(s8.n:Int):=⟨by omega,hlt⟩
  refine⟨b,0,hp,hbn,y,by rw[Int.toNat_natCast,Nat.zero_add];exact hcell,fun b21 w22 a22=>⟨rfl,store_all (vs:=clsC y) a22.new rfl (clsC_one y) fun w23 u23=>?_⟩⟩
  have ed:=extDrew w23
  have e23:Ext W w23.drew:=(Ext.fresh a22 u23).trans ed
  have z23:=e23.size
  have C1:=fun{V:World} (e:Ext w23.drew V)=>boxAt (cs:=cxC (s8,v.2)) B1 0 (e23.trans e)
  have C2:=fun{V:World} (k:Nat) (e:Ext w23.drew V)=>boxAt (cs:=clsC y) u23.new k (ed.trans e)
  refine⟨s8,C1 (Ch.refl _ _),s8,C1 (Ch.refl _ _),y.2.2.1,C2 2 (Ch.refl _ _),y.2.2.2.1,C2 3 (Ch.refl _ _),(c147 ((hN.st.all).ext e23) (by have:=hqo.l4;omega) fun s hs=>?_).use ?_⟩
  ·have:=(hqo.st s hs).1.l8;have:=(hqo.st s hs).2.l4;omega
  rintro _ w29 ⟨s30,rfl,hr30,e29⟩
  have z29:=e29.size
  refine⟨s30,rfl,C2 3 e29,C1 e29,C1 e29,(c147 (((hN.co.all).ext e23).ext e29) (by have:=hqo.l4;have:=hqo.cl;omega) fun s hs=>?_).use ?_⟩
  ·have hco:=hqo.co s hs
   have h2:=hco.2.l4
   rcases hco.1 with h1|⟨h1,_⟩
   ·rw[h1];exact⟨by simp,by omega⟩
   ·have:=h1.l8;omega
  rintro _ w32 ⟨s33,rfl,hr33,e32⟩
  have z32:=e32.size
  have e32':Ext W w32:=(e23.trans e29).trans e32
  have hyz:(ys.flatMap clsC).length=x.1.length*5:=by rw[flatLen clsC_len,hyl]
  have one:∀s:Sl,One [slV s]:=fun s v hv=>by rw[List.mem_singleton.1 hv];rfl
  refine⟨s33,rfl,C1 (e29.trans e32),C1 (e29.trans e32),b,0,hp,hbn,rfl,?_⟩
  rw[Int.toNat_natCast,Nat.zero_add]
  have h5:i*5+5<=x.1.length*5:=by omega
  have ho32:=hoy.ext e32'
  refine ho32.store (vs:=[slV s30]) hp (by simp;omega) (one _) fun w36 ho36 hC36=>?_
  rw[List.length_singleton,putOne (by omega),flatPut clsC_len (y:=(y.1,y.2.1,s30,y.2.2.2.1,y.2.2.2.2)) (by omega) rfl hy] at ho36
  have hy':(ys.set i (y.1,y.2.1,s30,y.2.2.2.1,y.2.2.2.2))[i]? =some (y.1,y.2.1,s30,y.2.2.2.1,y.2.2.2.2):=by rw[List.getElem?_set,if_pos rfl,if_pos (by omega)]
  have B36:w36.cell? ⟨b1,0+0,none⟩=some (slV s8):=boxAt (cs:=cxC (s8,v.2)) (hC36.at (e32'.at B1) fun e=>hb1 (e ▸ hbb)) 0 (Ch.refl _ _)
  refine⟨B36,b,0,hp,hbn,rfl,?_⟩
  rw[Nat.zero_add]
  refine ho36.store (vs:=[slV s33]) hp (by simp;omega) (one _) fun w39 ho39 hC39=>?_
  have hyz':((ys.set i (y.1,y.2.1,s30,y.2.2.2.1,y.2.2.2.2)).flatMap clsC).length=x.1.length*5:=by rw[flatLen clsC_len,List.length_set,hyl]
  rw[List.length_singleton,putOne (by omega),flatPut clsC_len (y:=(y.1,y.2.1,s30,s33,y.2.2.2.2)) (by omega) rfl hy',List.set_set] at ho39
  have hCC:Ch (fun j=>j∈blk s8) w32 w39:=(hC36.trans hC39).mono fun j _ hj=>by rw[hj];exact hbb
  refine⟨rfl,m-1,by omega,i+1,_,hi',by omega,by rw[wrap_of (by omega) (by omega)];rfl,by rw[List.length_set,hyl],ho39,fun k y' q' hy' hq'=>?_,(hC.trans (e32'.mono fun _ _ h=>h.elim)).trans hCC⟩
  rw[List.getElem?_set] at hy'
  by_cases hk':i=k
  ·subst hk'
   rw[if_pos rfl,if_pos (by omega)] at hy'
   cases hy'
   rw[hx] at hq';cases hq'
   have n1:∀j,w23.drew.heap.size<=j->j∉blk s8/\j≠b3/\(i<i+1->w.heap.size<=j):=fun j hj=>⟨fun h=>by have:=hbl j h;omega,by omega,fun _=>by omega⟩
   have n2:∀j,w29.heap.size<=j->j∉blk s8/\j≠b3/\(i<i+1->w.heap.size<=j):=fun j hj=>⟨fun h=>by have:=hbl j h;omega,by omega,fun _=>by omega⟩
   exact⟨hN.nm,hN.ar,((hr30.ch e32 fun _ _=>id).mono n1).ch hCC fun j hj=>hj.1,(hr33.mono n2).ch hCC fun j hj=>hj.1,hN.re,hN.sz⟩
  ·rw[if_neg hk'] at hy'
   obtain⟨g1,g2,g3,g4,g5,g6⟩:=((hys k y' q' hy' hq').ext e32').ch hCC fun j hj=>hj.1
   have up:∀j,(j∉blk s8/\j≠b3/\(k<i->w.heap.size<=j))->j∉blk s8/\j≠b3/\(k<i+1->w.heap.size<=j):=fun j hj=>⟨hj.1,hj.2.1,fun h=>hj.2.2 (by omega)⟩
   exact⟨g1,g2,g3.mono up,g4.mono up,g5,g6⟩
 ·have B3':=hC.at B3 hb3
  have L17:(cxC (s8,v.2)).length=17:=h17
  have O17:One (cxC (s8,v.2)):=fun y hy=>by
   rcases List.mem_cons.1 hy with rfl|hy
   ·rfl
   ·exact h1 y (List.mem_cons_of_mem _ hy)
  refine⟨(s8,v.2),CellsN.mk L17 (boxAll (cs:=cxC (s8,v.2)) B1 (Ch.refl _ _)),L17,store_all (vs:=cxC (s8,v.2)) B3' L17.symm O17 fun w44 u44=>⟨(s8,v.2),CellsN.mk L17 (boxAll (cs:=cxC (s8,v.2)) u44.new (Ch.refl _ _)),s8,rfl,?_,?_⟩⟩
  ·have hC':=(RS.mkClasses (A:=fun j=>j≠b3/\w.heap.size<=j) hyl hoy (by omega) (fun q hq=>by have:=(hk.cls q hq).a0;have:=(hk.cls q hq).a3;omega) (fun k y q hy hq=>?_) fun j hj=>⟨fun e=>hb3 (e ▸ hj),by have:=hb j hj;omega⟩)
   ·exact(hC'.ch u44.ch fun j hj=>hj.1).mono fun j hj=>hj.2
   ·obtain⟨g1,g2,g3,g4,g5,g6⟩:=hys k y q hy hq
    exact⟨g1,g2,g3.mono fun j hj=>⟨hj.2.1,hj.2.2 (by have:=get_lt hq;omega)⟩,g4.mono fun j hj=>⟨hj.2.1,hj.2.2 (by have:=get_lt hq;omega)⟩,g5,g6⟩
  ·exact(E9.chN hC fun j hj=>by have:=hb j hj;omega).chN u44.ch fun j hj=>by omega
theorem closedRS{w:World}{v:CatV}{x:CatD}(h:CatM w v x)(hk:CatOk x):
  Cw 50 #[cxV v] w fun r w'=>∃s:Sl,r=cxV (s,(closedD x).2.map iv)/\RS (fun j=>w.heap.size<=j) w' tyCls s x.1/\Ext w w':=by
 have h17:=cxC_len h
 have h1:=cxC_one h
 refine F50_ok v w _ fun b1 w2 a2 b3 w4 a4=>⟨v,CellsN.mk h17 (boxAll (cs:=cxC v) a2.new (a4.ch _)),?_⟩
 have e2:Ext w w2:=a2.ch _
 have e4:Ext w2 w4:=a4.ch _
 have E4:=e2.trans e4
 have p2:=a2.here;have z2:=a2.size;have p4:=a4.here;have z4:=a4.size
 refine(c78 (h.ext E4) hk).use ?_
 rintro _ w9 ⟨s,rfl,hR9,e9⟩
 have hM9:CatM w9 (s,v.2) x:=⟨hR9.all,h.br,h.b16,h.brr⟩
 have z9:=e9.size
 have l17:(cxC (s,v.2)).length=17:=h17
 refine⟨(s,v.2),rfl,h17,store_all (vs:=cxC (s,v.2)) (e9.at (e4.at a2.new)) (h17.trans l17.symm) (cxC_one hM9) fun w11 u11=>?_⟩
 have B3:=u11.at (e9.at a4.new) (by omega)
 have E9:=E4.trans e9
 have z9':=E9.size
 have hR11:=hR9.ch u11.ch fun j hj e=>by omega
 have e11:Ext w w11:=E9.chN u11.ch fun j e=>by omega
 have z11:=u11.size
 have hz16:(closedD x).2.map iv=List.replicate 16 (iv 0):=by rfl
 have one16:One ((closedD x).2.map iv):=one_ints _
 refine⟨rfl,storeC (vs:=(closedD x).2.map iv) u11.new (by rw[hz16];intro e;cases e) (by rw[List.size_toArray,l17,hz16];decide) one16 fun w18 h18 c18=>?_⟩
 have H18:w18.heap[b1]? =some (.cells (cxC (s,(closedD x).2.map iv)).toArray 26 (0,0)):=by
  rw[h18]
  congr 3
  show spliceL (slV s::v.2) (0+1) ((closedD x).2.map iv)=slV s::(closedD x).2.map iv
  have hv:v.2.length=16:=by have:=h17;rw[List.length_cons] at this;omega
  unfold spliceL
  rw[hz16,List.length_replicate,List.drop_of_length_le (by rw[List.length_cons];omega)]
  simp
 have q17:(cxC (s,(closedD x).2.map iv)).length=17:=by rfl
 have qone:One (cxC (s,(closedD x).2.map iv)):=fun y hy=>by
  rcases List.mem_cons.1 hy with rfl|hy
  ·rfl
  ·exact one16 y hy
 have z18:=c18.size
 have hR18:=hR11.ch c18 fun j hj e=>by omega
 refine⟨(s,(closedD x).2.map iv),CellsN.mk q17 (boxAll (cs:=cxC (s,(closedD x).2.map iv)) H18 (Ch.refl _ _)),q17,store_all (vs:=cxC (s,(closedD x).2.map iv)) (c18.at B3 (by omega)) q17.symm qone fun w22 u22=>⟨(s,(closedD x).2.map iv),CellsN.mk q17 (boxAll (cs:=cxC (s,(closedD x).2.map iv)) u22.new (Ch.refl _ _)),s,rfl,(hR18.ch u22.ch fun j hj e=>by omega).mono fun j hj=>by omega,?_⟩⟩
 exact(e11.chN c18 fun j e=>by omega).chN u22.ch fun j e=>by omega
def F96(t0:Sl)(w:World)(R:RV):Prop:=IfB t0.1.isNone (R (Value.slice none 0 0) w) (0*6<=16777216/\AllocP w (Obj.cells #[] 53) fun b1 w2=>∃(l3:List Value),ReadC w2 t0.1 (t0.2*6) l3/\AppendP tt53 53 w2 (some ⟨b1,0,none⟩) 0 0 t0.2 l3 fun s4 w5=>R (Qy s4) w5)
theorem F96_ok(t0:Sl)(w:World)(R:RV)(h:F96 t0 w R):Cw 96 #[Qy t0] w R:=
 ckF Tryz.func96 .nil h (by kernel_rfl) (by kernel_rfl)
theorem c96{w:World}{t:Sl}{xs:List NdV}(h:Rd w t 6 (xs.flatMap nC))(hl:xs.length<=1000000):Cw 96 #[slV t] w fun v w'=>∃t',v=slV t'/\OwS w' t' 6 (xs.flatMap nC)/\Ext w w'/\∀i∈blk t',w.heap.size<=i:=by
 have hn:=rdN nC_len (by omega) h
 refine F96_ok t w _ ?_
 have e:∀R,F96 t w R=CloneF tt53 53 6 t w R:=fun _=>rfl
 rw[e]
 refine CloneF_of h rfl rfl (flatOne nC_one _) ⟨by omega,?_⟩ (fun s' w' h1 h2 h3 h4=>⟨s',rfl,h1,h3,h4⟩) fun hp=>?_
 ·show 2*t.n*80<=_
  omega
 ·have h2:=h.2
  rw[hp] at h2
  have:xs.flatMap nC=[]:=h2
  have h3:=h.1
  rw[this] at h3
  simp at h3;omega
theorem c120{w:World}{t:Sl}{cs:List Value}(h:Rd w t 1 cs)(h1:One cs)(hl:t.n<=1000000):Cw 120 #[slV t] w fun v w'=>∃t',v=slV t'/\OwS w' t' 1 cs/\t'.n=t.n/\Ext w w'/\∀i∈blk t',w.heap.size<=i:=by
 refine F120_ok t w _ ?_
 have e:∀R,F120 t w R=CloneF tt30 30 1 t w R:=fun _=>rfl
 rw[e]
 refine CloneF_of h rfl rfl h1 ⟨by omega,Nat.le_trans (Nat.mul_le_mul (show 2*t.n<=2000000 by omega) (show _<=1000 by decide)) (by decide)⟩ (fun s' w' h1 h2 h3 h4=>⟨s',rfl,h1,h2,h3,h4⟩) fun hp=>?_
 have h2:=h.2
 rw[hp] at h2
 have:cs=[]:=h2
 have h3:=h.1
 rw[this] at h3
 simp at h3;omega
theorem c121{w:World}{t:Sl}{cs:List Value}(h:Rd w t 2 cs)(h1:One cs)(hl:t.n<=1000000):Cw 121 #[slV t] w fun v w'=>∃t',v=slV t'/\OwS w' t' 2 cs/\t'.n=t.n/\Ext w w'/\∀i∈blk t',w.heap.size<=i:=by
 refine F121_ok t w _ ?_
 have e:∀R,F121 t w R=CloneF tt147 147 2 t w R:=fun _=>rfl
 rw[e]
 refine CloneF_of h rfl rfl h1 ⟨by omega,Nat.le_trans (Nat.mul_le_mul (show 2*t.n<=2000000 by omega) (show _<=1000 by decide)) (by decide)⟩ (fun s' w' h1 h2 h3 h4=>⟨s',rfl,h1,h2,h3,h4⟩) fun hp=>?_
 have h2:=h.2
 rw[hp] at h2
 have:cs=[]:=h2
 have h3:=h.1
 rw[this] at h3
 simp at h3;omega
theorem c176{w:World}{t:Sl}{cs:List Value}(h:Rd w t 2 cs)(h1:One cs)(hl:t.n<=1000000):Cw 176 #[slV t] w fun v w'=>∃t',v=slV t'/\OwS w' t' 2 cs/\t'.n=t.n/\Ext w w'/\∀i∈blk t',w.heap.size<=i:=by
 refine F176_ok t w _ ?_
 have e:∀R,F176 t w R=CloneF tt101 101 2 t w R:=fun _=>rfl
 rw[e]
 refine CloneF_of h rfl rfl h1 ⟨by omega,Nat.le_trans (Nat.mul_le_mul (show 2*t.n<=2000000 by omega) (show _<=1000 by decide)) (by decide)⟩ (fun s' w' h1 h2 h3 h4=>⟨s',rfl,h1,h2,h3,h4⟩) fun hp=>?_
 have h2:=h.2
 rw[hp] at h2
 have:cs=[]:=h2
 have h3:=h.1
 rw[this] at h3
 simp at h3;omega
structure NdD(P:Nat->Prop)(w:World)(n:Nd):Prop where
 rs:OwS w n.v.2.2.2.2.1 2 (n.rs.flatMap sv)
 ws:OwS w n.v.2.2.2.2.2 2 (n.ws.flatMap sv)
 rp:∀j∈blk n.v.2.2.2.2.1,P j
 wp:∀j∈blk n.v.2.2.2.2.2,P j
 rl:n.rs.length<=1000000
 wl:n.ws.length<=1000000
theorem NdD.ok{P:Nat->Prop}{w:World}{n:Nd}(h:NdD P w n):NdOk w n:=⟨h.rs.rd,h.ws.rd,h.rl,h.wl⟩
theorem NdD.ch{P F:Nat->Prop}{w w':World}{n:Nd}(h:NdD P w n)(hc:Ch F w w')(hF:∀j,P j->¬F j):NdD P w' n:=⟨h.rs.ch hc fun j hj=>hF j (h.rp j hj),h.ws.ch hc fun j hj=>hF j (h.wp j hj),h.rp,h.wp,h.rl,h.wl⟩
theorem NdD.mono{P Q:Nat->Prop}{w:World}{n:Nd}(h:NdD P w n)(hQ:∀j,P j->Q j):NdD Q w n:=⟨h.rs,h.ws,fun j hj=>hQ j (h.rp j hj),fun j hj=>hQ j (h.wp j hj),h.rl,h.wl⟩
theorem NdD.old{P:Nat->Prop}{w:World}{n:Nd}(h:NdD P w n):NdD (fun j=>P j/\j<w.heap.size) w n:=⟨h.rs,h.ws,fun j hj=>⟨h.rp j hj,h.rs.lt j hj⟩,fun j hj=>⟨h.wp j hj,h.ws.lt j hj⟩,h.rl,h.wl⟩
theorem flat_v(hs:List Nd):hs.flatMap nL=(hs.map (·.v)).flatMap nC:=by rw[List.flatMap_map]
theorem c119{w:World}{t:Sl}{hs:List Nd}(hH:Hst w t hs)(hl:hs.length<=1000):
  Cw 119 #[slV t] w fun v w'=>∃t' ns,v=slV t'/\Cg ns hs/\OwS w' t' 6 (ns.flatMap nL)/\(∀n∈ns,NdD (fun j=>w.heap.size<=j/\j∉blk t') w' n)/\Ext w w'/\∀j∈blk t',w.heap.size<=j:=by
 have htn:=hH.n
 have hrd:=hH.rd
 rw[flat_v] at hrd
 refine F119_ok t w _ ((c96 hrd (by rw[List.length_map];omega)).use ?_)
 rintro _ w2 ⟨s3,rfl,ho,e2,hb⟩
 rw[<-flat_v] at ho
 have hn3:=owsN nL_len (by omega) ho
 have hbl:∀j∈blk s3,j<w2.heap.size:=ho.lt
 have z2:=e2.size
 refine⟨s3,rfl,fun m z W=>∃(i:Nat)(zs:List Nd),i<=hs.length/\m+i=hs.length/\z=(i:Int)/\Cg zs hs/\OwS W s3 6 (zs.flatMap nL)/\(∀(k:Nat) y,k<i->zs[k]? =some y->NdD (fun j=>w.heap.size<=j/\j∉blk s3) W y)/\(∀k,i<=k->zs[k]? =hs[k]?)/\Ch (fun j=>j∈blk s3) w2 W,⟨hs.length,0,hs,Nat.zero_le _,rfl,rfl,rfl,ho,fun k y hk=>absurd hk (Nat.not_lt_zero _),fun _ _=>rfl,Ch.refl _ _⟩,?_⟩
 rintro m _ W g ⟨i,zs,hi,hmi,rfl,hcg,hoz,hnew,hsame,hC⟩
 have hzl:=Cg.len hcg
 have eW:Ext w W:=e2.chN hC fun j hj=>hb j hj
 unfold F119j1
 refine IfB.dec (fun hlt=>?_) fun hge=>⟨s3,zs,rfl,hcg,hoz,fun n hn=>?_,eW,hb⟩
 ·have hi':i<hs.length:=by omega
  have hx:hs[i]? =some hs[i]:=List.getElem?_eq_getElem hi'
  have hxm:hs[i]∈hs:=List.getElem_mem hi'
  generalize hs[i]=n at hx hxm
  have hy:zs[i]? =some n:=(hsame i (Nat.le_refl _)).trans hx
  have hnok:=hH.ok n hxm
  obtain⟨b,hp⟩:=hoz.ptr (by omega)
  have hbb:b∈blk s3:=by simp[blk,hp]
  obtain⟨b',hp',hcell⟩:=hoz.elem (i:=i) (by omega) (flatGet nL_len hy)
  rw[hp] at hp';cases hp'
  have hbn:(0:Int)<=(i:Int)/\(i:Int)<(s3.n:Int):=⟨by omega,hlt⟩
  refine⟨b,0,hp,hbn,n.v,by rw[Int.toNat_natCast,Nat.zero_add];exact hcell,boxNd rfl fun b14 w16 hb14 hs16 h16 e16 _=>?_⟩
  have ed:=extDrew w16
  have e16d:=e16.trans ed
  have q:=fun{V:World} (k:Nat) (e:Ext w16.drew V)=>boxAt (cs:=nC n.v) h16 k (ed.trans e)
  have hrn:n.v.2.2.2.2.1.n=n.rs.length:=rdN sv_len (by omega) hnok.rs
  have hwn:n.v.2.2.2.2.2.n=n.ws.length:=rdN sv_len (by omega) hnok.ws
  have hrl:=hnok.rl
  have hwl:=hnok.wl
  have e0:=eW.trans e16d
  refine⟨_,q 4 (Ch.refl _ _),_,q 5 (Ch.refl _ _),(c176 (hnok.rs.ext e0) (flatOne sv_one _) (by omega)).use ?_⟩
  rintro _ w20 ⟨s21,rfl,ho21,hn21,e20,hb21⟩
  refine⟨s21,rfl,q 5 e20,(c176 ((hnok.ws.ext e0).ext e20) (flatOne sv_one _) (by omega)).use ?_⟩
  rintro _ w23 ⟨s24,rfl,ho24,hn24,e23,hb24⟩
  have e23':Ext W w23:=(e16d.trans e20).trans e23
  have z16:=e16d.size;have z20:=e20.size;have z23:=e23.size;have zW:=hC.size;have zw:=eW.size
  have hyz:(zs.flatMap nL).length=hs.length*6:=by rw[flatLen nL_len,hzl]
  have one:∀s:Sl,One [slV s]:=fun s v hv=>by rw[List.mem_singleton.1 hv];rfl
  have h6:i*6+6<=hs.length*6:=by omega
  refine⟨s24,rfl,b,0,hp,hbn,rfl,?_⟩
  rw[Int.toNat_natCast,Nat.zero_add]
  refine(hoz.ext e23').store (vs:=[slV s21]) hp (by simp;omega) (one _) fun w27 ho27 hC27=>?_
  rw[List.length_singleton,putOne (by omega),flatPut nL_len (y:=⟨(n.v.1,n.v.2.1,n.v.2.2.1,n.v.2.2.2.1,s21,n.v.2.2.2.2.2),n.rs,n.ws⟩) (by omega) rfl hy] at ho27
  have hy':(zs.set i ⟨(n.v.1,n.v.2.1,n.v.2.2.1,n.v.2.2.2.1,s21,n.v.2.2.2.2.2),n.rs,n.ws⟩)[i]? =some ⟨(n.v.1,n.v.2.1,n.v.2.2.1,n.v.2.2.2.1,s21,n.v.2.2.2.2.2),n.rs,n.ws⟩:=by rw[List.getElem?_set,if_pos rfl,if_pos (by omega)]
  refine⟨b,0,hp,hbn,rfl,?_⟩
  rw[Nat.zero_add]
  refine ho27.store (vs:=[slV s24]) hp (by simp;omega) (one _) fun w30 ho30 hC30=>?_
  have hyz':((zs.set i ⟨(n.v.1,n.v.2.1,n.v.2.2.1,n.v.2.2.2.1,s21,n.v.2.2.2.2.2),n.rs,n.ws⟩).flatMap nL).length=hs.length*6:=by rw[flatLen nL_len,List.length_set,hzl]
  rw[List.length_singleton,putOne (by omega),flatPut nL_len (y:=⟨(n.v.1,n.v.2.1,n.v.2.2.1,n.v.2.2.2.1,s21,s24),n.rs,n.ws⟩) (by omega) rfl hy',List.set_set] at ho30
  have hCC:Ch (fun j=>j∈blk s3) w23 w30:=(hC27.trans hC30).mono fun j _ hj=>by rw[hj];exact hbb
  refine⟨rfl,m-1,by omega,i+1,_,hi',by omega,by rw[wrap_of (by omega) (by omega)];rfl,?_,ho30,fun k y hk hy2=>?_,fun k hk=>?_,(hC.trans (e23'.mono fun _ _ h=>h.elim)).trans hCC⟩
  ·show List.map dOf _=List.map dOf _
   rw[List.map_set,hcg]
   have:(hs.map dOf)[i]? =some (dOf n):=by rw[List.getElem?_map,hx];rfl
   apply List.ext_getElem?
   intro k
   rw[List.getElem?_set]
   split
   ·rename_i hk;subst hk
    rw[this,if_pos (by rw[List.length_map];omega)];rfl
   ·rfl
  ·rw[List.getElem?_set] at hy2
   by_cases hik:i=k
   ·subst hik
    rw[if_pos rfl,if_pos (by omega)] at hy2
    cases hy2
    have n21:∀j∈blk s21,w.heap.size<=j/\j∉blk s3:=fun j hj=>by
     have:=hb21 j hj
     exact⟨by omega,fun h=>by have:=hbl j h;omega⟩
    have n24:∀j∈blk s24,w.heap.size<=j/\j∉blk s3:=fun j hj=>by
     have:=hb24 j hj
     exact⟨by omega,fun h=>by have:=hbl j h;omega⟩
    exact⟨(ho21.ext e23).ch hCC fun j hj=>(n21 j hj).2,ho24.ch hCC fun j hj=>(n24 j hj).2,n21,n24,hnok.rl,hnok.wl⟩
   ·rw[if_neg hik] at hy2
    exact((hnew k y (by omega) hy2).ch e23' fun _ _=>id).ch hCC fun j hj=>hj.2
  ·rw[List.getElem?_set,if_neg (by omega)]
   exact hsame k (by omega)
 ·obtain⟨k,hk,rfl⟩:=List.getElem_of_mem hn
  exact hnew k _ (by omega) (List.getElem?_eq_getElem hk)
abbrev grC(v:CatV)(th ton tw:Sl):List Value:=cxC v++[slV th,slV ton,slV tw]
def grF(ps:List (Nat×Value)):Option (List Value):=fillL (placesOf tb [(26,0),(39,17),(102,18),(137,19)]) (cellsL tt139.zero) ps
theorem grF_one{v:CatV}(h:v.2.length=16):grF [(0,cxV v)]=some (grC v ⟨none,0,0⟩ ⟨none,0,0⟩ ⟨none,0,0⟩):=by
 obtain⟨s,l⟩:=v
 match l,h with
 | [_,_,_,_,_,_,_,_,_,_,_,_,_,_,_,_],_=>rfl
theorem grF_all{v:CatV}(h:v.2.length=16)(a b c:Sl):grF [(0,cxV v),(1,slV a),(2,slV b),(3,slV c)]=some (grC v a b c):=by
 obtain⟨s,l⟩:=v
 match l,h with
 | [_,_,_,_,_,_,_,_,_,_,_,_,_,_,_,_],_=>rfl
def H54(t0:Sl×List Value)(w:World)(R:RV):Prop:=
 AllocP w (Obj.cells { toList:=cxC t0 } 26) fun(b1:Nat) (w2:World)=>
 ∃(x3:Sl×List Value),CellsN w2 b1 0 17 (cxC x3)/\
 Cx 75 #[Value.agg { toList:=cxC x3 }] w2 fun(v6:Value) (w7:World)=>∃t8:Bool,v6=Value.bool t8/\
 IfB (!t8) (R (Value.pointer none) w7)
 (∃(x9:Sl×List Value),CellsN w7 b1 0 17 (cxC x9)/\
 Cx 116 #[Value.agg { toList:=cxC x9 }] w7 fun(v12:Value) (w13:World)=>∃(x14:Sl×List Value),v12=Value.agg { toList:=cxC x14 }/\
 match grF [(0,Value.agg { toList:=cxC x14 })] with
 | some l15=>AllocP w13 (Obj.cells { toList:=l15 } 139) fun(b16:Nat) (w17:World)=>R (Value.pointer (some ⟨b16,0,none⟩)) w17
 | none=>False)
theorem H54_ok(t0:Sl×List Value)(w:World)(R:RV)(h:H54 t0 w R):Cw 54 #[Value.agg { toList:=cxC t0 }] w R:=
 call_of tbOk mixed en54 Tryz.func54 rfl .nil (by kernel_rfl) (Nat.le_of_ble_eq_true (by kernel_rfl)) (Eq.mp (α:=H54 t0 w R) (by kernel_rfl) h)
def H57(t0:Option Addr)(w:World)(R:RV):Prop:=
 IfB t0.isNone (R (Value.pointer none) w)
 (∃b1 b2:Nat,t0=some ⟨b1,b2,none⟩/\∃(x3:Sl×List Value),CellsN w.drew b1 (b2+0) 17 (cxC x3)/\
 ∃b6 b7:Nat,t0=some ⟨b6,b7,none⟩/\∃s8:Sl,w.drew.cell? ⟨b6,b7+17,none⟩=some (slV s8)/\
 ∃b9 b10:Nat,t0=some ⟨b9,b10,none⟩/\∃s11:Sl,w.drew.cell? ⟨b9,b10+18,none⟩=some (slV s11)/\
 ∃b12 b13:Nat,t0=some ⟨b12,b13,none⟩/\∃s14:Sl,w.drew.cell? ⟨b12,b13+19,none⟩=some (slV s14)/\
 Cx 96 #[slV s8] w.drew fun(v15:Value) (w16:World)=>∃s17:Sl,v15=slV s17/\
 w16.cell? ⟨b12,b13+19,none⟩=some (slV s14)/\w16.cell? ⟨b9,b10+18,none⟩=some (slV s11)/\CellsN w16 b1 (b2+0) 17 (cxC x3)/\
 Cx 120 #[slV s11] w16 fun(v20:Value) (w21:World)=>∃s22:Sl,v20=slV s22/\
 w21.cell? ⟨b12,b13+19,none⟩=some (slV s14)/\CellsN w21 b1 (b2+0) 17 (cxC x3)/\
 Cx 121 #[slV s14] w21 fun(v25:Value) (w26:World)=>∃s27:Sl,v25=slV s27/\
 CellsN w26 b1 (b2+0) 17 (cxC x3)/\
 match grF [(0,Value.agg { toList:=cxC x3 }),(1,slV s17),(2,slV s22),(3,slV s27)] with
 | some l30=>AllocP w26 (Obj.cells { toList:=l30 } 139) fun(b31:Nat) (w32:World)=>R (Value.pointer (some ⟨b31,0,none⟩)) w32
 | none=>False)
theorem H57_ok(t0:Option Addr)(w:World)(R:RV)(h:H57 t0 w R):Cw 57 #[Value.pointer t0] w R:=
 call_of tbOk mixed en57 Tryz.func57 rfl (nd (nd (.node (.draw (sts [0,1,2,3,4,5,6,7,9,10,11,12,14,15,16,17] (.ac 8 (rg [0,3,9,12,14,17]) (.ac 13 (rg [0,3,14,17]) (.ac 18 [3,2,1,0] (.st 19 (.ac 20 [] (.st 21 .fin) .non)) .non) .non) .non))) .nil))) (by kernel_rfl) (Nat.le_of_ble_eq_true (by kernel_rfl)) (Eq.mp (α:=H57 t0 w R) (by kernel_rfl) h)
structure GrK(D:Nat->Prop)(w:World)(b:Nat)(v:CatV)(th ton tw:Sl)(x:CatD)(ns:List Nd)(rows:List RwL)(ms:List Nat):Prop where
 box:∃T,w.heap[b]? =some (.cells (grC v th ton tw).toArray T (0,0))
 cat:RS (fun j=>D j/\j≠b/\j∉blk th) w tyCls v.1 x.1
 br:v.2=x.2.map fun n=>Value.int .i64 n
 b16:x.2.length=16
 brr:∀n∈x.2, -9223372036854775808<=n/\n<=9223372036854775807
 own:OwS w th 6 (ns.flatMap nL)
 nd:∀n∈ns,NdD (fun j=>D j/\j≠b/\j∉blk th) w n
 on:OwS w ton 1 (rows.map hR)
 onP:∀j∈blk ton,D j/\j≠b/\j∉blk th
 row:∀r∈rows,OwS w r.1 1 (r.2.map iv)/\∀j∈blk r.1,D j/\j≠b/\j∉blk th
 wy:OwS w tw 2 (ms.flatMap setC)
 wyP:∀j∈blk tw,D j/\j≠b/\j∉blk th
 db:D b
 dth:∀j∈blk th,D j
 nb:b∉blk th
structure GrP(x:CatD)(ns:List Nd)(rows:List RwL)(ms:List Nat):Prop where
 ok:CatOk x
 may:HMay x ns
 len:ns.length<=50
 rl:rows.length=ns.length
 rw:∀(i:Nat) r,rows[i]? =some r->RowOf ns i r.2
 ml:ms.length=ns.length
 mb:∀m∈ms,m<2^64
 mw:∀(i j:Nat) m,ms[i]? =some m->(m.testBit j=true↔TC (ArcE x ns) i j)
 fair:∃r,FairR x ns r
def GrM(D:Nat->Prop)(w:World)(b:Nat)(th:Sl)(x:CatD)(ns:List Nd):Prop:=∃v ton tw rows ms,GrK D w b v th ton tw x ns rows ms/\GrP x ns rows ms
theorem GrK.ch{D F:Nat->Prop}{w w':World}{b:Nat}{v:CatV}{th ton tw:Sl}{x:CatD}{ns:List Nd}{rows:List RwL}{ms:List Nat}(h:GrK D w b v th ton tw x ns rows ms)(hc:Ch F w w')(hF:∀j,D j->¬F j):GrK D w' b v th ton tw x ns rows ms:=by
 have hF':∀j,(D j/\j≠b/\j∉blk th)->¬F j:=fun j hj=>hF j hj.1
 obtain⟨T,hT⟩:=h.box
 exact⟨⟨T,hc.at hT (hF b h.db)⟩,h.cat.ch hc hF',h.br,h.b16,h.brr,h.own.ch hc fun j hj=>hF j (h.dth j hj),fun n hn=>(h.nd n hn).ch hc hF',h.on.ch hc fun j hj=>hF' j (h.onP j hj),h.onP,fun r hr=>⟨(h.row r hr).1.ch hc fun j hj=>hF' j ((h.row r hr).2 j hj),(h.row r hr).2⟩,h.wy.ch hc fun j hj=>hF' j (h.wyP j hj),h.wyP,h.db,h.dth,h.nb⟩
theorem GrK.mono{D E:Nat->Prop}{w:World}{b:Nat}{v:CatV}{th ton tw:Sl}{x:CatD}{ns:List Nd}{rows:List RwL}{ms:List Nat}(h:GrK D w b v th ton tw x ns rows ms)(hE:∀j,D j->E j):GrK E w b v th ton tw x ns rows ms:=by
 have hE':∀j,(D j/\j≠b/\j∉blk th)->E j/\j≠b/\j∉blk th:=fun j hj=>⟨hE j hj.1,hj.2⟩
 exact⟨h.box,h.cat.mono hE',h.br,h.b16,h.brr,h.own,fun n hn=>(h.nd n hn).mono hE',h.on,fun j hj=>hE' j (h.onP j hj),fun r hr=>⟨(h.row r hr).1,fun j hj=>hE' j ((h.row r hr).2 j hj)⟩,h.wy,fun j hj=>hE' j (h.wyP j hj),hE b h.db,fun j hj=>hE j (h.dth j hj),h.nb⟩
theorem rep_and{A:Nat->Prop}{w:World}:∀ {t:Ty}{x:t.den}{cs:List Value},posT t=true->rep A w t x cs->rep (fun i=>A i/\i<w.heap.size) w t x cs
 | .int _,_,_,_,h=>h
 | .bool,_,_,_,h=>h
 | .str,_,_,_,h=>h
 | .pair a b,_,_,hp,h=>by
  obtain⟨c,d,rfl,h1,h2⟩:=h
  unfold posT at hp
  rw[Bool.and_eq_true] at hp
  exact⟨c,d,rfl,rep_and hp.1 h1,rep_and hp.2 h2⟩
 | .sl e,l,_,hp,h=>by
  have ho:=rep_old hp h
  obtain⟨s,rfl,h1,h2,h3,h4,css,h5,h6,h7⟩:=h
  obtain⟨s',hs',_,_,_,g4,_⟩:=ho
  have:=slEq hs';subst this
  unfold posT at hp
  rw[Bool.and_eq_true] at hp
  exact⟨s,rfl,h1,h2,h3,fun h0 i hi=>⟨h4 h0 i hi,g4 h0 i hi⟩,css,h5,fun i c x hc hx=>rep_and hp.2 (h6 i c x hc hx),h7⟩
 | .arr n e,l,_,hp,h=>by
  obtain⟨hn,css,hl,hr,rfl⟩:=h
  exact⟨hn,css,hl,fun i c x hc hx=>rep_and (t:=e) hp (hr i c x hc hx),rfl⟩
theorem GrK.old{D:Nat->Prop}{w:World}{b:Nat}{v:CatV}{th ton tw:Sl}{x:CatD}{ns:List Nd}{rows:List RwL}{ms:List Nat}(h:GrK D w b v th ton tw x ns rows ms):GrK (fun j=>D j/\j<w.heap.size) w b v th ton tw x ns rows ms:=by
 obtain⟨T,hT⟩:=h.box
 have up:∀ {j},(D j/\j≠b/\j∉blk th)->j<w.heap.size->(D j/\j<w.heap.size)/\j≠b/\j∉blk th:=fun h hl=>⟨⟨h.1,hl⟩,h.2⟩
 exact⟨⟨T,hT⟩,(RS.mono (rep_and (by decide) h.cat) fun j hj=>up hj.1 hj.2),h.br,h.b16,h.brr,h.own,fun n hn=>(h.nd n hn).old.mono fun j hj=>up hj.1 hj.2,h.on,fun j hj=>up (h.onP j hj) (h.on.lt j hj),fun r hr=>⟨(h.row r hr).1,fun j hj=>up ((h.row r hr).2 j hj) ((h.row r hr).1.lt j hj)⟩,h.wy,fun j hj=>up (h.wyP j hj) (h.wy.lt j hj),⟨h.db,heap_lt hT⟩,fun j hj=>⟨h.dth j hj,h.own.lt j hj⟩,h.nb⟩
section
variable {D F:Nat->Prop} {w w':World} {b:Nat} {th:Sl} {x:CatD} {ns:List Nd}
theorem GrM.ch(h:GrM D w b th x ns)(hc:Ch F w w')(hF:∀j,D j->¬F j):GrM D w' b th x ns:=by
 obtain⟨v,ton,tw,rows,ms,h,p⟩:=h
 exact⟨v,ton,tw,rows,ms,h.ch hc hF,p⟩
theorem GrM.ext(h:GrM D w b th x ns)(e:Ext w w'):GrM D w' b th x ns:=h.ch e fun _ _=>id
theorem GrM.mono{E:Nat->Prop}(h:GrM D w b th x ns)(hE:∀j,D j->E j):GrM E w b th x ns:=by
 obtain⟨v,ton,tw,rows,ms,h,p⟩:=h
 exact⟨v,ton,tw,rows,ms,h.mono hE,p⟩
theorem GrM.old(h:GrM D w b th x ns):GrM (fun j=>D j/\j<w.heap.size) w b th x ns:=by
 obtain⟨v,ton,tw,rows,ms,h,p⟩:=h
 exact⟨v,ton,tw,rows,ms,h.old,p⟩
end
theorem GrK.catM{D:Nat->Prop}{w:World}{b:Nat}{v:CatV}{th ton tw:Sl}{x:CatD}{ns:List Nd}{rows:List RwL}{ms:List Nat}(h:GrK D w b v th ton tw x ns rows ms):CatM w v x:=⟨h.cat.all,h.br,h.b16,h.brr⟩
theorem GrK.hst{D:Nat->Prop}{w:World}{b:Nat}{v:CatV}{th ton tw:Sl}{x:CatD}{ns:List Nd}{rows:List RwL}{ms:List Nat}(h:GrK D w b v th ton tw x ns rows ms)(hl:ns.length<=1000000):Hst w th ns:=⟨h.own.rd,fun n hn=>(h.nd n hn).ok,hl,h.own.cap⟩
theorem GrK.rws{D:Nat->Prop}{w:World}{b:Nat}{v:CatV}{th ton tw:Sl}{x:CatD}{ns:List Nd}{rows:List RwL}{ms:List Nat}(h:GrK D w b v th ton tw x ns rows ms):Rws w ton rows:=⟨h.on.rd,fun r hr=>(h.row r hr).1.rd⟩
theorem grC_len{D:Nat->Prop}{w:World}{b:Nat}{v:CatV}{th ton tw:Sl}{x:CatD}{ns:List Nd}{rows:List RwL}{ms:List Nat}(h:GrK D w b v th ton tw x ns rows ms):(cxC v).length=17:=cxC_len h.catM
theorem GrK.slot{D:Nat->Prop}{w:World}{b:Nat}{v:CatV}{th ton tw:Sl}{x:CatD}{ns:List Nd}{rows:List RwL}{ms:List Nat}(h:GrK D w b v th ton tw x ns rows ms):w.cell? ⟨b,0+17,none⟩=some (slV th)/\w.cell? ⟨b,0+18,none⟩=some (slV ton)/\w.cell? ⟨b,0+19,none⟩=some (slV tw)/\CellsN w b (0+0) 17 (cxC v):=by
 obtain⟨T,hT⟩:=h.box
 have hl:=grC_len h
 have get:∀k:Nat,(grC v th ton tw)[17+k]? =[slV th,slV ton,slV tw][k]? :=fun k=>by rw[List.getElem?_append_right (by omega)];congr 1;omega
 refine⟨(boxAt (cs:=grC v th ton tw) hT 17 (Ch.refl _ _)).trans (get 0),(boxAt (cs:=grC v th ton tw) hT 18 (Ch.refl _ _)).trans (get 1),(boxAt (cs:=grC v th ton tw) hT 19 (Ch.refl _ _)).trans (get 2),CellsN.mk hl (boxAll (cs:=grC v th ton tw) hT (Ch.refl _ _)).left⟩
theorem c116{w:World}{v:CatV}{x:CatD}(h:CatM w v x)(hk:CatOk x):
  Cw 116 #[cxV v] w fun r w'=>∃s:Sl,r=cxV (s,v.2)/\RS (fun j=>w.heap.size<=j) w' tyCls s x.1/\Ext w w':=by
 have h17:=cxC_len h
 have h1:=cxC_one h
 have hv16:v.2.length=16:=by have:=h17;rw[List.length_cons] at this;omega
 refine F116_ok v w _ fun b1 w2 a2 b3 w4 a4=>⟨v,CellsN.mk h17 (boxAll (cs:=cxC v) a2.new (a4.ch _)),?_⟩
 have e2:Ext w w2:=a2.ch _
 have e4:Ext w2 w4:=a4.ch _
 have E4:=e2.trans e4
 have p2:=a2.here;have z2:=a2.size;have p4:=a4.here;have z4:=a4.size
 refine(closedRS (h.ext E4) hk).use ?_
 rintro _ w9 ⟨s,rfl,hR9,e9⟩
 have z9:=e9.size
 have hz17:(cxC (s,(closedD x).2.map iv)).length=17:=rfl
 have hz1:One (cxC (s,(closedD x).2.map iv)):=fun y hy=>by
  rcases List.mem_cons.1 hy with rfl|hy
  ·rfl
  ·exact one_ints _ y hy
 refine⟨(s,(closedD x).2.map iv),rfl,fun b11 w12 a12=>⟨rfl,store_all (vs:=cxC (s,(closedD x).2.map iv)) a12.new rfl hz1 fun w13 u13=>?_⟩⟩
 have p12:=a12.here;have z12:=a12.size;have z13:=u13.size
 have e13:Ext w9 w13:=Ext.fresh a12 u13
 have x13:Ext w2 w13:=(e4.trans e9).trans e13
 have one2:One v.2:=fun y hy=>h1 y (List.mem_cons_of_mem _ hy)
 refine⟨v.2,CellsN.mk hv16 (CellsAt.right (c:=[slV v.1]) (d:=v.2) (boxAll (cs:=cxC v) a2.new x13)),hv16,storeC u13.new (by intro e;rw[e] at hv16;cases hv16) (by rw[List.size_toArray,hz17,hv16];omega) one2 fun w17 h17' c17=>?_⟩
 have H17:w17.heap[b11]? =some (.cells (cxC (s,v.2)).toArray 26 (0,0)):=by
  rw[h17']
  congr 3
  show spliceL (slV s::(closedD x).2.map iv) (0+1) v.2=slV s::v.2
  unfold spliceL
  rw[hv16,List.drop_of_length_le (by rw[List.length_cons,List.length_map];show 17<=_;omega)]
  simp
 have z17:=c17.size
 have l17:(cxC (s,v.2)).length=17:=h17
 have o17:One (cxC (s,v.2)):=fun y hy=>by
  rcases List.mem_cons.1 hy with rfl|hy
  ·rfl
  ·exact one2 y hy
 have hR9':RS (fun j=>w4.heap.size<=j/\j<w9.heap.size) w9 tyCls s x.1:=rep_and (by decide) hR9
 have hR17:=(hR9'.ch e13 fun _ _=>id).ch c17 fun j hj e=>by omega
 refine⟨(s,v.2),CellsN.mk l17 (boxAll (cs:=cxC (s,v.2)) H17 (Ch.refl _ _)),l17,store_all (vs:=cxC (s,v.2)) (c17.at (e13.at (e9.at a4.new)) (by omega)) l17.symm o17 fun w21 u21=>⟨(s,v.2),CellsN.mk l17 (boxAll (cs:=cxC (s,v.2)) u21.new (Ch.refl _ _)),s,rfl,(hR17.ch u21.ch fun j hj e=>by omega).mono fun j hj=>by omega,?_⟩⟩
 exact(((E4.trans e9).trans e13).chN c17 fun j e=>by omega).chN u21.ch fun j e=>by omega
theorem GrP.nil{x:CatD}(hk:CatOk x):GrP x [] [] []:=
 ⟨hk,⟨hk,Nat.zero_le _,fun i n h=>(by cases h)⟩,Nat.zero_le _,rfl,fun i r h=>(by cases h),rfl,fun m h=>(by cases h),fun i j m h=>(by cases h),id,fun i j h=>absurd h (Nat.not_lt_zero _),fun i k ⟨_,a,b,h,_⟩=>(by cases h),fun o a b u no na h=>(by cases h)⟩
theorem c54{w:World}{v:CatV}{x:CatD}(h:CatM w v x):
  Cw 54 #[cxV v] w fun r w'=>((¬CatOk x/\r=.pointer none)\/CatOk x/\∃b,r=.pointer (some ⟨b,0,none⟩)/\GrM (fun j=>w.heap.size<=j) w' b ⟨none,0,0⟩ x [])/\Ext w w':=by
 have h17:=cxC_len h
 have hv16:v.2.length=16:=by have:=h17;rw[List.length_cons] at this;omega
 refine H54_ok v w _ fun b1 w2 a2=>?_
 have e2:Ext w w2:=a2.ch _
 have z2:=a2.size
 refine⟨v,CellsN.mk h17 (boxAll (cs:=cxC v) a2.new (Ch.refl _ _)),(c75 (h.ext e2)).use ?_⟩
 rintro _ w7 ⟨r,rfl,hr,e7⟩
 have E7:=e2.trans e7
 refine⟨r,rfl,IfB.intro (fun h1=>⟨.inl ⟨fun hk=>?_,rfl⟩,E7⟩) fun h1=>?_⟩
 ·have h1:r=false:=by simpa using h1
  rw[hr.2 hk] at h1;cases h1
 have hk:=hr.1 (by simpa using h1)
 refine⟨v,CellsN.mk h17 (boxAll (cs:=cxC v) a2.new e7),(c116 (h.ext E7) hk).use ?_⟩
 rintro _ w13 ⟨s,rfl,hR,e13⟩
 have E13:=E7.trans e13
 have z13:=E13.size
 have z7:=E7.size
 refine⟨(s,v.2),rfl,?_⟩
 rw[grF_one (v:=(s,v.2)) hv16]
 refine fun b16 w17 a17=>⟨.inr ⟨hk,b16,rfl,(s,v.2),⟨none,0,0⟩,⟨none,0,0⟩,[],[],⟨⟨_,a17.new⟩,?_,h.br,h.b16,h.brr,.nil _ _,by simp,.nil _ _,by simp[blk],by simp,.nil _ _,by simp[blk],?_,by simp[blk],by simp[blk]⟩,.nil hk⟩,E13.trans (a17.ch _)⟩
 ·have hR':RS (fun j=>w7.heap.size<=j/\j<w13.heap.size) w13 tyCls s x.1:=rep_and (by decide) hR
  have p17:=a17.here
  exact(hR'.ch (a17.ch (fun _=>False)) fun _ _=>id).mono fun j hj=>⟨by omega,by omega,by simp[blk]⟩
 ·have p17:=a17.here
  show w.heap.size<=b16
  omega
def AskP(x:CatD)(ns:List Nd)(n:Nd)(e:Int):Prop:=(e=1/\¬HMay x (ns++[n]))\/(e=11/\HMay x (ns++[n])/\¬ ∃r,FairR x (ns++[n]) r)\/(e=0/\GoodP x (ns++[n]))
theorem TC.cg{x:CatD}{hs ks:List Nd}(h:Cg hs ks){a b:Nat}(t:TC (ArcE x hs) a b):TC (ArcE x ks) a b:=by
 induction t with
 | one e=>exact .one (e.cg h)
 | more _ e ih=>exact .more ih (e.cg h)
theorem cloneApp{w W:World}{th:Sl}{ns:List Nd}{n:Nd}{b1 b3 b4:Nat}{K:Sl->World->Prop}(ho:OwS w th 6 (ns.flatMap nL))(hl:ns.length<=1000)(eW:Ext w W)(hb1:∃T,W.heap[b1]? =some (.cells (nC n.v).toArray T (0,0)))(hs:∀V,Ext W V->V.cell? ⟨b3,b4+17,none⟩=some (slV th))
  (hK:∀s V,OwS V s 6 ((ns++[n]).flatMap nL)->Ext W V->K s V):
  (Cx 96 #[slV th] W fun v7 w8=>∃s9:Sl,v7=slV s9/\CellsAt w8 b1 0 (nC n.v)/\1*6<=16777216/\AllocP w8 (Obj.cells (nC n.v).toArray 53) fun b10 w11=>∃l12,ReadC w11 (some ⟨b10,0,none⟩) (1*6) l12/\AppendP tt53 53 w11 s9.1 s9.2 s9.3 1 l12 K)/\
  1*6<=16777216/\AllocP W (Obj.cells (nC n.v).toArray 53) fun b37 w38=>w38.cell? ⟨b3,b4+17,none⟩=some (slV th)/\Cx 96 #[slV th] w38 fun v39 w40=>∃s41:Sl,v39=slV s41/\∃l42,ReadC w40 (some ⟨b37,0,none⟩) (1*6) l42/\AppendP tt53 53 w40 s41.1 s41.2 s41.3 1 l42 K:=by
 obtain⟨T,hb1⟩:=hb1
 have hr:∀ {V},Ext W V->Rd V th 6 ((ns.map (·.v)).flatMap nC):=fun e=>by rw[<-flat_v];exact(ho.ext (eW.trans e)).rd
 have fin:∀ {V:World}{s:Sl}{bl:Nat}{T:TypeId},OwS V s 6 (ns.flatMap nL)->V.heap[bl]? =some (.cells (nC n.v).toArray T (0,0))->Ext W V->(∀j∈blk s,W.heap.size<=j)->∃l,ReadC V (some ⟨bl,0,none⟩) (1*6) l/\AppendP tt53 53 V s.1 s.2 s.3 1 l K:=fun hs hb e hnew=>by
  have hn:=owsN nL_len (by omega) hs
  refine hs.lit (new:=nC n.v) hb rfl (nC_one n.v) rfl rfl (by omega) (by decide) fun s' w' ho' hn' hC' hbk=>hK s' w' ?_ (e.chN hC' hnew)
  rw[List.flatMap_append,List.flatMap_cons,List.flatMap_nil,List.append_nil]
  exact ho'
 refine⟨(c96 (hr (Ch.refl _ _)) (by rw[List.length_map];omega)).use ?_,by decide,fun b37 w38 a38=>⟨hs _ (a38.ch _),(c96 (hr (a38.ch _)) (by rw[List.length_map];omega)).use ?_⟩⟩
 ·rintro _ w8 ⟨s9,rfl,ho9,e9,hb9⟩
  rw[<-flat_v] at ho9
  exact⟨s9,rfl,boxAll (cs:=nC n.v) hb1 e9,by decide,fun b10 w11 a11=>fin (ho9.ext (a11.ch _)) a11.new (e9.trans (a11.ch _)) hb9⟩
 ·rintro _ w40 ⟨s41,rfl,ho41,e41,hb41⟩
  rw[<-flat_v] at ho41
  have e38:Ext W w38:=a38.ch _
  exact⟨s41,rfl,fin ho41 (e41.at a38.new) (e38.trans e41) fun j hj=>by have:=hb41 j hj;have:=e38.size;omega⟩
theorem c117{D:Nat->Prop}{w:World}{b:Nat}{th:Sl}{x:CatD}{ns:List Nd}{n:Nd}(hG:GrM D w b th x ns)(hn:NdOk w n)(hl:ns.length<=49):
  Cw 117 #[.pointer (some ⟨b,0,none⟩),ndV n.v] w fun r w'=>∃(s:Sl)(ms:List Nat)(e:Int),r=.tuple #[slV s,iv e]/\AskP x ns n e/\(e=0->OwS w' s 2 (ms.flatMap setC)/\ms.length=ns.length+1/\(∀m∈ms,m<2^64)/\(∀(i j:Nat) m,ms[i]? =some m->(m.testBit j=true↔TC (ArcE x (ns++[n])) i j))/\∀j∈blk s,w.heap.size<=j)/\Ext w w':=by
 obtain⟨v,ton,tw,rows,ms0,hK,hP⟩:=hG
 refine F117_ok (some ⟨b,0,none⟩) n.v w _ fun b1 w2 a2=>IfB.no rfl ?_
 have e2:Ext w w2:=a2.ch _
 have ed:=extDrew w2
 have e2d:=e2.trans ed
 unfold F117k2
 refine⟨b,0,rfl,th,(hK.ch e2d fun _ _=>id).slot.1,n.v,boxAll (cs:=nC n.v) a2.new ed,cloneApp hK.own (by omega) e2d ⟨_,ed.at a2.new⟩ (fun V e=>(hK.ch (e2d.trans e) fun _ _=>id).slot.1) fun s W ho eW=>?_⟩
 have EW:=e2d.trans eW
 have hKW:=hK.ch EW fun _ _=>id
 have hlen:(ns++[n]).length=ns.length+1:=by simp
 have hH:Hst W s (ns++[n]):=⟨ho.rd,fun m hm=>by
  rcases List.mem_append.1 hm with h|h
  ·exact(hKW.nd m h).ok
  ·rw[List.mem_singleton.1 h];exact hn.ext EW,by omega,ho.cap⟩
 refine⟨b,0,rfl,v,hKW.slot.2.2.2,(c84 hKW.catM hH).use ?_⟩
 rintro _ w21 ⟨r,rfl,hr,e21⟩
 have E21:=EW.trans e21
 refine⟨r,rfl,IfB.intro (fun h1=>⟨⟨none,0,0⟩,[],1,rfl,.inl ⟨rfl,fun h=>?_⟩,fun h=>(by cases h),E21⟩) fun h1=>?_⟩
 ·have h1:r=false:=by simpa using h1
  rw[hr.2 h] at h1;cases h1
 have hM:=hr.1 (by simpa using h1)
 have hK21:=hKW.ch e21 fun _ _=>id
 unfold F117k1
 refine⟨b,0,rfl,v,hK21.slot.2.2.2,(c30 hK21.catM (hH.ext e21)).use ?_⟩
 rintro _ w29 ⟨s30,ys,rfl,hA,ho30,hyl,e29,_⟩
 have hsn:=hH.n
 refine⟨s30,rfl,?_⟩
 rw[show (s.2:Int)=((ns.length+1:Nat):Int) by show (s.n:Int)=_;rw[hsn,hlen]]
 refine(c174 ho30.rd (by omega) (by omega) fun e he=>?_).use ?_
 ·obtain⟨p,q,h2,h3,h4,h5,_⟩:=arc_of hM hA he
  exact⟨p,q,h2,h3,by omega,by omega⟩
 rintro _ w32 ⟨s33,ms,rfl,ho33,hml,hmb,hmw,e32,hb33⟩
 have hE:ArE ys=ArcE x (ns++[n]):=by funext p q;exact propext (hA.are hM p q)
 rw[hE] at hmw
 refine⟨s33,rfl,(c175 ho33.rd (by omega) hmb).use ?_⟩
 rintro _ w35 ⟨t36,rfl,h36,e35⟩
 have E35:=((E21.trans e29).trans e32).trans e35
 have hgood:t36=true↔∃r,FairR x (ns++[n]) r:=by
  rw[h36,<-acyc_iff hM hA]
  constructor
  ·intro h i ht
   have hi:=(TC.lt ht).1
   have hx:ms[i]? =some (ms[i]'(by omega)):=List.getElem?_eq_getElem (by omega)
   have:=h i _ hx
   rw[(hmw i i _ hx).2 ht] at this;cases this
  ·intro h i m hm
   cases hb:m.testBit i with
   | false=>rfl
   | true=>exact absurd ((hmw i i m hm).1 hb) (h i)
 refine⟨t36,rfl,IfB.intro (fun h2=>⟨⟨none,0,0⟩,[],11,rfl,.inr (.inl ⟨rfl,hM,fun h=>?_⟩),fun h=>(by cases h),E35⟩) fun h2=>⟨s33,ms,0,rfl,.inr (.inr ⟨rfl,hM,hgood.1 (by simpa using h2)⟩),fun _=>⟨ho33.ext e35,hml,hmb,hmw,fun j hj=>?_⟩,E35⟩⟩
 ·have h2:t36=false:=by simpa using h2
  rw[hgood.2 h] at h2;cases h2
 ·have:=hb33 j hj;have:=(E21.trans e29).size;omega
structure NdA(A:Nat->Prop)(w:World)(n:Nd):Prop where
 rs:Rd w n.v.2.2.2.2.1 2 (n.rs.flatMap sv)
 ws:Rd w n.v.2.2.2.2.2 2 (n.ws.flatMap sv)
 rp:0<n.v.2.2.2.2.1.n->∀j∈blk n.v.2.2.2.2.1,A j
 wp:0<n.v.2.2.2.2.2.n->∀j∈blk n.v.2.2.2.2.2,A j
 rl:n.rs.length<=1000000
 wl:n.ws.length<=1000000
theorem NdA.ch{A F:Nat->Prop}{w w':World}{n:Nd}(h:NdA A w n)(hc:Ch F w w')(hF:∀j,A j->¬F j):NdA A w' n:=⟨h.rs.ch0 hc fun h0 j hj=>hF j (h.rp h0 j hj),h.ws.ch0 hc fun h0 j hj=>hF j (h.wp h0 j hj),h.rp,h.wp,h.rl,h.wl⟩
theorem NdA.ext{A:Nat->Prop}{w w':World}{n:Nd}(h:NdA A w n)(e:Ext w w'):NdA A w' n:=h.ch e fun _ _=>id
theorem NdA.ok{A:Nat->Prop}{w:World}{n:Nd}(h:NdA A w n):NdOk w n:=⟨h.rs,h.ws,h.rl,h.wl⟩
theorem NdA.mono{A B:Nat->Prop}{w:World}{n:Nd}(h:NdA A w n)(hB:∀j,A j->B j):NdA B w n:=⟨h.rs,h.ws,fun h0 j hj=>hB j (h.rp h0 j hj),fun h0 j hj=>hB j (h.wp h0 j hj),h.rl,h.wl⟩
theorem grPut{W:World}{b:Nat}{v:CatV}{ls ls':List Value}{k:Nat}{u:Value}{T:TypeId}{K:World->Prop}(hb:W.heap[b]? =some (.cells (cxC v++ls).toArray T (0,0)))(hl:(cxC v).length=17)(hk:k<ls.length)(hu:u.oneCell'=true)(he:ls.set k u=ls')(hK:∀w',w'.heap[b]? =some (.cells (cxC v++ls').toArray T (0,0))->Ch (fun j=>j=b) W w'->K w'):StoreP W b (0+(17+k)) [u] K:=by
 refine store_one hb (by rw[List.size_toArray,List.length_append];omega) hu fun w' h=>hK w' ?_ h.ch
 have:=h.new
 rw[List.setIfInBounds_toArray,List.set_append_right _ _ (by omega),show 0+(17+k)-(cxC v).length=k by omega,he] at this
 exact this
theorem c56{D:Nat->Prop}{w:World}{b:Nat}{th:Sl}{x:CatD}{ns:List Nd}{n:Nd}(hG:GrM D w b th x ns)(hN:NdA (fun j=>j≠b/\j∉blk th) w n)(hl:ns.length<=49):
  Cw 56 #[.pointer (some ⟨b,0,none⟩),ndV n.v] w fun r w'=>∃(e:Int)(th':Sl)(ns':List Nd),r=iv e/\AskP x ns n e/\(e=0->∃n',dOf n'=dOf n/\ns'=ns++[n'])/\(e≠0->ns'=ns/\th'=th)/\GrM (fun j=>D j\/w.heap.size<=j) w' b th' x ns'/\Ch (fun j=>j=b\/j∈blk th) w w'/\∀j∈blk th',j∈blk th\/w.heap.size<=j:=by
 have hn:=hN.ok
 refine F56_ok (some ⟨b,0,none⟩) n.v w _ fun b1 w2 a2=>?_
 have e2:Ext w w2:=a2.ch _
 refine⟨n.v,boxAll (cs:=nC n.v) a2.new (Ch.refl _ _),(c117 (hG.ext e2) (hn.ext e2) hl).use ?_⟩
 rintro _ w5 ⟨s,ms,e,rfl,hA,hms,e5⟩
 have E5:=e2.trans e5
 refine⟨(s,e),rfl,IfB.intro (fun h1=>?_) fun h1=>?_⟩
 ·have h1:e≠0:=by simpa using h1
  exact⟨e,th,ns,rfl,hA,fun h=>absurd h h1,fun _=>⟨rfl,rfl⟩,(hG.ext E5).mono fun j hj=>.inl hj,E5.mono fun _ _ h=>h.elim,fun j hj=>.inl hj⟩
 have h1:e=0:=by simpa using h1
 subst h1
 obtain⟨hos,hml,hmb,hmw,hsnew⟩:=hms rfl
 have hsnew:∀j∈blk s,w.heap.size<=j:=fun j hj=>by have:=hsnew j hj;have:=e2.size;omega
 have hgood:GoodP x (ns++[n]):=by
  rcases hA with h|h|h
  ·cases h.1
  ·cases h.1
  ·exact h.2
 obtain⟨v,ton,tw,rows,ms0,hK0,hP⟩:=hG
 have hK:=hK0.old
 have hlv:=grC_len hK
 unfold F56k1
 have ed:=extDrew w5
 have E5d:=E5.trans ed
 have z5:=E5d.size
 have hK5:=hK.ch E5d fun _ _=>id
 have b1d:w5.drew.heap[b1]? =some (.cells (nC n.v).toArray 53 (0,0)):=Ext.at (e5.trans ed) a2.new
 have hrl:=hP.rl
 refine⟨b,0,rfl,ton,hK5.slot.2.1,b,0,rfl,th,hK5.slot.1,n.v,boxAll (cs:=nC n.v) b1d (Ch.refl _ _),(c118 hK5.rws (hK5.hst (by omega)) (hn.ext E5d) hrl hP.rw (by omega)).use ?_⟩
 rintro _ w15 ⟨s16,rows',rfl,hrl',hrw',hOR,e15⟩
 have E15:=E5d.trans e15
 have z15:=E15.size
 have hK15:=hK5.ch e15 fun _ _=>id
 obtain⟨T,hT15⟩:=hK15.box
 have hbl:=heap_lt hT15
 have hbw:b<w.heap.size:=hK.db.2
 have hthw:∀j∈blk th,j<w.heap.size:=fun j hj=>(hK.dth j hj).2
 refine⟨s16,rfl,b,0,rfl,rfl,grPut (k:=1) (ls':=[slV th,slV s16,slV tw]) hT15 hlv (by simp) rfl rfl fun w19 h19 c19=>?_⟩
 have ed19:=extDrew w19
 have h19d:=ed19.at h19
 have cell:=fun{V:World} {ls:List Value} {k:Nat} {u:Value} (h:V.heap[b]? =some (.cells (cxC v++ls).toArray T (0,0))) (hu:ls[k]? =some u)=>show V.cell? ⟨b,0+(17+k),none⟩=some u from by
  rw[boxAt (cs:=cxC v++ls) h (17+k) (Ch.refl _ _),List.getElem?_append_right (by omega),show 17+k-(cxC v).length=k by omega,hu]
 have b1w:w.heap.size<=b1:=by rw[a2.here];exact Nat.le_refl _
 have b1_19:w19.drew.heap[b1]? =some (.cells (nC n.v).toArray 53 (0,0)):=ed19.at (c19.at (e15.at b1d) (by omega))
 refine⟨b,0,rfl,th,cell (k:=0) h19d rfl,n.v,boxAll (cs:=nC n.v) b1_19 (Ch.refl _ _),by decide,fun b24 w25 a25=>?_⟩
 have e25:Ext w19.drew w25:=a25.ch _
 have h25:=e25.at h19d
 have C25:Ch (fun j=>j=b) w w25:=((E15.mono fun _ _ h=>h.elim).trans c19).trans ((ed19.trans e25).mono fun _ _ h=>h.elim)
 have z25:=C25.size
 have hN25:NdA (fun j=>j≠b/\j∉blk th) w25 n:=hN.ch C25 fun j hj=>hj.1
 have hH25:Hst w25 ⟨some ⟨b24,0,none⟩,1,1⟩ [n]:=⟨by
  have:=(OwS.new (cs:=nC n.v) (n:=1) (sz:=6) a25 rfl).rd
  rw[List.flatMap_cons,List.flatMap_nil,List.append_nil];exact this,fun m hm=>by
  rw[List.mem_singleton.1 hm];exact hN25.ok,by simp,Nat.le_refl _⟩
 refine⟨cell (k:=0) h25 rfl,(c119 hH25 (by simp)).use ?_⟩
 rintro _ w27 ⟨s28,ns1,rfl,hcg,ho28,hnd28,e27,hb28⟩
 have h27:=e27.at h25
 have hn1:=Cg.len hcg
 obtain⟨n',rfl⟩:∃n',ns1=[n']:=by
  match ns1,hn1 with
  | [n'],_=>exact⟨n',rfl⟩
 have hd:dOf n'=dOf n:=by
  have hcg:List.map dOf [n']=List.map dOf [n]:=hcg
  simpa using hcg
 have C27:Ch (fun j=>j=b) w w27:=C25.trans (e27.mono fun _ _ h=>h.elim)
 have z27:=C27.size
 have zz27:=e27.size
 have ho27:=hK.own.ch C27 fun j hj e=>hK.nb (e ▸ hj)
 have hthn:=owsN nL_len (by omega) ho27
 have hs28:=ho28.len
 have h28n:s28.n=1:=by
  rw[flatLen nL_len] at hs28
  have:([n']:List Nd).length=1:=rfl
  omega
 refine⟨s28,rfl,cell (k:=0) h27 rfl,_,ho28.rd.2,ho27.append (cnt:=s28.n) rfl rfl hs28 (flatOne nL_one _) ⟨by omega,Nat.le_trans (Nat.mul_le_mul (show 2*(th.n+s28.n)<=3000000 by omega) (show _<=100000 by decide)) (by decide)⟩ fun s30 w31 ho31 hn31 hC31 hb31 _=>?_⟩
 rw[<-List.flatMap_append] at ho31
 have h31:=hC31.at h27 hK.nb
 have z31:=hC31.size
 refine⟨b,0,rfl,rfl,grPut (k:=0) (ls':=[slV s30,slV s16,slV tw]) h31 hlv (by simp) rfl rfl fun w34 h34 c34=>⟨b,0,rfl,rfl,grPut (k:=2) (ls':=[slV s30,slV s16,slV s]) h34 hlv (by simp) rfl rfl fun w37 h37 c37=>?_⟩⟩
 have C37:Ch (fun j=>j=b\/j∈blk th) w w37:=(((C27.mono fun j _ h=>.inl h).trans (hC31.mono fun j _ h=>.inr h)).trans (c34.mono fun j _ h=>.inl h)).trans (c37.mono fun j _ h=>.inl h)
 have nb30:b∉blk s30:=fun hj=>by
  rcases hb31 b hj with h|h
  ·exact hK.nb h
  ·omega
 have oldP:∀j,((D j/\j<w.heap.size)/\j≠b/\j∉blk th)->(D j\/w.heap.size<=j)/\j≠b/\j∉blk s30:=fun j hj=>⟨.inl hj.1.1,hj.2.1,fun h=>by
  rcases hb31 j h with h|h
  ·exact hj.2.2 h
  ·have:=hj.1.2;omega⟩
 have newP:∀j,w.heap.size<=j->j<w27.heap.size->(D j\/w.heap.size<=j)/\j≠b/\j∉blk s30:=fun j h1 h2=>⟨.inr h1,by omega,fun h=>by
  rcases hb31 j h with h|h
  ·have:=hthw j h;omega
  ·omega⟩
 have st:∀ {F:Nat->Prop},(∀j,F j->j=b\/j∈blk th)->∀j,((D j/\j<w.heap.size)/\j≠b/\j∉blk th)->¬F j:=fun hF j hj hf=>by
  rcases hF j hf with h|h
  ·exact hj.2.1 h
  ·exact hj.2.2 h
 have late:Ch (fun j=>j=b\/j∈blk th) w27 w37:=((hC31.mono fun j _ h=>.inr h).trans (c34.mono fun j _ h=>.inl h)).trans (c37.mono fun j _ h=>.inl h)
 have ap:∀j,w.heap.size<=j->¬(j=b\/j∈blk th):=fun j h1 h2=>by
  rcases h2 with h|h
  ·omega
  ·have:=hthw j h;omega
 have C5_27:Ch (fun j=>j=b) w5 w27:=((ed.trans e15).mono fun _ _ h=>h.elim).trans (c19.trans (((ed19.trans e25).trans e27).mono fun _ _ h=>h.elim))
 have C15_27:Ch (fun j=>j=b) w15 w27:=c19.trans (((ed19.trans e25).trans e27).mono fun _ _ h=>h.elim)
 have wy27:OwS w27 s 2 (ms.flatMap setC):=hos.ch C5_27 fun j hj e=>by have:=hsnew j hj;omega
 have wy37:OwS w37 s 2 (ms.flatMap setC):=wy27.ch late fun j hj=>ap j (hsnew j hj)
 have hcg':Cg (ns++[n]) (ns++[n']):=by
  show List.map dOf _=List.map dOf _
  rw[List.map_append,List.map_append];simp[hd]
 have on27:OwS w27 s16 1 (rows'.map hR):=hOR.own.ch C15_27 fun j hj e=>by have:=hOR.new j hj;omega
 have row27:∀r∈rows',OwS w27 r.1 1 (r.2.map iv):=fun r hr=>(hOR.row r hr).ch C15_27 fun j hj e=>by have:=hOR.rnew r hr j hj;omega
 refine⟨0,s30,ns++[n'],rfl,hA,fun _=>⟨n',hd,rfl⟩,fun h=>absurd rfl h,⟨v,s16,s,rows',ms,⟨⟨_,h37⟩,(hK.cat.ch C37 (st fun j h=>h)).mono oldP,hK.br,hK.b16,hK.brr,?_,fun m hm=>?_,on27.ch late fun j hj=>ap j (by have:=hOR.new j hj;omega),fun j hj=>newP j (by have:=hOR.new j hj;omega) (on27.lt j hj),fun r hr=>⟨(row27 r hr).ch late fun j hj=>ap j (by have:=hOR.rnew r hr j hj;omega),fun j hj=>newP j (by have:=hOR.rnew r hr j hj;omega) ((row27 r hr).lt j hj)⟩,wy37,fun j hj=>newP j (hsnew j hj) (wy27.lt j hj),.inl hK.db.1,fun j hj=>?_,nb30⟩,⟨hP.ok,hgood.1.cg hcg',by simp;omega,by rw[hrl'];simp,fun i r hr=>(hrw' i r hr).cg hcg',by rw[hml];simp,hmb,fun i j m hm=>(hmw i j m hm).trans ⟨fun t=>t.cg hcg',fun t=>t.cg hcg'.symm⟩,hgood.2.imp fun r hr=>hr.cg hcg'⟩⟩,C37,fun j hj=>?_⟩
 ·exact(ho31.ch c34 fun j hj e=>nb30 (e ▸ hj)).ch c37 fun j hj e=>nb30 (e ▸ hj)
 ·rcases List.mem_append.1 hm with h|h
  ·exact((hK.nd m h).ch C37 (st fun j h=>h)).mono oldP
  ·rw[List.mem_singleton.1 h]
   have h28:=(hnd28 n' (by simp)).old
   exact(h28.ch late fun j hj=>ap j (by have:=hj.1.1;omega)).mono fun j hj=>newP j (by have:=hj.1.1;omega) hj.2
 ·rcases hb31 j hj with h|h
  ·exact .inl (hK.dth j h).1
  ·exact .inr (by omega)
 ·rcases hb31 j hj with h|h
  ·exact .inl h
  ·exact .inr (by omega)
section
variable {D:Nat->Prop} {w:World} {b:Nat} {th:Sl} {x:CatD} {ns:List Nd}
theorem c128(hG:GrM D w b th x ns)(i:Int):Cw 128 #[.pointer (some ⟨b,0,none⟩),iv i] w fun r w'=>r=.bool (decide (0<=i/\i<(ns.length:Int)))/\w=w':=by
 obtain⟨v,ton,tw,rows,ms,hK,hP⟩:=hG
 have hn:=owsN nL_len (by omega) hK.own
 refine F128_ok (some ⟨b,0,none⟩) i w _ (IfB.yes rfl (IfB.dec (fun h1=>⟨b,0,rfl,th,hK.slot.1,?_,rfl⟩) fun h1=>⟨?_,rfl⟩))
 ·congr 1
  rw[Bool.eq_iff_iff,decide_eq_true_eq,decide_eq_true_eq];omega
 ·congr 1
  rw[eq_comm,decide_eq_false_iff_not];omega
theorem c65(hG:GrM D w b th x ns):Cw 65 #[.pointer (some ⟨b,0,none⟩)] w fun r w'=>∃t' ks,r=slV t'/\Cg ks ns/\OwS w' t' 6 (ks.flatMap nL)/\(∀n∈ks,NdD (fun j=>w.heap.size<=j/\j∉blk t') w' n)/\Ext w w'/\∀j∈blk t',w.heap.size<=j:=by
 obtain⟨v,ton,tw,rows,ms,hK,hP⟩:=hG
 have hl:=hP.len
 refine F65_ok (some ⟨b,0,none⟩) w _ (IfB.no rfl ⟨b,0,rfl,th,hK.slot.1,(c119 (hK.hst (by omega)) (by omega)).use ?_⟩)
 rintro _ w5 ⟨t',ks,rfl,h1,h2,h3,h4,h5⟩
 exact⟨t',rfl,t',ks,rfl,h1,h2,h3,h4,h5⟩
theorem c66(hG:GrM D w b th x ns):Cw 66 #[.pointer (some ⟨b,0,none⟩)] w fun r w'=>∃(t':Sl)(os:List Nat),r=slV t'/\OwS w' t' 1 (os.map fun k:Nat=>iv (k:Int))/\(∃ys,ArcsP x ns ys/\ToldP ys ns.length os)/\os.length=ns.length/\Ext w w':=by
 obtain⟨v,ton,tw,rows,ms,hK,hP⟩:=hG
 have hl:=hP.len
 have ed:=extDrew w
 have hK':=hK.ch ed fun _ _=>id
 refine F66_ok (some ⟨b,0,none⟩) w _ (IfB.no rfl ⟨b,0,rfl,v,hK'.slot.2.2.2,b,0,rfl,th,hK'.slot.1,(c37 hK'.catM (hK'.hst (by omega)) (by omega)).use ?_⟩)
 rintro _ w10 ⟨t',os,rfl,h1,_,h2,h3,_⟩
 obtain⟨ys,out,hA,hT,ho⟩:=h2 hP.may
 have hfull:=(told_iff hP.may hA hT).2 hP.fair
 rw[if_pos hfull] at ho
 subst ho
 exact⟨t',rfl,t',os,rfl,h1,⟨ys,hA,hT⟩,hfull,ed.trans h3⟩
theorem c67(hG:GrM D w b th x ns)(i:Int):Cw 67 #[.pointer (some ⟨b,0,none⟩),iv i] w fun r w'=>∃(t':Sl)(xs:List Int),r=slV t'/\OwS w' t' 1 (xs.map iv)/\(0<=i/\i<(ns.length:Int)->RowOf ns i.toNat xs)/\(¬(0<=i/\i<(ns.length:Int))->xs=[])/\xs.length<=1000/\Ext w w':=by
 have hG':=hG
 obtain⟨v,ton,tw,rows,ms,hK,hP⟩:=hG
 have hl:=hP.len
 refine F67_ok (some ⟨b,0,none⟩) i w _ ((c128 hG' i).use ?_)
 rintro _ _ ⟨rfl,rfl⟩
 refine⟨_,rfl,IfB.intro (fun h1=>?_) fun h1=>?_⟩
 ·have h1:¬(0<=i/\i<(ns.length:Int)):=of_decide_eq_false (Bool.not_eq_true' _ ▸ h1)
  exact⟨⟨none,0,0⟩,[],rfl,.nil _ _,fun h=>absurd h h1,fun _=>rfl,Nat.zero_le _,Ch.refl _ _⟩
 have h1:0<=i/\i<(ns.length:Int):=by simpa using h1
 have hrl:=hP.rl
 have hi:i.toNat<rows.length:=by omega
 have hx:rows[i.toNat]? =some rows[i.toNat]:=List.getElem?_eq_getElem hi
 generalize rows[i.toNat]=r at hx
 obtain⟨⟨pb,po,hp,hc⟩,hr,hrn⟩:=hK.rws.at hx
 have hro:=hP.rw _ r hx
 have hlen:r.2.length<=50:=by
  have hnd:r.2.Nodup:=hro.srt.imp fun h=>by omega
  have:=nodup_le (a:=r.2.map Int.toNat) (b:=List.range i.toNat) ?_ ?_
  ·rw[List.length_map,List.length_range] at this;omega
  ·refine List.nodup_iff_pairwise_ne.2 (List.pairwise_map.2 (hro.srt.imp_of_mem fun ha hb h=>?_))
   obtain⟨a',rfl,_⟩:=(hro.mem _).1 ha
   obtain⟨b',rfl,_⟩:=(hro.mem _).1 hb
   omega
  ·intro k hk
   obtain⟨q,hq,rfl⟩:=List.mem_map.1 hk
   obtain⟨q',rfl,hd⟩:=(hro.mem _).1 hq
   have:=Dp_lt hd
   exact List.mem_range.2 (by omega)
 have hrn':=hK.rws.n
 refine⟨b,0,rfl,ton,hK.slot.2.1,pb,po,hp,⟨h1.1,by omega⟩,r.1,hc,(c111 hr (by omega)).use ?_⟩
 rintro _ w11 ⟨t',rfl,ho,e11,_⟩
 exact⟨t',rfl,t',r.2,rfl,ho,fun _=>hro,fun h=>absurd h1 h,by omega,e11⟩
theorem c68(hG:GrM D w b th x ns)(i k:Int):Cw 68 #[.pointer (some ⟨b,0,none⟩),iv i,iv k] w fun r w'=>∃t,r=.bool t/\(t=true↔(0<=i/\i<(ns.length:Int))/\(0<=k/\k<(ns.length:Int))/\TC (ArcE x ns) i.toNat k.toNat)/\Ext w w':=by
 have hG':=hG
 obtain⟨v,ton,tw,rows,ms,hK,hP⟩:=hG
 have hl:=hP.len
 have hml:=hP.ml
 have no:¬((0<=i/\i<(ns.length:Int))/\(0<=k/\k<(ns.length:Int))/\TC (ArcE x ns) i.toNat k.toNat)->∃t,Value.bool false=.bool t/\(t=true↔(0<=i/\i<(ns.length:Int))/\(0<=k/\k<(ns.length:Int))/\TC (ArcE x ns) i.toNat k.toNat)/\Ext w w:=fun h=>⟨false,rfl,⟨fun h=>(by cases h),fun h'=>absurd h' h⟩,Ch.refl _ _⟩
 refine F68_ok (some ⟨b,0,none⟩) i k w _ ((c128 hG' i).use ?_)
 rintro _ _ ⟨rfl,rfl⟩
 refine⟨_,rfl,IfB.intro (fun h1=>(c128 hG' k).use ?_) fun h1=>no fun h=>?_⟩
 ·rintro _ _ ⟨rfl,rfl⟩
  refine⟨_,rfl,IfB.intro (fun h2=>?_) fun h2=>no fun h=>?_⟩
  ·have h1:0<=i/\i<(ns.length:Int):=by simpa using h1
   have h2:0<=k/\k<(ns.length:Int):=by simpa using h2
   have hx:ms[i.toNat]? =some (ms[i.toNat]'(by omega)):=List.getElem?_eq_getElem (by omega)
   have hmb:=hP.mb _ (List.getElem_mem (show i.toNat<ms.length by omega))
   generalize ms[i.toNat]'_=m at hx hmb
   have hmn:=owsN setC_len (by omega) hK.wy
   obtain⟨pb,po,hp,hc⟩:=hK.wy.rd.elem (i:=i.toNat) (by omega) (by omega) (flatGet setC_len hx)
   refine⟨b,0,rfl,tw,hK.slot.2.2.1,pb,po,hp,⟨h1.1,by omega⟩,setP m,hc,?_⟩
   have hk:k=((k.toNat:Nat):Int):=by omega
   have hh:=c129 hmb (show k.toNat<64 by omega) w
   rw[<-hk] at hh
   refine hh.use ?_
   rintro _ w14 ⟨rfl,e14⟩
   exact⟨_,rfl,_,rfl,by rw[hP.mw _ _ m hx];exact⟨fun h=>⟨h1,h2,h⟩,fun h=>h.2.2⟩,e14⟩
  ·rw[decide_eq_true h.2.1] at h2;cases h2
 ·rw[decide_eq_true h.1] at h1;cases h1
theorem c57(hG:GrM D w b th x ns):Cw 57 #[.pointer (some ⟨b,0,none⟩)] w fun r w'=>∃b' th',r=.pointer (some ⟨b',0,none⟩)/\GrM (fun j=>(D j/\j≠b/\j∉blk th)\/w.heap.size<=j) w' b' th' x ns/\w.heap.size<=b'/\(∀j∈blk th',w.heap.size<=j)/\Ext w w':=by
 obtain⟨v,ton,tw,rows,ms,hK0,hP⟩:=hG
 have hK:=hK0.old
 have hl:=hP.len
 have hrl:=hP.rl
 have hml:=hP.ml
 have ed:=extDrew w
 have hKd:=hK.ch ed fun _ _=>id
 refine H57_ok (some ⟨b,0,none⟩) w _ (IfB.no rfl ⟨b,0,rfl,v,hKd.slot.2.2.2,b,0,rfl,th,hKd.slot.1,b,0,rfl,ton,hKd.slot.2.1,b,0,rfl,tw,hKd.slot.2.2.1,?_⟩)
 have hrd:=hKd.own.rd
 rw[flat_v] at hrd
 refine(c96 hrd (by rw[List.length_map];omega)).use ?_
 rintro _ w16 ⟨s17,rfl,ho17,e16,hb17⟩
 rw[<-flat_v] at ho17
 have hK16:=hKd.ch e16 fun _ _=>id
 have hton:=hK.rws.n
 refine⟨s17,rfl,hK16.slot.2.2.1,hK16.slot.2.1,hK16.slot.2.2.2,(c120 hK16.on.rd (fun v hv=>by obtain⟨r,_,rfl⟩:=List.mem_map.1 hv;rfl) (by omega)).use ?_⟩
 rintro _ w21 ⟨s22,rfl,ho22,_,e21,hb22⟩
 have hK21:=hK16.ch e21 fun _ _=>id
 have htw:=owsN setC_len (by omega) hK.wy
 refine⟨s22,rfl,hK21.slot.2.2.1,hK21.slot.2.2.2,(c121 hK21.wy.rd (flatOne setC_one _) (by omega)).use ?_⟩
 rintro _ w26 ⟨s27,rfl,ho27,_,e26,hb27⟩
 have hK26:=hK21.ch e26 fun _ _=>id
 refine⟨s27,rfl,hK26.slot.2.2.2,?_⟩
 have hv16:v.2.length=16:=by have:=grC_len hK;rw[List.length_cons] at this;omega
 rw[grF_all hv16]
 refine fun b31 w32 a32=>?_
 have e32:Ext w26 w32:=a32.ch _
 have E26:Ext w w26:=((ed.trans e16).trans e21).trans e26
 have z0:=(ed.trans e16).size;have z16:=e16.size;have z21:=e21.size;have z26:=e26.size;have p32:=a32.here
 have zd:w.drew.heap.size=w.heap.size:=rfl
 have lt17:∀j∈blk s17,j<w16.heap.size:=ho17.lt
 have lt22:∀j∈blk s22,j<w21.heap.size:=ho22.lt
 have lt27:∀j∈blk s27,j<w26.heap.size:=ho27.lt
 have oldP:∀j,((D j/\j<w.heap.size)/\j≠b/\j∉blk th)->((D j/\j≠b/\j∉blk th)\/w.heap.size<=j)/\j≠b31/\j∉blk s17:=fun j hj=>⟨.inl ⟨hj.1.1,hj.2⟩,by have:=hj.1.2;omega,fun h=>by have:=hb17 j h;have:=hj.1.2;omega⟩
 have hK32:=hK26.ch e32 fun _ _=>id
 refine⟨b31,s17,rfl,⟨v,s22,s27,rows,ms,⟨⟨_,a32.new⟩,hK32.cat.mono oldP,hK.br,hK.b16,hK.brr,((ho17.ext e21).ext e26).ext e32,fun n hn=>(hK32.nd n hn).mono oldP,(ho22.ext e26).ext e32,fun j hj=>⟨.inr (by have:=hb22 j hj;omega),by have:=lt22 j hj;omega,fun h=>by have:=hb22 j hj;have:=lt17 j h;omega⟩,fun r hr=>⟨(hK32.row r hr).1,fun j hj=>oldP j ((hK32.row r hr).2 j hj)⟩,ho27.ext e32,fun j hj=>⟨.inr (by have:=hb27 j hj;omega),by have:=lt27 j hj;omega,fun h=>by have:=hb27 j hj;have:=lt17 j h;omega⟩,.inr (by omega),fun j hj=>.inr (by have:=hb17 j hj;omega),fun h=>by have:=lt17 _ h;omega⟩,hP⟩,by omega,fun j hj=>by have:=hb17 j hj;omega,E26.trans e32⟩
end
def alvH(s5 s6:Sl):List Nd:=[⟨(1,0,0,false,nilS,s5),[],[(5,5)]⟩,⟨(2,0,0,false,nilS,s5),[],[(5,5)]⟩,⟨(2,0,1,false,nilS,s6),[],[(6,6)]⟩,⟨(1,0,1,false,nilS,s6),[],[(6,6)]⟩]
theorem alvH_may(s5 s6:Sl):HMay catA (alvH s5 s6):=by
 have h5:SpsOk [(5,5)]:=⟨by decide,fun s hs=>by rw[List.mem_singleton.1 hs];unfold mayS;omega⟩
 have h6:SpsOk [(6,6)]:=⟨by decide,fun s hs=>by rw[List.mem_singleton.1 hs];unfold mayS;omega⟩
 have h0:SpsOk []:=⟨by decide,fun s hs=>by cases hs⟩
 refine⟨catA_ok,(by decide:4<=100),fun i n hn=>?_⟩
 match i,hn with
 | 0,hn=>cases hn;exact⟨(by decide:(0:Int)<=1),(by decide:(0:Int)<=0),(by decide:(0:Int)<1),(by decide:(0:Int)<=0),h0,h5,(⟨rfl,rfl⟩:nextP none _ _)⟩
 | 1,hn=>cases hn;exact⟨(by decide:(0:Int)<=2),(by decide:(0:Int)<=0),(by decide:(0:Int)<1),(by decide:(0:Int)<=0),h0,h5,(⟨rfl,rfl⟩:nextP none _ _)⟩
 | 2,hn=>cases hn;exact⟨(by decide:(0:Int)<=2),(by decide:(0:Int)<=0),(by decide:(0:Int)<1),(by decide:(0:Int)<=1),h0,h6,(⟨rfl,rfl,(by decide:(1:Int)<2)⟩:nextP (some ⟨(2,0,0,false,nilS,s5),[],[(5,5)]⟩) ⟨(2,0,1,false,nilS,s6),[],[(6,6)]⟩ _)⟩
 | 3,hn=>cases hn;exact⟨(by decide:(0:Int)<=1),(by decide:(0:Int)<=0),(by decide:(0:Int)<1),(by decide:(0:Int)<=1),h0,h6,(⟨rfl,rfl,(by decide:(1:Int)<2)⟩:nextP (some ⟨(1,0,0,false,nilS,s5),[],[(5,5)]⟩) ⟨(1,0,1,false,nilS,s6),[],[(6,6)]⟩ _)⟩
theorem alvH_get(s5 s6:Sl){i:Nat}{n:Nd}(h:(alvH s5 s6)[i]? =some n):(i=0/\n.v.1=1)\/(i=1/\n.v.1=2)\/(i=2/\n.v.1=2)\/(i=3/\n.v.1=1):=by
 match i,h with
 | 0,h=>cases h;exact .inl ⟨rfl,rfl⟩
 | 1,h=>cases h;exact .inr (.inl ⟨rfl,rfl⟩)
 | 2,h=>cases h;exact .inr (.inr (.inl ⟨rfl,rfl⟩))
 | 3,h=>cases h;exact .inr (.inr (.inr ⟨rfl,rfl⟩))
theorem alvH_good(s5 s6:Sl):FairR catA ((alvH s5 s6).take 3) id:=by
 refine⟨fun i j _ _ e=>e,fun i k e=>e.1,fun o a b u no na ho ha hne hab h1 h2 hau hd=>?_⟩
 obtain⟨nb,hb,hsb⟩:=hab.saga ha
 have k1:=alvH_get s5 s6 (take_get ho).2
 have k2:=alvH_get s5 s6 (take_get ha).2
 have k3:=alvH_get s5 s6 (take_get hb).2
 have l1:=(take_get ho).1;have l2:=(take_get ha).1;have l3:=(take_get hb).1
 have h1:a<=o:=h1
 have h2:o<=b:=h2
 omega
theorem alvH_bad(s5 s6:Sl)(r:Nat->Nat):¬FairR catA (alvH s5 s6) r:=by
 intro h
 have m5:hasS [(5,5)] 5:=⟨_,List.mem_singleton.2 rfl,by unfold mayS;omega,by omega,by omega⟩
 have m6:hasS [(6,6)] 6:=⟨_,List.mem_singleton.2 rfl,by unfold mayS;omega,by omega,by omega⟩
 have h10:EdP (alvH s5 s6) 1 0:=⟨by omega,_,_,rfl,rfl,.inr ⟨by simp,.inr (.inl ⟨5,m5,m5⟩)⟩⟩
 have h21:EdP (alvH s5 s6) 2 1:=⟨by omega,_,_,rfl,rfl,.inl rfl⟩
 have h32:EdP (alvH s5 s6) 3 2:=⟨by omega,_,_,rfl,rfl,.inr ⟨by simp,.inr (.inl ⟨6,m6,m6⟩)⟩⟩
 have k1:=h.keep _ _ h10
 have k2:=h.keep _ _ h21
 have k3:=h.keep _ _ h32
 have u0:∀c d k,unitN catA c d k=0:=fun c d k=>by
  induction k with
  | zero=>rfl
  | succ k ih=>rw[unitN,ih,brkBA];rfl
 have hin:InP catA (alvH s5 s6) 0 3 0:=.inr ⟨_,_,rfl,rfl,rfl,rfl,rfl,by unfold uN;rw[u0,u0]⟩
 exact h.fair 1 0 3 0 _ _ rfl rfl (by simp) hin (by omega) (by omega) (.inl rfl) (.inl (.one h10))
def GxOYby0:ByteArray:=(ByteArray.mk (Array.mk ([(97:UInt8)] )))
set_option linter.unusedVariables false
set_option maxRecDepth 100000
def F122k1(w19:World)(b14:Nat)(b16:Nat)(R:RV)(b3:Nat)(y1:Nat->Int->World->Prop)(n4:Int):Prop:=Qi w19 b14 (0+1) fun n22=>Qi w19 b16 (0+1) fun n23=>IfB (n22 != n23) (R (Value.bool false) w19) (Qi w19 b14 (0+2) fun n24=>Qi w19 b16 (0+2) fun n25=>IfB (n24 != n25) (R (Value.bool false) w19) (Qb w19 b14 (0+3) fun t26=>Qb w19 b16 (0+3) fun t27=>IfB (!t26 == t27) (R (Value.bool false) w19) (Qs w19 b14 (0+4) fun s28=>Qs w19 b16 (0+4) fun s29=>Qv' 177 #[Qy s28,Qy s29] w19 fun t32 w31=>IfB (!t32) (R (Value.bool false) w31) (Qs w31 b14 (0+5) fun s33=>Qs w31 b16 (0+5) fun s34=>Qv' 177 #[Qy s33,Qy s34] w31 fun t37 w36=>IfB (!t37) (R (Value.bool false) w36) (Qn y1 b3 (IntKind.i64.wrap (n4+1)) w36)))))
def F122k2(t0:Sl)(n4:Int)(w5:World)(t1:Sl)(R:RV)(b3:Nat)(y1:Nat->Int->World->Prop):Prop:=Qx t0.1 n4 (t0.2:Int) fun b8 b9=>∃(x10:Int×Int×Int×Bool×Sl×Sl),CellsAt w5.drew b8 (b9+n4.toNat*6) (lC53 x10)/\Qx t1.1 n4 (t1.2:Int) fun b11 b12=>∃(x13:Int×Int×Int×Bool×Sl×Sl),CellsAt w5.drew b11 (b12+n4.toNat*6) (lC53 x13)/\(AllocP w5.drew (Obj.cells #[Qz 0,Qz 0,Qz 0,Value.bool false,Value.slice none 0 0,Value.slice none 0 0] 53) fun b14 w15=>CellsAt w15 b11 (b12+n4.toNat*6) (lC53 x13)/\CellsAt w15 b8 (b9+n4.toNat*6) (lC53 x10)/\AllocP w15 (Obj.cells #[Qz 0,Qz 0,Qz 0,Value.bool false,Value.slice none 0 0,Value.slice none 0 0] 53) fun b16 w17=>CellsAt w17 b11 (b12+n4.toNat*6) (lC53 x13)/\CellsAt w17 b8 (b9+n4.toNat*6) (lC53 x10)/\(lC53 x10).toArray.size=6/\StoreP w17 b14 0 (lC53 x10) fun w18=>CellsAt w18 b11 (b12+n4.toNat*6) (lC53 x13)/\(lC53 x13).toArray.size=6/\StoreP w18 b16 0 (lC53 x13) fun w19=>Qi w19 b14 (0+0) fun n20=>Qi w19 b16 (0+0) fun n21=>IfB (n20 != n21) (R (Value.bool false) w19) (F122k1 w19 b14 b16 R b3 y1 n4))/\AllocP w5.drew (Obj.cells #[Qz 0,Qz 0,Qz 0,Value.bool false,Value.slice none 0 0,Value.slice none 0 0] 53) fun b39 w40=>CellsAt w40 b11 (b12+n4.toNat*6) (lC53 x13)/\CellsAt w40 b8 (b9+n4.toNat*6) (lC53 x10)/\AllocP w40 (Obj.cells #[Qz 0,Qz 0,Qz 0,Value.bool false,Value.slice none 0 0,Value.slice none 0 0] 53) fun b41 w42=>CellsAt w42 b11 (b12+n4.toNat*6) (lC53 x13)/\CellsAt w42 b8 (b9+n4.toNat*6) (lC53 x10)/\(lC53 x10).toArray.size=6/\StoreP w42 b41 0 (lC53 x10) fun w43=>CellsAt w43 b11 (b12+n4.toNat*6) (lC53 x13)/\(lC53 x13).toArray.size=6/\StoreP w43 b39 0 (lC53 x13) fun w44=>Qi w44 b41 (0+0) fun n45=>Qi w44 b39 (0+0) fun n46=>IfB (n45 != n46) (R (Value.bool false) w44) (F122k1 w44 b41 b39 R b3 y1 n4)
def F122j1(t0:Sl)(t1:Sl)(R:RV)(y1:Nat->Int->World->Prop)(b3:Nat)(n4:Int)(w5:World):Prop:=IfB (decide (n4<(t0.n:Int))) (F122k2 t0 n4 w5 t1 R b3 y1) (R (Value.bool true) w5)
theorem F122_ok(t0:Sl)(t1:Sl)(w:World)(R:RV)(h:IfB ((t0.2:Int) != (t1.2:Int)) (R (Value.bool false) w) (Ql (α:=Int) 0 w fun y1 b3 n4 w5=>(F122j1 t0 t1 R y1 b3 n4 w5))):Cw 122 #[Qy t0,Qy t1] w R:=
 ckF Tryz.func122 (nd (nd (.node (nd (.loop [(5,oi)] (rg [4,7,13,68]) (nd (.node (.node (.draw (sts [0,1,2,3,4,5,6,7] (.ac 8 (rg [0,7]) (.ac 9 (rg [0,7]) (.ac 10 [7,6,5,4] (.ac 11 [] .fin .non) .non) .non) (.ac 9 (rg [0,7]) (.ac 8 (rg [0,7]) (.ac 10 [7,6,5,4] (.ac 11 [] .fin .non) .non) .non) .non)))) .nil) .nil)))) .nil))) h (by kernel_rfl) (by kernel_rfl)
def F177j1(t0:Sl)(t1:Sl)(R:RV)(y1:Nat->Int->World->Prop)(b3:Nat)(n4:Int)(w5:World):Prop:=IfB (decide (n4<(t0.n:Int))) (Qx t0.1 n4 (t0.2:Int) fun b8 b9=>∃(x10:Int×Int),CellsAt w5.drew b8 (b9+n4.toNat*2) [Qz x10.1,Qz x10.2]/\Qx t1.1 n4 (t1.2:Int) fun b11 b12=>∃(x13:Int×Int),CellsAt w5.drew b11 (b12+n4.toNat*2) [Qz x13.1,Qz x13.2]/\∃t14:Bool,EqAt Tryz.prog 101 (Value.agg #[Qz x10.1,Qz x10.2]) (Value.agg #[Qz x13.1,Qz x13.2]) t14/\IfB (!t14) (R (Value.bool false) w5.drew) (Qn y1 b3 (IntKind.i64.wrap (n4+1)) w5.drew)) (R (Value.bool true) w5)
theorem F177_ok(t0:Sl)(t1:Sl)(w:World)(R:RV)(h:IfB ((t0.2:Int) != (t1.2:Int)) (R (Value.bool false) w) (Ql (α:=Int) 0 w fun y1 b3 n4 w5=>(F177j1 t0 t1 R y1 b3 n4 w5))):Cw 177 #[Qy t0,Qy t1] w R:=
 ckF Tryz.func177 (nd (nd (.node (nd (.loop [(5,oi)] (rg [4,5,11,25]) (nd (.node (.node (.draw (sts [0,1,2,3,4,5,6,7,8] .fin)) .nil) .nil)))) .nil))) h (by kernel_rfl) (by kernel_rfl)
def F52k1(n26:Int)(n29:Int)(p16:Option Addr)(b19:Nat)(w28:World)(R:RV):Prop:=IfB (n26 == 0) (IfB (n29 == 0) (Qw' 56 #[Value.pointer p16,Value.agg #[Qz 1,Qz 0,Qz 1,Value.bool false,Value.slice none 0 0,Value.slice (some ⟨b19,0,none⟩) 1 1]] w28 fun n32 w31=>IfB (n32 == 11) (Qu' 65 #[Value.pointer p16] w31 fun s35 w34=>R (Value.bool ((s35.2:Int) == 3)) w34) (R (Value.bool false) w31)) (R (Value.bool false) w28)) (R (Value.bool false) w28)
def F52(w:World)(R:RV):Prop:=1*9<=16777216/\AllocP w (Obj.cells #[Qz 5,Qz 0,Qz 0,Qz 0,Qz 0,Qz 0,Qz 0,Qz 0,Qz 0] 95) fun b1 w2=>AllocP w2 (Obj.cells #[Value.slice none 0 0,Value.slice none 0 0] 99) fun b3 w4=>#[Value.slice (some ⟨b1,0,none⟩) 1 1,Value.slice none 0 0].size=2/\StoreP w4 b3 0 [Value.slice (some ⟨b1,0,none⟩) 1 1,Value.slice none 0 0] fun w5=>∃(x6:Sl×Sl),CellsAt w5.drew b3 0 [Qy x6.fst,Qy x6.snd]/\∃(x7:Sl×Sl),CellsAt w5.drew b3 0 [Qy x7.fst,Qy x7.snd]/\(2*2<=16777216/\AllocP w5.drew (Obj.cells #[Qy x6.fst,Qy x6.snd,Qy x7.fst,Qy x7.snd] 99) fun b8 w9=>((0:Int)<=2/\(2:Int)<=2/\(2:Int)<=281474976710656/\((48:Nat):Int)*(2:Int)<=281474976710656)/\AllocP w9 (Obj.cells { toList:=zc #[Value.slice none 0 0,Value.slice none 0 0] (Int.toNat 2) } 99) fun b10 w11=>1*5<=16777216/\AllocP w11 (Obj.cells #[Value.string GxOYby0,Qz 0,Value.slice (some ⟨b8,0,none⟩) 2 2,Value.slice (some ⟨b10,0,none⟩) (Int.toNat 2) (Int.toNat 2),Value.bool false] 49) fun b12 w13=>Cx 54 #[Value.agg #[Value.slice (some ⟨b12,0,none⟩) 1 1,Qz 0,Qz 0,Qz 0,Qz 0,Qz 0,Qz 0,Qz 0,Qz 0,Qz 0,Qz 0,Qz 0,Qz 0,Qz 0,Qz 0,Qz 0,Qz 0]] w13 fun v14 w15=>∃(p16:Option Addr),v14=Value.pointer p16/\1*2<=16777216/\AllocP w15 (Obj.cells #[Qz 5,Qz 5] 101) fun b17 w18=>1*2<=16777216/\AllocP w18 (Obj.cells #[Qz 6,Qz 6] 101) fun b19 w20=>Qw' 56 #[Value.pointer p16,Value.agg #[Qz 1,Qz 0,Qz 0,Value.bool false,Value.slice none 0 0,Value.slice (some ⟨b17,0,none⟩) 1 1]] w20 fun n23 w22=>Qw' 56 #[Value.pointer p16,Value.agg #[Qz 2,Qz 0,Qz 0,Value.bool false,Value.slice none 0 0,Value.slice (some ⟨b17,0,none⟩) 1 1]] w22 fun n26 w25=>Qw' 56 #[Value.pointer p16,Value.agg #[Qz 2,Qz 0,Qz 1,Value.bool false,Value.slice none 0 0,Value.slice (some ⟨b19,0,none⟩) 1 1]] w25 fun n29 w28=>IfB (n23 == 0) (F52k1 n26 n29 p16 b19 w28 R) (R (Value.bool false) w28))/\((0:Int)<=2/\(2:Int)<=2/\(2:Int)<=281474976710656/\((48:Nat):Int)*(2:Int)<=281474976710656)/\AllocP w5.drew (Obj.cells { toList:=zc #[Value.slice none 0 0,Value.slice none 0 0] (Int.toNat 2) } 99) fun b36 w37=>CellsAt w37 b3 0 [Qy x7.fst,Qy x7.snd]/\CellsAt w37 b3 0 [Qy x6.fst,Qy x6.snd]/\2*2<=16777216/\AllocP w37 (Obj.cells #[Qy x6.fst,Qy x6.snd,Qy x7.fst,Qy x7.snd] 99) fun b38 w39=>1*5<=16777216/\AllocP w39 (Obj.cells #[Value.string GxOYby0,Qz 0,Value.slice (some ⟨b38,0,none⟩) 2 2,Value.slice (some ⟨b36,0,none⟩) (Int.toNat 2) (Int.toNat 2),Value.bool false] 49) fun b40 w41=>Cx 54 #[Value.agg #[Value.slice (some ⟨b40,0,none⟩) 1 1,Qz 0,Qz 0,Qz 0,Qz 0,Qz 0,Qz 0,Qz 0,Qz 0,Qz 0,Qz 0,Qz 0,Qz 0,Qz 0,Qz 0,Qz 0,Qz 0]] w41 fun v42 w43=>∃(p44:Option Addr),v42=Value.pointer p44/\1*2<=16777216/\AllocP w43 (Obj.cells #[Qz 5,Qz 5] 101) fun b45 w46=>1*2<=16777216/\AllocP w46 (Obj.cells #[Qz 6,Qz 6] 101) fun b47 w48=>Qw' 56 #[Value.pointer p44,Value.agg #[Qz 1,Qz 0,Qz 0,Value.bool false,Value.slice none 0 0,Value.slice (some ⟨b45,0,none⟩) 1 1]] w48 fun n51 w50=>Qw' 56 #[Value.pointer p44,Value.agg #[Qz 2,Qz 0,Qz 0,Value.bool false,Value.slice none 0 0,Value.slice (some ⟨b45,0,none⟩) 1 1]] w50 fun n54 w53=>Qw' 56 #[Value.pointer p44,Value.agg #[Qz 2,Qz 0,Qz 1,Value.bool false,Value.slice none 0 0,Value.slice (some ⟨b47,0,none⟩) 1 1]] w53 fun n57 w56=>IfB (n51 == 0) (F52k1 n54 n57 p44 b47 w56 R) (R (Value.bool false) w56)
theorem F52_ok(w:World)(R:RV)(h:F52 w R):Cw 52 #[] w R:=
 call_of tbOk mixed en52 Tryz.func52 rfl (nd (nd (.node (.draw (sts [0,1] (.ac 2 [] (.ac 3 [] (.st 4 (.ac 5 [] (.st 6 (.ac 7 [] (.st 8 .fin) .non)) .non)) .non) (.ac 3 [1,0] (.ac 2 [] (.st 4 (.ac 5 [] (.st 6 (.ac 7 [] (.st 8 .fin) .non)) .non)) .non) .non)))) .nil))) (by kernel_rfl) (Nat.le_of_ble_eq_true (by kernel_rfl)) (Eq.mp (α:=F52 w R) (by kernel_rfl) h)
def F59j2(t0:Option Addr)(t2:Sl)(R:RV)(s8:Sl)(s13:Sl)(y14:Nat->Int->World->Prop)(b16:Nat)(n17:Int)(s23:Sl)(y24:Nat->Int×Int->World->Prop)(b26:Nat)(x27:Int×Int)(w28:World):Prop:=IfB (decide (x27.snd<(t2.n:Int))) (Qx s8.1 n17 (s8.2:Int) fun b31 b32=>Qs w28 b31 (b32+n17.toNat) fun s33=>Qx s33.1 x27.2 (s33.2:Int) fun b34 b35=>Qb w28 b34 (b35+x27.2.toNat) fun t36=>IfB t36 (IfB (decide ((s23.n:Int)<=x27.fst)) (R (Value.bool false) w28) (Qx s23.1 x27.1 (s23.2:Int) fun b37 b38=>Qi w28 b37 (b38+x27.1.toNat) fun n39=>IfB (n39 != x27.2) (R (Value.bool false) w28) (Qx s13.1 n17 (s13.2:Int) fun b40 b41=>Qs w28.drew b40 (b41+n17.toNat) fun s42=>Qx s42.1 x27.2 (s42.2:Int) fun b43 b44=>Qb w28.drew b43 (b44+x27.2.toNat) fun t45=>Qv' 68 #[Value.pointer t0,Qz n17,Qz x27.2] w28.drew fun t48 w47=>w47.cell? ⟨b43,b44+x27.2.toNat,none⟩=some (Value.bool t45)/\w47.cell? ⟨b40,b41+n17.toNat,none⟩=some (Qy s42)/\IfB (!t48 == t45) (R (Value.bool false) w47) (Qn y24 b26 (IntKind.i64.wrap (x27.1+1),IntKind.i64.wrap (x27.2+1)) w47)))) (Qx s13.1 n17 (s13.2:Int) fun b50 b51=>Qs w28.drew b50 (b51+n17.toNat) fun s52=>Qx s52.1 x27.2 (s52.2:Int) fun b53 b54=>Qb w28.drew b53 (b54+x27.2.toNat) fun t55=>Qv' 68 #[Value.pointer t0,Qz n17,Qz x27.2] w28.drew fun t58 w57=>w57.cell? ⟨b53,b54+x27.2.toNat,none⟩=some (Value.bool t55)/\w57.cell? ⟨b50,b51+n17.toNat,none⟩=some (Qy s52)/\IfB (!t58 == t55) (R (Value.bool false) w57) (Qn y24 b26 (x27.1,IntKind.i64.wrap (x27.2+1)) w57))) (IfB (x27.1 != (s23.2:Int)) (R (Value.bool false) w28) (Qn y14 b16 (IntKind.i64.wrap (n17+1)) w28))
def F59j1(t0:Option Addr)(t2:Sl)(R:RV)(b1:Nat)(s8:Sl)(s13:Sl)(y14:Nat->Int->World->Prop)(b16:Nat)(n17:Int)(w18:World):Prop:=IfB (decide (n17<(t2.n:Int))) (Qu' 67 #[Value.pointer t0,Qz n17] w18 fun s23 w22=>Ql (α:=Int×Int) (0,0) w22 fun y24 b26 x27 w28=>(F59j2 t0 t2 R s8 s13 y14 b16 n17 s23 y24 b26 x27 w28)) (Qu' 65 #[Value.pointer t0] w18.drew fun s63 w62=>Qv' 122 #[Qy s63,Qy t2] w62 fun t66 w65=>IfB t66 (∃(x67:Sl×List Value),CellsN w65 b1 0 17 (Qy x67.fst::x67.2)/\Qu' 66 #[Value.pointer t0] w65 fun s72 w71=>CellsN w71 b1 0 17 (Qy x67.fst::x67.2)/\Qu' 40 #[Value.agg { toList:=Qy x67.fst::x67.2 },Qy t2] w71 fun s77 w76=>Qv' 25 #[Qy s72,Qy s77] w76 fun t80 w79=>IfB t80 (Qv' 68 #[Value.pointer t0,Qz (-1:Int),Qz 0] w79 fun t83 w82=>IfB (!t83) (Qv' 68 #[Value.pointer t0,Qz 0,Qz (t2.2:Int)] w82 fun t86 w85=>IfB (!t86) (Qu' 67 #[Value.pointer t0,Qz (-1:Int)] w85 fun s89 w88=>R (Value.bool ((s89.2:Int) == 0)) w88) (R (Value.bool false) w85)) (R (Value.bool false) w82)) (R (Value.bool false) w79)) (R (Value.bool false) w65))
theorem F59_ok(t0:Option Addr)(t1:Sl×List Value)(t2:Sl)(w:World)(R:RV)(h:AllocP w (Obj.cells { toList:=Qy t1.fst::t1.2 } 26) fun b1 w2=>∃(x3:Sl×List Value),CellsN w2.drew b1 0 17 (Qy x3.fst::x3.2)/\Qu' 93 #[Qy t2] w2.drew fun s8 w7=>CellsN w7 b1 0 17 (Qy x3.fst::x3.2)/\Qu' 100 #[Value.agg { toList:=Qy x3.fst::x3.2 },Qy t2] w7 fun s13 w12=>Ql (α:=Int) 0 w12 fun y14 b16 n17 w18=>(F59j1 t0 t2 R b1 s8 s13 y14 b16 n17 w18)):Cw 59 #[Value.pointer t0,Value.agg { toList:=Qy t1.fst::t1.2 },Qy t2] w R:=
 ckF Tryz.func59 (nd (.node (.draw (sts [0,2,3] (.ac 1 [3,2] (.ac 4 [] (sts [5,6] .fin) .non) .non))) (.node (nd (.loop [(9,oi)] (rg [6,6,9,12,18,69]) (nd (.node (nd (nd (.node (nd (.loop [(11,oi),(12,oi)] (rg [6,6,11,12,27,65]) (nd (.node (nd (.node (.draw (sts [0,1,2,4,5,6,7,8,9,10] (.ac 3 (rg [4,10]) (.st 11 .fin) .non))) .nil)) .nil)))) .nil))) .nil)))) (.node (.draw (sts [0,2] (.ac 1 [2] (.ac 3 [] (sts [4,5,7,8] (.ac 6 [8,7] (.ac 9 [] (.ac 10 [] (sts [11,12,13] (.ac 14 [] (sts [15,16,17,18,19,20] (.ac 21 [] (sts [22,23,24,25] (.ac 26 [] (sts [27,28,29,30] .fin) .non)) .non)) .non)) .non) .non) .non)) .non) .non))) .nil)))) h (by kernel_rfl) (by kernel_rfl)
theorem AskP.good{x:CatD}{ns:List Nd}{n:Nd}{e:Int}(h:AskP x ns n e)(hg:GoodP x (ns++[n])):e=0:=by
 rcases h with ⟨_,h⟩|⟨_,_,h⟩|⟨h,_⟩
 ·exact absurd hg.1 h
 ·exact absurd hg.2 h
 ·exact h
theorem AskP.cyc{x:CatD}{ns:List Nd}{n:Nd}{e:Int}(h:AskP x ns n e)(hM:HMay x (ns++[n]))(hF:¬ ∃r,FairR x (ns++[n]) r):e=11:=by
 rcases h with ⟨_,h⟩|⟨h,_⟩|⟨_,h⟩
 ·exact absurd hM h
 ·exact h
 ·exact absurd h.2 hF
theorem addGood{D:Nat->Prop}{w:World}{b:Nat}{th:Sl}{x:CatD}{ns:List Nd}{n:Nd}(hG:GrM D w b th x ns)(hN:NdA (fun j=>j≠b/\j∉blk th) w n)(hl:ns.length<=49)(hg:GoodP x (ns++[n])):
  Cw 56 #[.pointer (some ⟨b,0,none⟩),ndV n.v] w fun r w'=>r=iv 0/\∃th' n',dOf n'=dOf n/\GrM (fun j=>D j\/w.heap.size<=j) w' b th' x (ns++[n'])/\Ch (fun j=>j=b\/j∈blk th) w w'/\∀j∈blk th',j∈blk th\/w.heap.size<=j:=
 (c56 hG hN hl).mono fun r w' ⟨e,th',ns',hr,hA,h0,_,hG',hC,hb⟩=>by
  have he:=hA.good hg
  subst he
  obtain⟨n',hd,rfl⟩:=h0 rfl
  exact⟨hr,th',n',hd,hG',hC,hb⟩
abbrev alvN(s:Sl)(sa st k:Int):Nd:=⟨(sa,0,st,false,⟨none,0,0⟩,s),[],[(k,k)]⟩
def Alv18T(p16:Option Addr)(w15:World)(R:RV):Prop:=
 1*2<=16777216/\AllocP w15 (Obj.cells #[Value.int IntKind.i64 5,Value.int IntKind.i64 5] 101) fun(b17:Nat) (w18:World)=>
 1*2<=16777216/\AllocP w18 (Obj.cells #[Value.int IntKind.i64 6,Value.int IntKind.i64 6] 101) fun(b19:Nat) (w20:World)=>
 Cx 56 #[Value.pointer p16,ndV (alvN ⟨some ⟨b17,0,none⟩,1,1⟩ 1 0 5).v] w20 fun(v21:Value) (w22:World)=>∃n23:Int,v21=Value.int IntKind.i64 n23/\
 Cx 56 #[Value.pointer p16,ndV (alvN ⟨some ⟨b17,0,none⟩,1,1⟩ 2 0 5).v] w22 fun(v24:Value) (w25:World)=>∃n26:Int,v24=Value.int IntKind.i64 n26/\
 Cx 56 #[Value.pointer p16,ndV (alvN ⟨some ⟨b19,0,none⟩,1,1⟩ 2 1 6).v] w25 fun(v27:Value) (w28:World)=>∃n29:Int,v27=Value.int IntKind.i64 n29/\
 IfB (n23 == 0) (F52k1 n26 n29 p16 b19 w28 R) (R (Value.bool false) w28)
theorem alv18{w0 w:World}{b:Nat}(hG:GrM (fun j=>w0.heap.size<=j) w b ⟨none,0,0⟩ catA [])(e0:Ext w0 w){R:RV}(hR:∀w',Ext w0 w'->R (.bool true) w'):Alv18T (some ⟨b,0,none⟩) w R:=by
 have hG0:=hG.old
 obtain⟨⟨hb0,hbw⟩, -⟩:(w0.heap.size<=b/\b<w.heap.size)/\True:=⟨by obtain⟨v,ton,tw,rows,ms,hK,_⟩:=hG0;exact hK.db,trivial⟩
 refine⟨by decide,fun b17 w18 a18=>⟨by decide,fun b19 w20 a20=>?_⟩⟩
 have e18:Ext w w18:=a18.ch _
 have e20:Ext w18 w20:=a20.ch _
 have E20:=e18.trans e20
 have p18:=a18.here;have z18:=a18.size;have p20:=a20.here;have z20:=a20.size;have z0:=e0.size
 have r5:Rd w20 ⟨some ⟨b17,0,none⟩,1,1⟩ 2 ([((5,5):Spn)].flatMap sv):=((OwS.new (cs:=[((5,5):Spn)].flatMap sv) (n:=1) (sz:=2) a18 rfl).ext e20).rd
 have r6:Rd w20 ⟨some ⟨b19,0,none⟩,1,1⟩ 2 ([((6,6):Spn)].flatMap sv):=(OwS.new (cs:=[((6,6):Spn)].flatMap sv) (n:=1) (sz:=2) a20 rfl).rd
 have nd:∀ {W:World}{p:Nat}{k sa st:Int},Rd W ⟨some ⟨p,0,none⟩,1,1⟩ 2 ([((k,k):Spn)].flatMap sv)->NdA (fun j=>j=p) W (alvN ⟨some ⟨p,0,none⟩,1,1⟩ sa st k):=fun h=>⟨(OwS.nil _ 2).rd,h,fun h=>absurd h (Nat.lt_irrefl _),fun _ j hj=>by simpa [blk] using hj,Nat.zero_le _,by simp⟩
 obtain⟨s5,hs5⟩:∃s:Sl,s=⟨some ⟨b17,0,none⟩,1,1⟩:=⟨_,rfl⟩
 obtain⟨s6,hs6⟩:∃s:Sl,s=⟨some ⟨b19,0,none⟩,1,1⟩:=⟨_,rfl⟩
 have g1:GoodP catA ([]++[alvN ⟨some ⟨b17,0,none⟩,1,1⟩ 1 0 5]):=⟨(alvH_may ⟨some ⟨b17,0,none⟩,1,1⟩ ⟨some ⟨b19,0,none⟩,1,1⟩).take 1,id,(alvH_good ⟨some ⟨b17,0,none⟩,1,1⟩ ⟨some ⟨b19,0,none⟩,1,1⟩).take 1⟩
 have g2:GoodP catA [alvN ⟨some ⟨b17,0,none⟩,1,1⟩ 1 0 5,alvN ⟨some ⟨b17,0,none⟩,1,1⟩ 2 0 5]:=⟨(alvH_may ⟨some ⟨b17,0,none⟩,1,1⟩ ⟨some ⟨b19,0,none⟩,1,1⟩).take 2,id,(alvH_good ⟨some ⟨b17,0,none⟩,1,1⟩ ⟨some ⟨b19,0,none⟩,1,1⟩).take 2⟩
 have g3:GoodP catA [alvN ⟨some ⟨b17,0,none⟩,1,1⟩ 1 0 5,alvN ⟨some ⟨b17,0,none⟩,1,1⟩ 2 0 5,alvN ⟨some ⟨b19,0,none⟩,1,1⟩ 2 1 6]:=⟨(alvH_may ⟨some ⟨b17,0,none⟩,1,1⟩ ⟨some ⟨b19,0,none⟩,1,1⟩).take 3,id,alvH_good ⟨some ⟨b17,0,none⟩,1,1⟩ ⟨some ⟨b19,0,none⟩,1,1⟩⟩
 have m4:HMay catA [alvN ⟨some ⟨b17,0,none⟩,1,1⟩ 1 0 5,alvN ⟨some ⟨b17,0,none⟩,1,1⟩ 2 0 5,alvN ⟨some ⟨b19,0,none⟩,1,1⟩ 2 1 6,alvN ⟨some ⟨b19,0,none⟩,1,1⟩ 1 1 6]:=alvH_may ⟨some ⟨b17,0,none⟩,1,1⟩ ⟨some ⟨b19,0,none⟩,1,1⟩
 have f4:∀r,¬FairR catA [alvN ⟨some ⟨b17,0,none⟩,1,1⟩ 1 0 5,alvN ⟨some ⟨b17,0,none⟩,1,1⟩ 2 0 5,alvN ⟨some ⟨b19,0,none⟩,1,1⟩ 2 1 6,alvN ⟨some ⟨b19,0,none⟩,1,1⟩ 1 1 6] r:=alvH_bad ⟨some ⟨b17,0,none⟩,1,1⟩ ⟨some ⟨b19,0,none⟩,1,1⟩
 clear hs5 hs6 s5 s6
 refine(addGood (hG0.ext E20) ((nd r5).mono fun j hj=>⟨by omega,by simp[blk]⟩) (by simp) g1).use ?_
 rintro _ w22 ⟨rfl,th1,n1,d1,hG1,C1,hb1⟩
 have z22:=C1.size
 have k1:∀j,j=b17\/j=b19->¬(j=b\/j∈blk (⟨none,0,0⟩:Sl)):=fun j hj h=>by
  rcases h with h|h
  ·omega
  ·simp[blk] at h
 have r5:=r5.ch C1 fun j hj=>k1 j (.inl (by simpa [blk] using hj))
 have r6:=r6.ch C1 fun j hj=>k1 j (.inr (by simpa [blk] using hj))
 have t1:∀j∈blk th1,w20.heap.size<=j:=fun j hj=>(hb1 j hj).elim (fun h=>by simp[blk] at h) id
 refine⟨0,rfl,(addGood hG1 ((nd r5).mono fun j hj=>⟨by omega,fun h=>by have:=t1 j h;omega⟩) (by simp) (g2.cg (by show List.map dOf _=List.map dOf _;simp[d1]))).use ?_⟩
 rintro _ w25 ⟨rfl,th2,n2,d2,hG2,C2,hb2⟩
 have z25:=C2.size
 have r6:=r6.ch C2 fun j hj h=>by
  have hj:j=b19:=by simpa [blk] using hj
  rcases h with h|h
  ·omega
  ·have:=t1 j h;omega
 have t2:∀j∈blk th2,w20.heap.size<=j:=fun j hj=>(hb2 j hj).elim (t1 j) fun h=>by omega
 refine⟨0,rfl,(addGood hG2 ((nd r6).mono fun j hj=>⟨by omega,fun h=>by have:=t2 j h;omega⟩) (by simp) (g3.cg (by show List.map dOf _=List.map dOf _;simp[d1,d2]))).use ?_⟩
 rintro _ w28 ⟨rfl,th3,n3,d3,hG3,C3,hb3⟩
 have z28:=C3.size
 have r6:=r6.ch C3 fun j hj h=>by
  have hj:j=b19:=by simpa [blk] using hj
  rcases h with h|h
  ·omega
  ·have:=t2 j h;omega
 have t3:∀j∈blk th3,w20.heap.size<=j:=fun j hj=>(hb3 j hj).elim (t2 j) fun h=>by omega
 refine⟨0,rfl,IfB.yes rfl (IfB.yes rfl (IfB.yes rfl ((c56 (n:=alvN ⟨some ⟨b19,0,none⟩,1,1⟩ 1 1 6) hG3 ((nd r6).mono fun j hj=>⟨by omega,fun h=>by have:=t3 j h;omega⟩) (by simp)).use ?_)))⟩
 rintro _ w31 ⟨e,th4,ns4,rfl,hA,_,hne,hG4,C4,_⟩
 have hcg:Cg [alvN ⟨some ⟨b17,0,none⟩,1,1⟩ 1 0 5,alvN ⟨some ⟨b17,0,none⟩,1,1⟩ 2 0 5,alvN ⟨some ⟨b19,0,none⟩,1,1⟩ 2 1 6,alvN ⟨some ⟨b19,0,none⟩,1,1⟩ 1 1 6] ([]++[n1]++[n2]++[n3]++[alvN ⟨some ⟨b19,0,none⟩,1,1⟩ 1 1 6]):=by
  show List.map dOf _=List.map dOf _
  simp[d1,d2,d3]
 have he:=hA.cyc (m4.cg hcg) fun⟨r,hr⟩=>f4 r (hr.cg hcg.symm)
 subst he
 obtain⟨rfl,rfl⟩:=hne (by decide)
 refine⟨11,rfl,IfB.yes rfl ((c65 hG4).use ?_)⟩
 rintro _ w34 ⟨t',ks,rfl,hk,ho,_,e34,_⟩
 have hn:=owsN nL_len (by omega) ho
 have hkl:=Cg.len hk
 refine⟨t',rfl,?_⟩
 have h3:t'.n=3:=by rw[hn,hkl];rfl
 have C:Ch (fun j=>w0.heap.size<=j) w20 w31:=(((C1.mono fun j _ h=>?_).trans (C2.mono fun j _ h=>?_)).trans (C3.mono fun j _ h=>?_)).trans (C4.mono fun j _ h=>?_)
 ·exact Eq.mpr (congrArg (fun z=>R (.bool z) w34) (show ((t'.n:Int) == 3)=true by rw[h3];rfl)) (hR w34 (((e0.trans E20).chN C fun j hj=>hj).trans e34))
 ·rcases h with h|h
  ·omega
  ·simp[blk] at h
 ·rcases h with h|h
  ·omega
  ·have:=t1 j h;omega
 ·rcases h with h|h
  ·omega
  ·have:=t2 j h;omega
 ·rcases h with h|h
  ·omega
  ·have:=t3 j h;omega
theorem c52(w:World):Cw 52 #[] w fun v w'=>v=.bool true/\Ext w w':=by
 refine F52_ok w _ ⟨by decide,fun b1 w2 a1=>fun b3 w4 a3=>⟨rfl,store_all (vs:=[slV ⟨some ⟨b1,0,none⟩,1,1⟩,slV ⟨none,0,0⟩]) a3.new rfl (by intro v hv;simp at hv;rcases hv with rfl|rfl<;>rfl) fun w5 u5=>?_⟩⟩
 have e2:Ext w w2:=a1.ch _
 have e5:Ext w2 w5:=Ext.fresh a3 u5
 have ed:=extDrew w5
 have h1:=Ext.at (e5.trans ed) a1.new
 have E0:Ext w w5.drew:=(e2.trans e5).trans ed
 have hbx:∀ {W:World},Ext w5 W->CellsAt W b3 0 [slV ⟨some ⟨b1,0,none⟩,1,1⟩,slV ⟨none,0,0⟩]:=fun e=>boxAll (cs:=[slV ⟨some ⟨b1,0,none⟩,1,1⟩,slV ⟨none,0,0⟩]) u5.new e
 have go:∀ {W:World}{bS bC bK:Nat}{TS TC TK:TypeId},Ext w W->W.heap[b1]? =some (.cells (insC insA).toArray 95 (0,0))->
   W.heap[bS]? =some (.cells #[slV ⟨some ⟨b1,0,none⟩,1,1⟩,slV ⟨none,0,0⟩,slV ⟨some ⟨b1,0,none⟩,1,1⟩,slV ⟨none,0,0⟩] TS (0,0))->
   W.heap[bC]? =some (.cells { toList:=zc #[slV ⟨none,0,0⟩,slV ⟨none,0,0⟩] 2 } TC (0,0))->
   W.heap[bK]? =some (.cells (clsC (strA,0,⟨some ⟨bS,0,none⟩,2,2⟩,⟨some ⟨bC,0,none⟩,2,2⟩,false)).toArray TK (0,0))->
   Cx 54 #[cxV (⟨some ⟨bK,0,none⟩,1,1⟩,List.replicate 16 (.int .i64 0))] W fun v14 w15=>∃p16:Option Addr,v14=.pointer p16/\Alv18T p16 w15 (fun v w'=>v=.bool true/\Ext w w'):=fun E q1 qS qC qK=>by
  refine(c54 (catA_mem q1 qS qC qK)).use ?_
  rintro _ w15 ⟨h|⟨_,b,rfl,hG⟩,e15⟩
  ·exact absurd catA_ok h.1
  ·exact⟨_,rfl,alv18 (w0:=_) hG e15 fun w' e=>⟨rfl,E.trans e⟩⟩
 refine⟨(⟨some ⟨b1,0,none⟩,1,1⟩,⟨none,0,0⟩),hbx ed,(⟨some ⟨b1,0,none⟩,1,1⟩,⟨none,0,0⟩),hbx ed,⟨by decide,fun b8 w9 a8=>⟨⟨by decide,by decide,by decide,by decide⟩,fun b10 w11 a10=>⟨by decide,fun b12 w13 a12=>?_⟩⟩⟩,⟨by decide,by decide,by decide,by decide⟩,fun b36 w37 a36=>⟨hbx (ed.trans (a36.ch _)),hbx (ed.trans (a36.ch _)),by decide,fun b38 w39 a38=>⟨by decide,fun b40 w41 a40=>?_⟩⟩⟩
 ·exact go (((E0.trans (a8.ch _)).trans (a10.ch _)).trans (a12.ch _)) (a12.at (a10.at (a8.at h1))) (a12.at (a10.at a8.new)) (a12.at a10.new) a12.new
 ·exact go (((E0.trans (a36.ch _)).trans (a38.ch _)).trans (a40.ch _)) (a40.at (a38.at (a36.at h1))) (a40.at a38.new) (a40.at (a38.at a36.new)) a40.new
theorem c40{w:World}{v:CatV}{x:CatD}{t:Sl}{hs:List Nd}{r:Nat->Nat}(h:CatM w v x)(hH:Hst w t hs)(hY:HMay x hs)(hF:FairR x hs r):
  Cw 40 #[cxV v,slV t] w fun v' w'=>∃(t':Sl)(os:List Nat),v'=slV t'/\(∀ys out,ArcsP x hs ys->ToldP ys hs.length out->os=out)/\OwS w' t' 1 (os.map fun k:Nat=>iv (k:Int))/\Ext w w':=by
 have htn:=hH.n
 have hl100:=hY.len
 refine F40_ok v t w _ fun b1 w2 a2=>?_
 have e2:Ext w w2:=a2.ch _
 refine⟨v,cxN h a2.new (Ch.refl _ _),(c100 (h.ext e2) (hH.ext e2) hY).use ?_⟩
 rintro _ w7 ⟨s8,rows,ys,rfl,hA,hsq,hg,hMx,e7⟩
 have E7:=e2.trans e7
 have hrn:=hMx.n
 have hsq1:=hsq.1
 refine⟨s8,rfl,⟨by omega,by omega,by omega,by omega⟩,fun b9 w10 a10=>?_⟩
 rw[Int.toNat_natCast] at a10
 have e10:Ext w7 w10:=a10.ch _
 have p10:=a10.here;have z10:=a10.size
 have hd0:=FnB.new a10
 rw[htn] at hd0
 refine⟨fun m s W=>∃out:List Nat,WRun (TC (ArcE x hs)) hs.length out/\m+out.length=hs.length/\OwS W s 1 (out.map fun k:Nat=>iv (k:Int))/\(∀j∈blk s,b9<j)/\FnB W b9 hs.length (fun j=>.bool (decide (j∈out)))/\Ext w7 W,
  ⟨hs.length,[],.nil,by simp,.nil _ _,by simp[blk],hd0.congr fun j _=>by simp,e10⟩,?_⟩
 rintro m s W g ⟨out,hrun,hmo,hos,hbk,hfd,eW⟩
 have hsn:=hos.len
 rw[List.length_map,Nat.mul_one] at hsn
 refine IfB.dec (fun hlt=>?_) fun hge=>?_
 ·have hol:out.length<hs.length:=by omega
  refine⟨fun m' z V=>W=V/\∃i:Nat,i<=hs.length/\m'+i=hs.length/\z=(s,(i:Int))/\∀j,j<i->j∈out\/∃k,k<hs.length/\k∉out/\TC (ArcE x hs) k j,⟨hs.length,rfl,0,Nat.zero_le _,rfl,rfl,fun j hj=>absurd hj (Nat.not_lt_zero _)⟩,?_⟩
  rintro m' _ _ g' ⟨rfl,i,hi,hmi,rfl,hlow⟩
  unfold F40j2
  refine IfB.dec (fun hli=>?_) fun hgi=>?_
  ·try dsimp only at hli
   have hi':i<hs.length:=by omega
   have hwi:IntKind.i64.wrap ((i:Int)+1)=((i+1:Nat):Int):=by rw[wrap_of (by omega) (by omega)];rfl
   refine⟨b9,0,rfl,⟨by omega,by omega⟩,decide (i∈out),by dsimp only;rw[Nat.zero_add,Int.toNat_natCast];exact hfd.get hi' rfl,fun m4 z V=>W=V/\∃(k:Nat)(rd:Bool),k<=hs.length/\m4+k=hs.length/\z=(rd,(k:Int))/\(rd=true↔i∉out/\∀k',k'<k->k'∈out\/¬TC (ArcE x hs) k' i),⟨hs.length,rfl,0, !decide (i∈out),Nat.zero_le _,rfl,rfl,by simp⟩,?_⟩
   rintro m4 _ _ g4 ⟨rfl,k,rd,hk,hmk,rfl,hrd⟩
   unfold F40j3
   refine IfB.dec (fun hlk=>?_) fun hgk=>?_
   ·try dsimp only at hlk
    have hk':k<hs.length:=by omega
    have hwk:IntKind.i64.wrap ((k:Int)+1)=((k+1:Nat):Int):=by rw[wrap_of (by omega) (by omega)];rfl
    have up:∀ {rd':Bool},(rd'=true↔rd=true/\(k∈out\/¬TC (ArcE x hs) k i))->(rd'=true↔i∉out/\∀k',k'<k+1->k'∈out\/¬TC (ArcE x hs) k' i):=fun h=>by
     rw[h,hrd]
     constructor
     ·rintro⟨⟨h1,h2⟩,h3⟩
      refine⟨h1,fun k' hk'=>?_⟩
      rcases Nat.lt_or_ge k' k with h'|h'
      ·exact h2 k' h'
      ·rw[show k'=k by omega];exact h3
     ·rintro⟨h1,h2⟩
      exact⟨⟨h1,fun k' hk'=>h2 k' (by omega)⟩,h2 k (by omega)⟩
    refine IfB.intro (fun hr1=>?_) fun hr1=>⟨rfl,m4-1,by omega,rfl,k+1,false,hk',by omega,by dsimp only;rw[hwk],up ?_⟩
    ·have hr1:rd=true:=hr1
     refine⟨b9,0,rfl,⟨by dsimp only;omega,by dsimp only;omega⟩,decide (k∈out),by dsimp only;rw[Nat.zero_add,Int.toNat_natCast];exact hfd.get hk' rfl,IfB.intro (fun hko=>⟨rfl,m4-1,by omega,rfl,k+1,true,hk',by omega,by dsimp only;rw[hwk],up ?_⟩) fun hko=>?_⟩
     ·have hko:k∈out:=by simpa using hko
      exact⟨fun _=>⟨hr1,.inl hko⟩,fun _=>rfl⟩
     ·have hko:k∉out:=by simpa using hko
      have hMd:=hMx.ext eW
      obtain⟨rk,hrk,hrkl,hrkm⟩:=hsq.at hk'
      obtain⟨c1,hp1,hc1⟩:=hMd.slot hrk
      obtain⟨c2,hp2,hc2⟩:=hMd.cell hrkm (gM_get hrk (k:=i) (by omega))
      have hkn:=hMd.rn hrkm
      refine⟨c1,0,hp1,⟨by dsimp only;omega,by dsimp only;omega⟩,rk.1,by dsimp only;rw[Nat.zero_add,Int.toNat_natCast];exact hc1,c2,0,hp2,⟨by dsimp only;omega,by dsimp only;omega⟩,gM rows k i,by dsimp only;rw[Nat.zero_add,Int.toNat_natCast];exact hc2,rfl,m4-1,by omega,rfl,k+1, !gM rows k i,hk',by omega,by dsimp only;rw[hwk],up ?_⟩
      rw[Bool.not_eq_true',<-Bool.not_eq_true,hg]
      exact⟨fun h=>⟨hr1,.inr h⟩,fun h=>h.2.resolve_left hko⟩
    ·have hr1:rd=false:=hr1
     rw[hr1];simp
   ·try dsimp only at hgk
    have hkn:k=hs.length:=by omega
    subst hkn
    refine IfB.intro (fun hr1=>?_) fun hr1=>⟨rfl,m'-1,by omega,rfl,i+1,hi',by omega,by dsimp only;rw[hwi],fun j hj=>?_⟩
    ·obtain⟨hio,hall⟩:=hrd.1 hr1
     have hbV:=hfd.lt
     refine⟨b9,0,rfl,⟨by dsimp only;omega,by dsimp only;omega⟩,rfl,hfd.put hi' (by dsimp only;omega) rfl fun w49 hd49 hC49=>⟨by decide,fun b50 w51 a51=>?_⟩⟩
     have z49:=hC49.size
     have e51:Ext w49 w51:=a51.ch _
     have z51:=a51.size;have p51:=a51.here
     have zW:=eW.size
     have hos51:OwS w51 s 1 (out.map fun k:Nat=>iv (k:Int)):=(hos.ch hC49 fun j hj e=>by have:=hbk j hj;omega).ext e51
     refine hos51.lit (new:=[iv (i:Int)]) a51.new rfl (by intro v hv;rw[List.mem_singleton.1 hv];rfl) rfl rfl (by omega) (by decide) fun s53 w54 hos54 hn54 hC54 hb54=>?_
     refine⟨rfl,m-1,by omega,out++[i],hrun.snoc hi' hio hall hlow,by rw[List.length_append,List.length_singleton];omega,by rw[List.map_append];exact hos54,fun j hj=>?_,((hd49.ext e51).ch hC54 fun h=>by have:=hbk _ h;omega).congr fun j hj=>?_,((eW.chN hC49 fun j e=>by omega).trans e51).chN hC54 fun j hj=>by have:=hbk j hj;omega⟩
     ·rcases hb54 j hj with h'|h'
      ·exact hbk j h'
      ·omega
     ·by_cases h':j=i
      ·simp[h']
      ·simp[h']
    ·have hr1:rd=false:=hr1
     rcases Nat.lt_or_ge j i with h'|h'
     ·exact hlow j h'
     ·have:j=i:=by omega
      subst this
      by_cases hjo:j∈out
      ·exact .inl hjo
      ·refine .inr (Classical.byContradiction fun hno=>?_)
       have:=hrd.2 ⟨hjo,fun k' hk'=>by
        by_cases hko:k'∈out
        ·exact .inl hko
        ·exact .inr fun ht=>hno ⟨k',hk',hko,ht⟩⟩
       rw[hr1] at this;cases this
  ·try dsimp only at hgi
   have hin:i=hs.length:=by omega
   subst hin
   obtain⟨i0,h1,h2,h3⟩:=ready_ex hY hF hol
   rcases hlow i0 h1 with h'|⟨k,k1,k2,k3⟩
   ·exact absurd h' h2
   ·rcases h3 k k1 with h'|h'
    ·exact absurd h' k2
    ·exact absurd k3 h'
 ·exact⟨s,out,rfl,fun ys' out' hA' hT'=>hrun.full hY hA' (by omega) hT',hos,E7.trans eW⟩
theorem c25{w:World}{s t:Sl}{xs ys:List Int}(hs:Rd w s 1 (xs.map iv))(ht:Rd w t 1 (ys.map iv))(hl:xs.length<=1000000):
  Cw 25 #[slV s,slV t] w fun v w'=>v=.bool (decide (xs=ys))/\Ext w w':=by
 have hsn:=rdI hs
 have htn:=rdI ht
 refine F25_ok s t w _ (IfB.intro (fun hne=>⟨?_,Ch.refl _ _⟩) fun he=>?_)
 ·have:s.n≠t.n:=fun e=>by simp[e] at hne
  rw[decide_eq_false (fun e=>this (by rw[hsn,htn,e]))]
 ·have he:s.n=t.n:=by simp at he;omega
  refine⟨fun m x W=>∃i:Nat,i<=xs.length/\m+i=xs.length/\x=(i:Int)/\Ext w W/\xs.take i=ys.take i,⟨xs.length,0,Nat.zero_le _,rfl,rfl,Ch.refl _ _,rfl⟩,?_⟩
  rintro m _ W g ⟨i,hi,hmi,rfl,hE,hsame⟩
  unfold F25j1
  refine IfB.dec (fun hlt=>?_) fun hge=>?_
  ·have hi':i<xs.length:=by omega
   have hx:xs[i]? =some xs[i]:=List.getElem?_eq_getElem hi'
   have hy:ys[i]? =some (ys[i]'(by omega)):=List.getElem?_eq_getElem (by omega)
   generalize xs[i]=x at hx
   generalize ys[i]'_=y at hy
   have ed:=hE.trans (extDrew W)
   obtain⟨b1,o1,hp1,hc1⟩:=rdI_get (hs.ext ed) hx
   obtain⟨b2,o2,hp2,hc2⟩:=rdI_get (ht.ext ed) hy
   refine⟨b1,o1,hp1,⟨by omega,hlt⟩,x,by rw[Int.toNat_natCast];exact hc1,b2,o2,hp2,⟨by omega,by omega⟩,y,by rw[Int.toNat_natCast];exact hc2,IfB.intro (fun hne=>⟨?_,ed⟩) fun hxy=>⟨rfl,m-1,by omega,i+1,hi',by omega,by rw[wrap_of (by omega) (by omega)];rfl,ed,?_⟩⟩
   ·have hne:x≠y:=by simpa using hne
    rw[decide_eq_false (fun e=>hne (by rw[e,hy] at hx;exact(Option.some.inj hx).symm))]
   ·have hxy:x=y:=by simpa using hxy
    rw[take_succ_get hx,take_succ_get hy,hsame,hxy]
  ·have hi':i=xs.length:=by omega
   subst hi'
   rw[List.take_length,List.take_of_length_le (by omega)] at hsame
   exact⟨by rw[decide_eq_true hsame],hE⟩
theorem arr_plain{A:Nat->Prop}{w:World}{e:Ty}{n:Nat}{f:e.den->List Value}{Q:e.den->Prop}{l:List e.den}{cs:List Value}(h:rep A w (.arr n e) l cs)(hp:∀x c,rep A w e x c->c=f x/\Q x):l.length=n/\cs=l.flatMap f/\∀x∈l,Q x:=by
 obtain⟨hn,css,hl,hr,rfl⟩:=h
 have hi:∀(i:Nat)(hi:i<l.length),css[i]? =some (f l[i])/\Q l[i]:=fun i hi=>by
  have hc:css[i]? =some (css[i]'(by omega)):=List.getElem?_eq_getElem (by omega)
  obtain⟨h1,h2⟩:=hp _ _ (hr i _ _ hc (List.getElem?_eq_getElem hi))
  exact⟨by rw[hc,h1],h2⟩
 have hcs:css=l.map f:=by
  apply List.ext_getElem?
  intro i
  by_cases h:i<l.length
  ·rw[(hi i h).1,List.getElem?_map,List.getElem?_eq_getElem h];rfl
  ·rw[List.getElem?_eq_none (by omega),List.getElem?_eq_none (by rw[List.length_map];omega)]
 refine⟨hn,by rw[hcs,List.flatMap_def],fun x hx=>?_⟩
 obtain⟨i,h,rfl⟩:=List.getElem_of_mem hx
 exact(hi i h).2
abbrev catOf(x:tyCat.den):CatD:=(x.1,x.2.flatten)
theorem rep_cat{A:Nat->Prop}{w:World}{x:tyCat.den}{cs:List Value}(h:rep A w tyCat x cs):∃v:CatV,cs=cxC v/\CatM w v (catOf x):=by
 obtain⟨c,d,rfl,h1,h2⟩:=h
 have h1:=rep_mono (B:=fun _=>True) (fun _ _=>trivial) h1
 obtain⟨s,rfl,_⟩:=id h1
 obtain⟨k1,k2,k3⟩:=arr_plain (n:=4) (e:=.arr 4 tyI) (f:=fun r=>r.map fun n=>Value.int .i64 n) (Q:=fun r=>r.length=4/\∀n∈r, -9223372036854775808<=n/\n<=9223372036854775807) (l:=x.2) h2 fun r c hr=>by
  obtain⟨g1,g2,g3⟩:=arr_plain (n:=4) (e:=tyI) (f:=fun n=>[Value.int .i64 n]) (Q:=fun n=> -9223372036854775808<=n/\n<=9223372036854775807) (l:=r) hr fun n c hc=>⟨hc.1,hc.2.1,hc.2.2⟩
  refine⟨by rw[g2,List.map_eq_flatMap],g1,g3⟩
 refine⟨(s,d),rfl,h1,?_,?_,fun n hn=>?_⟩
 ·rw[k2]
  show List.flatMap _ x.2=x.2.flatten.map _
  rw[List.map_flatten,List.flatMap_def]
 ·show x.2.flatten.length=16
  rw[List.length_flatten]
  have:∀l:List (List Int),(∀r∈l,r.length=4)->(l.map List.length).sum=l.length*4:=fun l=>by
   induction l with
   | nil=>intro _;rfl
   | cons r l ih=>
    intro h
    rw[List.map_cons,List.sum_cons,ih fun q hq=>h q (List.mem_cons_of_mem _ hq),h r (by simp),List.length_cons];omega
  rw[this _ fun r hr=>(k3 r hr).1]
  have k1:x.2.length=4:=k1
  omega
 ·obtain⟨r,hr,hn⟩:=List.mem_flatten.1 hn
  exact(k3 r hr).2 n hn
theorem arr_eq{cs:Array Value}{l:List Value}(h:cs.toList=l):cs=l.toArray:=by rw[<-h]
theorem FndSet{W:World}{r:Nat}{P:Int->Prop}(h:Fnd W r P)(k:Int){K:World->Prop}(hK:∀w',Fnd w' r (fun k'=>P k'\/k'=k)->Ch (fun i=>i=r) W w'->K w'):MapSetP (.int .i64) W (.map (some r)) (.int .i64 k) (.bool true) K:=by
 obtain⟨f,h1,h2⟩:=h
 refine Mp.set (enc:=encB) (v:=true) h1 fun f' w' hf' hM hC=>hK w' ⟨f',hM,fun k'=>?_⟩ hC
 rw[hf']
 by_cases hk:k=k'
 ·rw[if_pos hk];exact .inl ⟨rfl,.inr hk.symm⟩
 ·rw[if_neg hk]
  exact(h2 k').imp (fun h=>⟨h.1,.inl h.2⟩) fun h=>⟨h.1,fun h'=>h'.elim h.2 fun e=>hk e.symm⟩
theorem sagasOf{w:World}{p:Option Addr}{ks:List Nd}(hl:ks.length<=1000)(hH:∀W,Ext w W->Cw 65 #[.pointer p] W fun r w'=>∃t',r=slV t'/\∃ks',Cg ks' ks/\Rd w' t' 6 (ks'.flatMap nL)/\Ext W w'/\∀j∈blk t',W.heap.size<=j):
  Cw 60 #[.pointer p] w fun r w'=>∃(t':Sl)(xs:List Int),r=slV t'/\xs.Pairwise (· < ·)/\(∀k,k∈xs↔∃n∈ks,n.v.1=k)/\OwS w' t' 1 (xs.map iv)/\Ext w w':=by
 refine F60_ok p w _ fun b1 w2 a2=>(hH w2 (a2.ch _)).use ?_
 rintro _ w4 ⟨s5,rfl,ks',hcg,hR,e4,hb5⟩
 have e2:Ext w w2:=a2.ch _
 have p2:=a2.here;have z2:=a2.size;have z4:=e4.size
 have hkl:=Cg.len hcg
 have hsn:=rdN nL_len (by omega) hR
 have hF0:Fnd w4 b1 (fun k=>∃n∈ks'.take 0,n.v.1=k):=⟨[],(Mp.new a2).ext e4,fun k=>.inr ⟨rfl,by simp⟩⟩
 refine⟨s5,rfl,fun m z W=>∃i:Nat,i<=ks'.length/\m+i=ks'.length/\z=(i:Int)/\Fnd W b1 (fun k=>∃n∈ks'.take i,n.v.1=k)/\Ch (fun j=>w4.heap.size<=j\/j=b1) w4 W/\Rd W s5 6 (ks'.flatMap nL),⟨ks'.length,0,Nat.zero_le _,rfl,rfl,hF0,Ch.refl _ _,hR⟩,?_⟩
 rintro m _ W g ⟨i,hi,hmi,rfl,hF,hC,hRW⟩
 have eW:Ext w W:=(e2.trans e4).chN hC fun j h=>by rcases h with h|h<;>omega
 have zW:=hC.size
 unfold F60j1
 refine IfB.dec (fun hlt=>?_) fun hge=>?_
 ·have hi':i<ks'.length:=by omega
  have hx:ks'[i]? =some ks'[i]:=List.getElem?_eq_getElem hi'
  have htk:=take_succ_get hx
  generalize ks'[i]=n at hx htk
  obtain⟨pb,po,hp,hc⟩:=hRW.elem (i:=i) (by omega) (by omega) (flatGet nL_len hx)
  refine⟨pb,po,hp,⟨by omega,hlt⟩,n.v,by rw[Int.toNat_natCast];exact hc,boxNd rfl fun b16 w18 hb16 hs18 h18 e18 _=>⟨_,by rw[cell_of h18];rfl,FndSet (hF.ext e18) _ fun w20 hF20 hC20=>?_⟩⟩
  refine⟨rfl,m-1,by omega,i+1,hi',by omega,by rw[wrap_of (by omega) (by omega)];rfl,hF20.iff fun k=>?_,(hC.trans (e18.mono fun _ _ h=>h.elim)).trans (hC20.mono fun j _ h=>.inr h),(hRW.ext e18).ch hC20 fun j hj e=>by have:=hb5 j hj;omega⟩
  rw[htk]
  constructor
  ·rintro⟨q,hq,rfl⟩
   rcases List.mem_append.1 hq with h|h
   ·exact .inl ⟨q,h,rfl⟩
   ·rw[List.mem_singleton.1 h];exact .inr rfl
  ·rintro(⟨q,hq,rfl⟩|rfl)
   ·exact⟨q,List.mem_append.2 (.inl hq),rfl⟩
   ·exact⟨n,by simp,rfl⟩
 ·have hi':i=ks'.length:=by omega
  subst hi'
  rw[List.take_length] at hF
  refine hF.keysL (l:=ks'.map fun n=>n.v.1) (fun k ⟨n,hn,e⟩=>List.mem_map.2 ⟨n,hn,e⟩) (by rw[List.length_map];omega) fun t' xs w' h1 h2 h3 h4 _=>⟨t',rfl,t',xs,rfl,h1,fun k=>(h2 k).trans ?_,h3,eW.trans h4⟩
  constructor
  ·rintro⟨n,hn,rfl⟩
   obtain⟨q,hq,rfl⟩:=List.getElem_of_mem hn
   obtain⟨n',hn',e⟩:=Cg.get hcg (List.getElem?_eq_getElem hq)
   exact⟨n',List.mem_of_getElem? hn',(dOf_iff.1 e).1.symm⟩
  ·rintro⟨n,hn,rfl⟩
   obtain⟨q,hq,rfl⟩:=List.getElem_of_mem hn
   obtain⟨n',hn',e⟩:=Cg.get hcg.symm (List.getElem?_eq_getElem hq)
   exact⟨n',List.mem_of_getElem? hn',(dOf_iff.1 e).1.symm⟩
theorem c60{D:Nat->Prop}{w:World}{b:Nat}{th:Sl}{x:CatD}{ns:List Nd}(hG:GrM D w b th x ns):Cw 60 #[.pointer (some ⟨b,0,none⟩)] w fun r w'=>∃(t':Sl)(xs:List Int),r=slV t'/\xs.Pairwise (· < ·)/\(∀k,k∈xs↔∃n∈ns,n.v.1=k)/\OwS w' t' 1 (xs.map iv)/\Ext w w':=by
 have hl:ns.length<=50:=by obtain⟨v,ton,tw,rows,ms,_,hP⟩:=hG;exact hP.len
 refine sagasOf (by omega) fun W e=>(c65 (hG.ext e)).mono fun r w' ⟨t',ks,h1,h2,h3,_,h4,h5⟩=>⟨t',h1,ks,h2,h3.rd,h4,h5⟩
section
variable (w:World)
end
theorem FairR.sub{x:CatD}{hs ks:List Nd}{r φ:Nat->Nat}(hφ:∀i k,i<k->φ i<φ k)(hget:∀(i:Nat) a,hs[i]? =some a->ks[φ i]? =some a)(h:FairR x ks r):FairR x hs fun i=>r (φ i):=by
 have inj:∀i k,φ i=φ k->i=k:=fun i k e=>by
  rcases Nat.lt_trichotomy i k with h'|h'|h'
  ·have:=hφ i k h';omega
  ·exact h'
  ·have:=hφ k i h';omega
 have hE:∀ {i k:Nat},EdP hs i k->EdP ks (φ i) (φ k):=fun⟨hl,a,b,ha,hb,hd⟩=>⟨hφ _ _ hl,a,b,hget _ _ ha,hget _ _ hb,hd⟩
 have hD:∀ {i k:Nat},Dp hs i k->Dp ks (φ i) (φ k):=fun d=>by
  induction d with
  | one e=>exact .one (hE e)
  | more _ e ih=>exact .more ih (hE e)
 have hI:∀ {i k:Nat}{d:Int},InP x hs i k d->InP x ks (φ i) (φ k) d:=fun p=>by
  rcases p with e|⟨a,b,ha,hb,q⟩
  ·exact .inl (by rw[e])
  ·exact .inr ⟨a,b,hget _ _ ha,hget _ _ hb,q⟩
 refine⟨fun i j hi hj e=>inj _ _ (h.inj _ _ (get_lt (hget i _ (List.getElem?_eq_getElem hi))) (get_lt (hget j _ (List.getElem?_eq_getElem hj))) e),fun i k e=>h.keep _ _ (hE e),fun o a b u no na ho ha hne h1 h2 h3 h4 h5=>?_⟩
 exact h.fair (φ o) (φ a) (φ b) (φ u) no na (hget _ _ ho) (hget _ _ ha) hne (hI h1) h2 h3 (hI h4) (h5.imp hD hD)
theorem rep_spansA{A:Nat->Prop}{w:World}{l:List tySp.den}{cs:List Value}(h:rep A w (.sl tySp) l cs):∃(s:Sl)(xs:List Spn),cs=[slV s]/\Rd w s 2 (xs.flatMap sv)/\s.n<=s.c/\s.n<=maxLen/\(0<s.n->∀j∈blk s,A j):=by
 obtain⟨s,xs,hc,h1,h2,h3⟩:=rep_spans h
 obtain⟨s',hs',_,_,_,h4,_⟩:=id h
 rw[hc] at hs'
 have:=slEq hs';subst this
 exact⟨s,xs,hc,h1,h2,h3,h4⟩
structure NdJ(A:Nat->Prop)(w:World)(n:Nd):Prop where
 i:NdIn w n
 rp:0<n.v.2.2.2.2.1.n->∀j∈blk n.v.2.2.2.2.1,A j
 wp:0<n.v.2.2.2.2.2.n->∀j∈blk n.v.2.2.2.2.2,A j
 sg: -9223372036854775808<=n.v.1/\n.v.1<=9223372036854775807
theorem rep_ndJ{A:Nat->Prop}{w:World}{x:tyNd.den}{cs:List Value}(h:rep A w tyNd x cs):∃n:Nd,cs=nL n/\NdJ A w n:=by
 obtain⟨c1,d1,rfl,⟨rfl,k1,k2⟩,c2,d2,rfl,⟨rfl,_⟩,c3,d3,rfl,⟨rfl,_⟩,c4,d4,rfl,h4,c5,d5,rfl,h5,h6⟩:=h
 obtain⟨s,xs,rfl,hxs,_,_,hs⟩:=rep_spansA h5
 obtain⟨t,ys,rfl,hys,_,_,ht⟩:=rep_spansA h6
 have h4:c4=[.bool x.2.2.2.1]:=h4
 subst h4
 exact⟨⟨(x.1,x.2.1,x.2.2.1,x.2.2.2.1,s,t),xs,ys⟩,rfl,⟨hxs,hys⟩,hs,ht,k1,k2⟩
theorem rep_histJ{A:Nat->Prop}{w:World}{l:List tyNd.den}{cs:List Value}(h:rep A w (.sl tyNd) l cs):∃(t:Sl)(hs:List Nd),cs=[slV t]/\HIn w t hs/\∀n∈hs,NdJ A w n:=by
 obtain⟨s,rfl,h1,h2,h3,h4,css,h5,h6,h7⟩:=h
 obtain⟨ns,hns,hq⟩:=pickAll (f:=nL) (Q:=NdJ A w) fun c hc=>by
  obtain⟨x,hx⟩:=rep_each h5 h6 c hc
  exact rep_ndJ hx
 have hlen:ns.length=l.length:=by rw[<-h5,hns,List.length_map]
 refine⟨s,ns,rfl,⟨?_,fun n hn=>(hq n hn).i,h2,by omega⟩,hq⟩
 rw[List.flatMap_def,<-hns];exact h7
theorem NdJ.a{A:Nat->Prop}{w:World}{n:Nd}(h:NdJ A w n)(ho:NdOk w n):NdA A w n:=⟨ho.rs,ho.ws,h.rp,h.wp,ho.rl,ho.wl⟩
theorem GrM.db{D:Nat->Prop}{w:World}{b:Nat}{th:Sl}{x:CatD}{ns:List Nd}(h:GrM D w b th x ns):D b/\∀j∈blk th,D j:=by
 obtain⟨v,ton,tw,rows,ms,hK,hP⟩:=h
 exact⟨hK.db,hK.dth⟩
theorem GrM.good{D:Nat->Prop}{w:World}{b:Nat}{th:Sl}{x:CatD}{ns:List Nd}(h:GrM D w b th x ns):GoodP x ns:=by
 obtain⟨v,ton,tw,rows,ms,hK,hP⟩:=h
 exact⟨hP.may,hP.fair⟩
theorem app1{W:World}{s t:Sl}{hs:List Nd}(ho:OwS W s 6 [])(hn:s.n=0)(hH:HIn W t hs)(hr:t.n*80<=140737488351232){K:Sl->World->Prop}
  (hK:∀s' W',OwS W' s' 6 (hs.flatMap nL)->s'.n=hs.length->Ch (fun i=>i∈blk s) W W'->(∀i∈blk s',i∈blk s\/W.heap.size<=i)->K s' W'):
  ∃l,ReadC W t.1 (t.2*6) l/\AppendP tt53 53 W s.1 s.2 s.3 t.2 l K:=by
 refine⟨_,hH.rd.2,ho.append (cnt:=t.n) rfl rfl hH.rd.1 (flatOne nL_one _) ⟨by omega,?_⟩ fun s' W' h1 h2 h3 h4 _=>hK s' W' h1 (by have:=hH.n;omega) h3 h4⟩
 show 2*(s.n+t.n)*80<=_
 omega
theorem app2{W:World}{s:Sl}{cs:List Value}{x:NdV}{b:Nat}{T:TypeId}(ho:OwS W s 6 cs)(hr:s.n*80<=140737488351232)(hb:W.heap[b]? =some (.cells (nC x).toArray T (0,0))){K:Sl->World->Prop}
  (hK:∀s' W',OwS W' s' 6 (cs++nC x)->Ch (fun i=>i∈blk s) W W'->(∀i∈blk s',i∈blk s\/W.heap.size<=i)->K s' W'):
  ∃l,ReadC W (some ⟨b,0,none⟩) (1*6) l/\AppendP tt53 53 W s.1 s.2 s.3 1 l K:=by
 refine⟨nC x,⟨rfl,cellsAt_of hb fun i v hv=>by simpa using hv⟩,ho.append (cnt:=1) rfl rfl rfl (nC_one x) ⟨by omega,?_⟩ fun s' W' h1 h2 h3 h4 _=>hK s' W' h1 h3 h4⟩
 show 2*(s.n+1)*80<=_
 omega
theorem arg_reach{P:Program}{H:Type}{enc:TypeId×Value->H}{w:World}{base:Nat}{sp:Nat->Bool}{held:Bool}{t e:TypeId}{v:Value}{x:DataW H}{ps:List MemPlace}{B:Nat}{s:Sl}(hu:P.underlying t=some (.slice e))(h:DataW.Trod enc P w base sp held t v x ps)(hv:v.cells.toList=[slV s])
  (hx:∀elems spare,x=.slice elems spare->(elems.length+spare.length)*P.bytesOf e<=B):s.n*P.bytesOf e<=B:=by
 obtain⟨fuel,h⟩:=h
 rcases DataW.trod_slice hu h with ⟨hc,_⟩|⟨a,len,cap,elems,rest,n,_,hc,hd,_,_,_,hlen,_⟩
 ·rw[hv] at hc
  have:s.n=0:=by simp at hc;exact hc.2.1
  rw[this];simp
 ·rw[hv] at hc
  have:s.n=len:=by simp at hc;exact hc.2.1
  have hd:=congrArg Prod.fst hd
  have:=hx _ _ hd
  rw[List.length_map,List.length_map] at this
  refine Nat.le_trans (Nat.mul_le_mul_right _ ?_) this
  omega
theorem eqSpn(x y:Spn):EqAt Tryz.prog 101 (.agg #[.int .i64 x.1,.int .i64 x.2]) (.agg #[.int .i64 y.1,.int .i64 y.2]) (x == y):=by
 have h:=eqAt_struct tbOk (d:=2) (by decide) (t:=101) (xs:=#[.int .i64 x.1,.int .i64 x.2]) (ys:=#[.int .i64 y.1,.int .i64 y.2]) (b:=(x.1 == y.1)&&((x.2 == y.2)&&true)) (by kernel_rfl) (by kernel_rfl)
 have e:(x == y)=((x.1 == y.1)&&((x.2 == y.2)&&true)):=by rw[Bool.and_true];rfl
 rw[e];exact h
theorem c177{w:World}{t u:Sl}{xs ys:List Spn}(h1:Rd w t 2 (xs.flatMap sv))(h2:Rd w u 2 (ys.flatMap sv))(hl:xs.length*16<=140737488355328):
  Cw 177 #[slV t,slV u] w fun v w'=>v=.bool (xs == ys)/\Ext w w':=by
 have htn:=rdN sv_len (by omega) h1
 have hun:=rdN sv_len (by omega) h2
 refine F177_ok t u w _ (IfB.intro (fun hne=>⟨?_,Ch.refl _ _⟩) fun heq=>?_)
 ·have:xs.length≠ys.length:=by
   have:(t.n:Int)≠(u.n:Int):=by simpa using hne
   omega
  have e:(xs == ys)=false:=by rw[beq_eq_false_iff_ne];intro e;exact this (by rw[e])
  rw[e]
 have hlen:xs.length=ys.length:=by
  have:(t.n:Int)=(u.n:Int):=by simpa using heq
  omega
 refine⟨fun m x W=>∃i:Nat,i<=xs.length/\m+i=xs.length/\x=(i:Int)/\(∀j,j<i->xs[j]? =ys[j]?)/\Ext w W,⟨xs.length,0,Nat.zero_le _,rfl,rfl,fun j hj=>by omega,Ch.refl _ _⟩,?_⟩
 rintro m _ W g ⟨i,hi,hmi,rfl,hsm,hE⟩
 unfold F177j1
 refine IfB.dec (fun hlt=>?_) fun hge=>?_
 ·have hi':i<xs.length:=by omega
  have hx:xs[i]? =some xs[i]:=List.getElem?_eq_getElem hi'
  have hy:ys[i]? =some (ys[i]'(by omega)):=List.getElem?_eq_getElem (by omega)
  generalize xs[i]=x at hx
  generalize ys[i]'_=y at hy
  have ed:=hE.trans (extDrew W)
  obtain⟨b1,o1,hp1,hc1⟩:=(h1.ext ed).elem (i:=i) (by omega) (by omega) (flatGet sv_len hx)
  obtain⟨b2,o2,hp2,hc2⟩:=(h2.ext ed).elem (i:=i) (by omega) (by omega) (flatGet sv_len hy)
  refine⟨b1,o1,hp1,⟨by omega,by omega⟩,x,by rw[Int.toNat_natCast];exact hc1,b2,o2,hp2,⟨by omega,by omega⟩,y,by rw[Int.toNat_natCast];exact hc2,_,eqSpn x y,IfB.intro (fun h=>⟨?_,ed⟩) fun h=>⟨rfl,m-1,by omega,i+1,hi',by omega,by rw[wrap_of (by omega) (by omega)];rfl,fun j hj=>?_,ed⟩⟩
  ·have hne:x≠y:=by simpa using h
   have e:(xs == ys)=false:=by rw[beq_eq_false_iff_ne];intro e;rw[e,hy] at hx;exact hne (Option.some.inj hx).symm
   rw[e]
  ·have he:x=y:=by simpa using h
   rcases Nat.lt_or_ge j i with h'|h'
   ·exact hsm j h'
   ·have:j=i:=by omega
    subst this;rw[hx,hy,he]
 ·have hi':i=xs.length:=by omega
  have:xs=ys:=List.ext_getElem? fun j=>by
   rcases Nat.lt_or_ge j i with h'|h'
   ·exact hsm j h'
   ·rw[List.getElem?_eq_none (by omega),List.getElem?_eq_none (by omega)]
  exact⟨by rw[this];simp,hE⟩
theorem twoBox{w:World}{b8 o8 b11 o11 n:Nat}{cx cy:List Value}{z:Array Value}{T T':TypeId}(hx:CellsAt w b8 o8 cx)(hy:CellsAt w b11 o11 cy)(h1:One cx)(h2:One cy)(l1:cx.length=n)(l2:cy.length=n)(hz:z.size=n){K K':Nat->Nat->World->Prop}
  (hK:∀b b' w',(∃T,w'.heap[b]? =some (.cells cx.toArray T (0,0)))->(∃T,w'.heap[b']? =some (.cells cy.toArray T (0,0)))->Ext w w'->K b b' w')(hK':∀b b' w',(∃T,w'.heap[b]? =some (.cells cx.toArray T (0,0)))->(∃T,w'.heap[b']? =some (.cells cy.toArray T (0,0)))->Ext w w'->K' b b' w'):
  (AllocP w (.cells z T (0,0)) fun b w2=>CellsAt w2 b11 o11 cy/\CellsAt w2 b8 o8 cx/\AllocP w2 (.cells z T' (0,0)) fun b' w4=>CellsAt w4 b11 o11 cy/\CellsAt w4 b8 o8 cx/\cx.toArray.size=n/\StoreP w4 b 0 cx fun w5=>CellsAt w5 b11 o11 cy/\cy.toArray.size=n/\StoreP w5 b' 0 cy (K b b'))/\
  (AllocP w (.cells z T' (0,0)) fun b' w2=>CellsAt w2 b11 o11 cy/\CellsAt w2 b8 o8 cx/\AllocP w2 (.cells z T (0,0)) fun b w4=>CellsAt w4 b11 o11 cy/\CellsAt w4 b8 o8 cx/\cx.toArray.size=n/\StoreP w4 b 0 cx fun w5=>CellsAt w5 b11 o11 cy/\cy.toArray.size=n/\StoreP w5 b' 0 cy (K' b b')):=by
 have key:∀ {wa wb:World}{b b':Nat}{oa ob:Obj},IsAlloc w oa b wa->IsAlloc wa ob b' wb->Ext w wb:=fun a c=>(a.ch _).trans (c.ch _)
 constructor
 ·intro b wa ha
  have ea:Ext w wa:=ha.ch _
  refine⟨hy.ch ea id,hx.ch ea id,fun b' wb hb=>?_⟩
  have eb:=key ha hb
  have pa:=ha.here;have za:=ha.size;have pb:=hb.here
  refine⟨hy.ch eb id,hx.ch eb id,by simpa using l1,store_all (vs:=cx) (hb.at ha.new) (by rw[hz,l1]) h1 fun wc hc=>?_⟩
  have ec:Ext w wc:=eb.chN hc.ch fun j e=>by omega
  refine⟨hy.ch ec id,by simpa using l2,store_all (vs:=cy) (hc.at hb.new (by omega)) (by rw[hz,l2]) h2 fun wd hd=>hK b b' wd ⟨_,hd.at hc.new (by omega)⟩ ⟨_,hd.new⟩ (ec.chN hd.ch fun j e=>by omega)⟩
 ·intro b' wa ha
  have ea:Ext w wa:=ha.ch _
  refine⟨hy.ch ea id,hx.ch ea id,fun b wb hb=>?_⟩
  have eb:=key ha hb
  have pa:=ha.here;have za:=ha.size;have pb:=hb.here
  refine⟨hy.ch eb id,hx.ch eb id,by simpa using l1,store_all (vs:=cx) hb.new (by rw[hz,l1]) h1 fun wc hc=>?_⟩
  have ec:Ext w wc:=eb.chN hc.ch fun j e=>by omega
  refine⟨hy.ch ec id,by simpa using l2,store_all (vs:=cy) (hc.at (hb.at ha.new) (by omega)) (by rw[hz,l2]) h2 fun wd hd=>hK' b b' wd ⟨_,hd.at hc.new (by omega)⟩ ⟨_,hd.new⟩ (ec.chN hd.ch fun j e=>by omega)⟩
theorem c122{w:World}{t u:Sl}{xs ys:List Nd}(h1:Rd w t 6 (xs.flatMap nL))(k1:∀n∈xs,NdOk w n)(h2:Rd w u 6 (ys.flatMap nL))(k2:∀n∈ys,NdOk w n)(hl:xs.length<=1000000)(he:xs.map dOf=ys.map dOf):
  Cw 122 #[slV t,slV u] w fun v w'=>v=.bool true/\Ext w w':=by
 have htn:=rdN nL_len (by omega) h1
 have hun:=rdN nL_len (by omega) h2
 have hlen:xs.length=ys.length:=by have:=congrArg List.length he;simpa using this
 refine F122_ok t u w _ (IfB.no (by rw[htn,hun,hlen];simp) ?_)
 refine⟨fun m x W=>∃i:Nat,i<=xs.length/\m+i=xs.length/\x=(i:Int)/\Ext w W,⟨xs.length,0,Nat.zero_le _,rfl,rfl,Ch.refl _ _⟩,?_⟩
 rintro m _ W g ⟨i,hi,hmi,rfl,hE⟩
 unfold F122j1
 refine IfB.dec (fun hlt=>?_) fun hge=>⟨rfl,hE⟩
 have hi':i<xs.length:=by omega
 have hx:xs[i]? =some xs[i]:=List.getElem?_eq_getElem hi'
 have hy:ys[i]? =some (ys[i]'(by omega)):=List.getElem?_eq_getElem (by omega)
 generalize xs[i]=x at hx
 generalize ys[i]'_=y at hy
 have hd:dOf x=dOf y:=by
  have h3:(xs.map dOf)[i]? =some (dOf x):=by rw[List.getElem?_map,hx];rfl
  rw[he,List.getElem?_map,hy] at h3
  exact(Option.some.inj h3).symm
 simp only[dOf,Prod.mk.injEq] at hd
 obtain⟨d1,d2,d3,d4,d5,d6⟩:=hd
 have ed:=hE.trans (extDrew W)
 obtain⟨b1,o1,hp1,hc1⟩:=(h1.ext ed).elem (i:=i) (by omega) (by omega) (flatGet nL_len hx)
 obtain⟨b2,o2,hp2,hc2⟩:=(h2.ext ed).elem (i:=i) (by omega) (by omega) (flatGet nL_len hy)
 unfold F122k2
 refine⟨b1,o1,hp1,⟨by omega,by omega⟩,x.v,by rw[Int.toNat_natCast];exact hc1,b2,o2,hp2,⟨by omega,by omega⟩,y.v,by rw[Int.toNat_natCast];exact hc2,?_⟩
 rw[Int.toNat_natCast]
 have main:∀(b b':Nat)(w':World),(∃T,w'.heap[b]? =some (.cells (nC x.v).toArray T (0,0)))->(∃T,w'.heap[b']? =some (.cells (nC y.v).toArray T (0,0)))->Ext W.drew w'->∃n20:Int,w'.cell? ⟨b,0+0,none⟩=some (.int .i64 n20)/\∃n21:Int,w'.cell? ⟨b',0+0,none⟩=some (.int .i64 n21)/\IfB (n20 != n21) ((fun(v:Value) (W:World)=>v=.bool true/\Ext w W) (.bool false) w') (F122k1 w' b b' (fun(v:Value) (W:World)=>v=.bool true/\Ext w W) m (fun m x W=>∃i:Nat,i<=xs.length/\m+i=xs.length/\x=(i:Int)/\Ext w W) (i:Int)):=by
  rintro b b' w' ⟨T1,H1⟩ ⟨T2,H2⟩ e
  have e':=ed.trans e
  have q1:∀ {W:World}(o:Nat),Ext w' W->W.cell? ⟨b,0+o,none⟩=(nC x.v)[o]? :=fun o e=>by rw[cell_of (e.at H1),Nat.zero_add];exact List.getElem?_toArray ..
  have q2:∀ {W:World}(o:Nat),Ext w' W->W.cell? ⟨b',0+o,none⟩=(nC y.v)[o]? :=fun o e=>by rw[cell_of (e.at H2),Nat.zero_add];exact List.getElem?_toArray ..
  have r:=Ch.refl (fun _=>False) w'
  have hbx:=(k1 x (List.mem_of_getElem? hx)).ext e'
  have hby:=(k2 y (List.mem_of_getElem? hy)).ext e'
  refine⟨_,q1 0 r,_,q2 0 r,IfB.no (by simp[d1]) ?_⟩
  refine⟨_,q1 1 r,_,q2 1 r,IfB.no (by simp[d2]) ⟨_,q1 2 r,_,q2 2 r,IfB.no (by simp[d3]) ⟨_,q1 3 r,_,q2 3 r,IfB.no (by simp[d4]) ⟨_,q1 4 r,_,q2 4 r,(c177 hbx.rs hby.rs (by rw[d5];have:=hby.rl;omega)).use ?_⟩⟩⟩⟩
  rintro _ w31 ⟨rfl,e31⟩
  refine⟨_,rfl,IfB.no (by simp[d5]) ⟨_,q1 5 e31,_,q2 5 e31,(c177 (hbx.ext e31).ws (hby.ext e31).ws (by rw[d6];have:=hby.wl;omega)).use ?_⟩⟩
  rintro _ w36 ⟨rfl,e36⟩
  exact⟨_,rfl,IfB.no (by simp[d6]) ⟨rfl,m-1,by omega,i+1,hi',by omega,by rw[wrap_of (by omega) (by omega)];rfl,(e'.trans e31).trans e36⟩⟩
 refine twoBox (n:=6) hc1 hc2 (nC_one x.v) (nC_one y.v) rfl rfl (by rfl) main main
theorem c59{D:Nat->Prop}{w:World}{b:Nat}{th:Sl}{x:CatD}{v:CatV}{ns hs:List Nd}{t:Sl}(hG:GrM D w b th x ns)(hC:CatM w v x)(hH:Hst w t hs)(hcg:Cg ns hs):
  Cw 59 #[.pointer (some ⟨b,0,none⟩),cxV v,slV t] w fun r w'=>r=.bool true/\Ext w w':=by
 have htn:=hH.n
 have hnl:=Cg.len hcg
 have hl:ns.length<=50:=by obtain⟨v,ton,tw,rows,ms,_,hP⟩:=hG;exact hP.len
 obtain⟨hMn,rk,hFn⟩:=hG.good
 have hM:=hMn.cg hcg
 have hF:=hFn.cg hcg
 refine F59_ok (some ⟨b,0,none⟩) v t w _ fun b1 w2 a2=>?_
 have ed:=extDrew w2
 have e2:Ext w w2.drew:=(a2.ch _).trans ed
 have qc:=fun{W:World} (e:Ext w2 W)=>cxN hC a2.new e
 refine⟨v,qc ed,(c93 (hH.ext e2) (by omega)).use ?_⟩
 rintro _ w7 ⟨s8,dr,rfl,hsq,hdp,hMx,e7⟩
 have E7:=e2.trans e7
 have x7:=ed.trans e7
 refine⟨s8,rfl,qc x7,(c100 (hC.ext E7) (hH.ext E7) hM).use ?_⟩
 rintro _ w12 ⟨s13,wr,_,rfl,_,hsq2,hway,hMx2,e12⟩
 have E12:=E7.trans e12
 have x12:=x7.trans e12
 have hd8:=hMx.n
 have hd13:=hMx2.n
 have hsl:=hsq.1
 have hsl2:=hsq2.1
 refine⟨s13,rfl,fun m z W=>∃i:Nat,i<=hs.length/\m+i=hs.length/\z=(i:Int)/\Ext w12 W,⟨hs.length,0,Nat.zero_le _,rfl,rfl,Ch.refl _ _⟩,?_⟩
 rintro m _ W g ⟨i,hi,hmi,rfl,eW⟩
 have EW:=E12.trans eW
 have xW:=x12.trans eW
 unfold F59j1
 refine IfB.dec (fun hlt=>?_) fun hge=>?_
 ·have hi':i<hs.length:=by omega
  refine(c67 (hG.ext EW) (i:Int)).use ?_
  rintro _ w22 ⟨s23,xs,rfl,ho,hrow,_,hxl,e22⟩
  have hrow:=hrow ⟨by omega,by omega⟩
  rw[Int.toNat_natCast] at hrow
  have hon:=rdI ho.rd
  obtain⟨dr',hdr,hdl,hdm⟩:=hsq.at hi'
  obtain⟨wr',hwr,hwl,hwm⟩:=hsq2.at hi'
  refine⟨s23,rfl,fun m2 z V=>∃(k:Nat)(pre suf:List Int),k<=hs.length/\m2+k=hs.length/\z=((pre.length:Int),(k:Int))/\xs=pre++suf/\(∀a∈pre,a<(k:Int))/\(∀a∈suf,(k:Int)<=a)/\Ext w22 V,⟨hs.length,0,[],xs,Nat.zero_le _,rfl,rfl,rfl,by simp,fun a ha=>?_,Ch.refl _ _⟩,?_⟩
  ·obtain⟨k',rfl,_⟩:=(hrow.mem a).1 ha
   omega
  rintro m2 _ V g2 ⟨k,pre,suf,hk,hmk,rfl,hxs,hpre,hsuf,eV⟩
  have eV':=(eW.trans e22).trans eV
  have EV:=(EW.trans e22).trans eV
  unfold F59j2
  refine IfB.dec (fun hlt2=>?_) fun hge2=>?_
  ·have hk':k<hs.length:=by dsimp only at hlt2;omega
   obtain⟨p1,hp1,hc1⟩:=(hMx.ext (e12.trans eV')).slot hdr
   obtain⟨p2,hp2,hc2⟩:=(hMx.ext (e12.trans eV')).cell hdm (gM_get hdr (show k<dr'.2.length by omega))
   have hrn:=(hMx.ext (e12.trans eV')).rn hdm
   have edV:=extDrew V
   obtain⟨p3,hp3,hc3⟩:=(hMx2.ext (eV'.trans edV)).slot hwr
   obtain⟨p4,hp4,hc4⟩:=(hMx2.ext (eV'.trans edV)).cell hwm (gM_get hwr (show k<wr'.2.length by omega))
   have hwn:=hMx2.rn hwm
   have hbi:(0:Int)<=(i:Int)/\(i:Int)<(s8.n:Int):=⟨by omega,by omega⟩
   have hbi2:(0:Int)<=(i:Int)/\(i:Int)<(s13.n:Int):=⟨by omega,by omega⟩
   have hbk:(0:Int)<=(k:Int)/\(k:Int)<(dr'.1.n:Int):=⟨by omega,by omega⟩
   have hbk2:(0:Int)<=(k:Int)/\(k:Int)<(wr'.1.n:Int):=⟨by omega,by omega⟩
   have hwk:IntKind.i64.wrap ((k:Int)+1)=((k+1:Nat):Int):=by rw[wrap_of (by omega) (by omega)];rfl
   have hlen:pre.length+suf.length=xs.length:=by rw[hxs,List.length_append]
   have hwp:IntKind.i64.wrap ((pre.length:Int)+1)=((pre.length+1:Nat):Int):=by rw[wrap_of (by omega) (by omega)];rfl
   have hmem:(k:Int)∈xs↔gM dr i k=true:=by
    rw[hrow.mem,hdp]
    exact⟨fun⟨k',e,d⟩=>by rw[show k=k' from Int.ofNat.inj e];exact d.cg hcg,fun d=>⟨k,rfl,d.cg hcg.symm⟩⟩
   have rest:∀ {K:World->Prop},(∀V',Ext V V'->K V')->∃p50 p51:Nat,s13.1=some ⟨p50,p51,none⟩/\((0:Int)<=(i:Int)/\(i:Int)<(s13.2:Int))/\∃s52:Sl,V.drew.cell? ⟨p50,p51+(i:Int).toNat,none⟩=some (slV s52)/\∃p53 p54:Nat,s52.1=some ⟨p53,p54,none⟩/\((0:Int)<=(k:Int)/\(k:Int)<(s52.2:Int))/\∃t55:Bool,V.drew.cell? ⟨p53,p54+(k:Int).toNat,none⟩=some (.bool t55)/\
     Cx 68 #[.pointer (some ⟨b,0,none⟩),iv (i:Int),iv (k:Int)] V.drew fun v56 w57=>∃t58:Bool,v56=.bool t58/\w57.cell? ⟨p53,p54+(k:Int).toNat,none⟩=some (.bool t55)/\w57.cell? ⟨p50,p51+(i:Int).toNat,none⟩=some (slV s52)/\IfB (!t58 == t55) (Value.bool false=.bool true/\Ext w w57) (K w57):=fun{K} hK=>by
    refine⟨p3,0,hp3,hbi2,wr'.1,by rw[Int.toNat_natCast,Nat.zero_add];exact hc3,p4,0,hp4,hbk2,gM wr i k,by rw[Int.toNat_natCast,Nat.zero_add];exact hc4,(c68 (hG.ext (EV.trans edV)) (i:Int) (k:Int)).use ?_⟩
    rintro _ w57 ⟨t58,rfl,h58,e57⟩
    obtain⟨q3,hq3,hd3⟩:=(hMx2.ext ((eV'.trans edV).trans e57)).slot hwr
    obtain⟨q4,hq4,hd4⟩:=(hMx2.ext ((eV'.trans edV).trans e57)).cell hwm (gM_get hwr (show k<wr'.2.length by omega))
    rw[hp3] at hq3;cases hq3
    rw[hp4] at hq4;cases hq4
    have heq:t58=gM wr i k:=by
     rw[Bool.eq_iff_iff,h58,hway,Int.toNat_natCast,Int.toNat_natCast]
     exact⟨fun h=>h.2.2.cg hcg,fun h=>⟨⟨by omega,by omega⟩,⟨by omega,by omega⟩,h.cg hcg.symm⟩⟩
    exact⟨t58,rfl,by rw[Int.toNat_natCast,Nat.zero_add];exact hd4,by rw[Int.toNat_natCast,Nat.zero_add];exact hd3,IfB.no (by rw[heq];cases gM wr i k<;>rfl) (hK w57 (edV.trans e57))⟩
   refine⟨p1,0,hp1,hbi,dr'.1,by rw[Int.toNat_natCast,Nat.zero_add];exact hc1,p2,0,hp2,hbk,gM dr i k,by dsimp only;rw[Int.toNat_natCast,Nat.zero_add];exact hc2,IfB.intro (fun h1=>?_) fun h1=>?_⟩
   ·have hin:=hmem.2 h1
    have hsf:(k:Int)∈suf:=by
     rw[hxs] at hin
     rcases List.mem_append.1 hin with h|h
     ·have:=hpre _ h;omega
     ·exact h
    obtain⟨y,suf',rfl⟩:∃y suf',suf=y::suf':=by
     cases suf with
     | nil=>cases hsf
     | cons y suf'=>exact⟨y,suf',rfl⟩
    have hsrt:=hrow.srt
    rw[hxs,List.pairwise_append] at hsrt
    have hys:=(List.pairwise_cons.1 hsrt.2.1).1
    have hy:y=(k:Int):=by
     have:=hsuf y (by simp)
     rcases List.mem_cons.1 hsf with h|h
     ·exact h.symm
     ·have:=hys _ h;omega
    subst hy
    have hget:xs[pre.length]? =some ((k:Nat):Int):=by rw[hxs,List.getElem?_append_right (Nat.le_refl _),Nat.sub_self];rfl
    rw[List.length_cons] at hlen
    obtain⟨pb,po,hpp,hcc⟩:=rdI_get (ho.rd.ext eV) hget
    have hcl:V.cell? ⟨pb,po+(pre.length:Int).toNat,none⟩=some (.int .i64 (k:Int)):=by rw[Int.toNat_natCast];exact hcc
    refine IfB.no (decide_eq_false (by dsimp only;omega)) ⟨pb,po,hpp,(⟨by omega,by omega⟩:(0:Int)<=(pre.length:Int)/\(pre.length:Int)<(s23.n:Int)),(k:Int),hcl,IfB.no (by simp) ?_⟩
    obtain⟨p50,p51,q1,q2,s52,q3,p53,p54,q4,q5,t55,q6,q7⟩:=rest (K:=fun W'=>([]:List Nat)=[]/\∃b49:Nat,b49<m2/\(fun m2 z V=>∃(k:Nat)(pre suf:List Int),k<=hs.length/\m2+k=hs.length/\z=((pre.length:Int),(k:Int))/\xs=pre++suf/\(∀a∈pre,a<(k:Int))/\(∀a∈suf,(k:Int)<=a)/\Ext w22 V:Nat->Int×Int->World->Prop) b49 (IntKind.i64.wrap ((pre.length:Int)+1),IntKind.i64.wrap ((k:Int)+1)) W') fun V' e'=>⟨rfl,m2-1,by omega,k+1,pre++[(k:Int)],suf',hk',by omega,by rw[hwk,hwp,List.length_append,List.length_singleton],by rw[hxs];simp,fun a ha=>by
     rcases List.mem_append.1 ha with h|h
     ·have:=hpre a h;omega
     ·rw[List.mem_singleton.1 h];omega,fun a ha=>by have:=hys a ha;omega,eV.trans e'⟩
    exact⟨p50,p51,q1,q2,s52,q3,p53,p54,q4,q5,t55,q6,q7⟩
   ·have hout:(k:Int)∉xs:=fun h=>by rw[hmem.1 h] at h1;cases h1
    obtain⟨p50,p51,q1,q2,s52,q3,p53,p54,q4,q5,t55,q6,q7⟩:=rest (K:=fun W'=>([]:List Nat)=[]/\∃b49:Nat,b49<m2/\(fun m2 z V=>∃(k:Nat)(pre suf:List Int),k<=hs.length/\m2+k=hs.length/\z=((pre.length:Int),(k:Int))/\xs=pre++suf/\(∀a∈pre,a<(k:Int))/\(∀a∈suf,(k:Int)<=a)/\Ext w22 V:Nat->Int×Int->World->Prop) b49 ((pre.length:Int),IntKind.i64.wrap ((k:Int)+1)) W') fun V' e'=>⟨rfl,m2-1,by omega,k+1,pre,suf,hk',by omega,by rw[hwk],hxs,fun a ha=>by have:=hpre a ha;omega,fun a ha=>by
     have:=hsuf a ha
     have:a≠(k:Int):=fun e=>hout (by rw[hxs,<-e];exact List.mem_append.2 (.inr ha))
     omega,eV.trans e'⟩
    exact⟨p50,p51,q1,q2,s52,q3,p53,p54,q4,q5,t55,q6,q7⟩
  ·have hk':k=hs.length:=by dsimp only at hge2;omega
   have hsn:suf=[]:=by
    rw[List.eq_nil_iff_forall_not_mem]
    intro a ha
    have h1:=hsuf a ha
    obtain⟨k',rfl,hd⟩:=(hrow.mem a).1 (by rw[hxs];exact List.mem_append.2 (.inr ha))
    have:=Dp_lt hd
    omega
   subst hsn
   rw[List.append_nil] at hxs
   subst hxs
   exact IfB.no (by rw[show s23.2=xs.length from hon];simp) ⟨rfl,m-1,by omega,i+1,hi',by omega,by rw[wrap_of (by omega) (by omega)];rfl,eV'⟩
 ·have edW:=extDrew W
  have EWd:=EW.trans edW
  refine(c65 (hG.ext EWd)).use ?_
  rintro _ w62 ⟨s63,ks,rfl,hk,ho,hnd,e62,_⟩
  have E62:=EWd.trans e62
  have x62:=(xW.trans edW).trans e62
  refine⟨s63,rfl,(c122 ho.rd (fun n hn=>(hnd n hn).ok) (hH.ext E62).rd (fun n hn=>(hH.ext E62).ok n hn) (by rw[Cg.len hk];omega) (Eq.trans hk hcg)).use ?_⟩
  rintro _ w65 ⟨rfl,e65⟩
  have E65:=E62.trans e65
  have x65:=x62.trans e65
  refine⟨true,rfl,IfB.yes rfl ⟨v,qc x65,(c66 (hG.ext E65)).use ?_⟩⟩
  rintro _ w71 ⟨s72,os,rfl,ho72,⟨ys,hA,hT⟩,hol,e71⟩
  have E71:=E65.trans e71
  refine⟨s72,rfl,qc (x65.trans e71),(c40 (hC.ext E71) (hH.ext E71) hM hF).use ?_⟩
  rintro _ w76 ⟨s77,os',rfl,hos,ho77,e76⟩
  have heq:=hos ys os (hA.cg hcg) (by rw[<-hnl];exact hT)
  subst heq
  have nat:∀ {W:World}{s:Sl},OwS W s 1 (os'.map fun k:Nat=>iv (k:Int))->Rd W s 1 ((os'.map fun k:Nat=>(k:Int)).map iv):=fun h=>by
   rw[List.map_map];exact h.rd
  refine⟨s77,rfl,(c25 (xs:=os'.map fun k:Nat=>(k:Int)) (ys:=os'.map fun k:Nat=>(k:Int)) (nat (ho72.ext e76)) (nat ho77) (by rw[List.length_map];omega)).use ?_⟩
  rintro _ w79 ⟨rfl,e79⟩
  have E79:=(E71.trans e76).trans e79
  refine⟨_,rfl,IfB.yes (by simp) ((c68 (hG.ext E79) (-1) 0).use ?_)⟩
  rintro _ w82 ⟨t83,rfl,h83,e82⟩
  have h83:t83=false:=by
   rw[Bool.eq_false_iff];intro h;have:=(h83.1 h).1;omega
  subst h83
  refine⟨false,rfl,IfB.yes rfl ((c68 (hG.ext (E79.trans e82)) 0 (t.n:Int)).use ?_)⟩
  rintro _ w85 ⟨t86,rfl,h86,e85⟩
  have h86:t86=false:=by
   rw[Bool.eq_false_iff];intro h;have:=(h86.1 h).2.1;omega
  subst h86
  refine⟨false,rfl,IfB.yes rfl ((c67 (hG.ext ((E79.trans e82).trans e85)) (-1)).use ?_)⟩
  rintro _ w88 ⟨s89,xs,rfl,ho89,_,hnil,_,e88⟩
  have:=hnil (by omega)
  subst this
  have h0:=ho89.len
  have h0:s89.n=0:=by simpa using h0.symm
  exact⟨s89,rfl,by rw[show s89.2=0 from h0];rfl,((E79.trans e82).trans e85).trans e88⟩
end Go.Proofs.YtlpgdngcgbeegaaGreat.Gx
