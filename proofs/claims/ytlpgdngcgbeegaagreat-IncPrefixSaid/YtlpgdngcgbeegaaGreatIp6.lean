/- gimmallaw18.IncPrefix returns true for all arguments, and leaves what was there as it was. No condition beyond the statement. -/
/- Merged by pack.py: RsgC, RsgD, RsgE, RsgF, RsgG, FairP, FairQ, RsgH, GxOX, IncA, GxOL, RefE, RefF, GxON, RefG, CngA, AlvC, OpnP, GxOU, OpnA, GxOQ, CloN, IncB, IncC, IncD, IncE, GxOM, AlvD, GxOY, IncF, RefH, IntE, GxOP, RsgK, IncG, IncP, IncH, IcPre. -/
import Derived.Test.YtlpgdngcgbeegaaGreatIp1
import Derived.Test.YtlpgdngcgbeegaaGreatIp2
import Derived.Test.YtlpgdngcgbeegaaGreatIp3
import Derived.Test.YtlpgdngcgbeegaaGreatIp4
import Derived.Test.YtlpgdngcgbeegaaGreatIp5
import Derived.Test.YtlpgdngcgbeegaaGreatRows
import Derived.WalkKit
import Derived.ProofKit
import Derived.OpenShut
import Derived.ShutString
import Derived.Below
import Derived.Carry
namespace Go.Proofs.YtlpgdngcgbeegaaGreat.Gx
open Go
set_option linter.unusedSimpArgs false
set_option linter.unusedVariables false
theorem aC_all(xs:List ArcD):One (xs.flatMap aC):=by
 intro v hv
 obtain⟨x,_,hx⟩:=List.mem_flatMap.1 hv
 exact aC_one x v hx
theorem OwnA.uniq{hs:List Nd}{i:Nat}{xs ys:List ArcD}(h:OwnA hs i xs)(k:OwnA hs i ys):xs=ys:=by
 obtain⟨n,hn,h⟩:=h
 obtain⟨n',hn',k⟩:=k
 rw[hn] at hn';cases hn'
 rcases h with ⟨rfl,h⟩|⟨a,ma,a1,a2,a3,rfl,a4⟩<;>rcases k with ⟨rfl,k⟩|⟨b,mb,b1,b2,b3,rfl,b4⟩
 ·rfl
 ·exact absurd b3 (h b mb b1 b2)
 ·exact absurd a3 (k a ma a1 a2)
 ·have:a=b:=by
   rcases Nat.lt_trichotomy a b with h'|h'|h'
   ·exact absurd b3 (a4 b mb h' b1 b2)
   ·exact h'
   ·exact absurd a3 (b4 a ma h' a1 a2)
  rw[this]
theorem FstP.uniq{x:CatD}{hs:List Nd}{i:Nat}{d:Int}{f f':Nat}(h:FstP x hs i d f)(k:FstP x hs i d f'):f=f':=by
 have:=h.2 _ k.1;have:=k.2 _ h.1;omega
theorem LstP.uniq{x:CatD}{hs:List Nd}{i:Nat}{d:Int}{f f':Nat}(h:LstP x hs i d f)(k:LstP x hs i d f'):f=f':=by
 have:=h.2 _ k.1;have:=k.2 _ h.1;omega
theorem BtwP.uniq{x:CatD}{hs:List Nd}{a b:Nat}{xs ys:List ArcD}(h:BtwP x hs a b xs)(k:BtwP x hs a b ys):xs=ys:=by
 obtain⟨na,nb,l,f,h1,h2,h3,h4,rfl⟩:=h
 obtain⟨na',nb',l',f',k1,k2,k3,k4,rfl⟩:=k
 rw[h1] at k1;rw[h2] at k2;cases k1;cases k2
 rw[h3.uniq k3,h4.uniq k4]
def TwoP(hs:List Nd)(i k:Nat):Prop:=∃a b,hs[i]? =some a/\hs[k]? =some b/\b.v.1≠a.v.1
def ArcI(x:CatD)(hs:List Nd)(i:Nat)(e:ArcD):Prop:=(∃xs,OwnA hs i xs/\e∈xs)\/∃k xs,Dp hs i k/\TwoP hs i k/\BtwP x hs k i xs/\e∈xs
def ArcIn(x:CatD)(hs:List Nd)(e:ArcD):Prop:=∃i,i<hs.length/\ArcI x hs i e
structure ArcsP(x:CatD)(hs:List Nd)(ys:List ArcD):Prop where
 srt:ys.Pairwise fun a b=>SfA.key a<SfA.key b
 mem:HMay x hs->∀e,e∈ys↔ArcIn x hs e
 no:¬HMay x hs->ys=[]
theorem ArcIn.q{x:CatD}{hs:List Nd}{e:ArcD}(h:ArcIn x hs e):(0<=e.1/\e.1<(hs.length:Int))/\(0<=e.2.1/\e.2.1<(hs.length:Int))/\1<=e.2.2/\e.2.2<=4:=by
 obtain⟨i,hi,⟨xs,⟨n,hn,h⟩,he⟩|⟨k,xs,hd,_,⟨na,nb,l,f,h1,h2,h3,h4,rfl⟩,he⟩⟩:=h
 ·rcases h with ⟨rfl,_⟩|⟨k,m,k1,k2,k3,rfl,_⟩
  ·cases he
  ·rw[List.mem_singleton.1 he]
   exact⟨⟨by dsimp only;omega,by dsimp only;omega⟩,⟨by dsimp only;omega,by dsimp only;omega⟩,by dsimp only;omega,by dsimp only;omega⟩
 ·have hk:=Dp_lt hd
  have hl:=h3.1.lt (by omega)
  have hf:=h4.1.lt hi
  simp only[List.mem_cons,List.not_mem_nil,or_false] at he
  rcases he with rfl|rfl|rfl<;>exact⟨⟨by dsimp only;omega,by dsimp only;omega⟩,⟨by dsimp only;omega,by dsimp only;omega⟩,by dsimp only;omega,by dsimp only;omega⟩
theorem ArcIn.Q{x:CatD}{hs:List Nd}{e:ArcD}(h:ArcIn x hs e)(hl:hs.length<=100):SfA.Q e:=by
 obtain⟨h1,h2,h3⟩:=h.q
 exact⟨⟨by omega,by omega⟩,⟨by omega,by omega⟩,by omega,by omega⟩
theorem arcKey_inj{a b:ArcD}(ha:SfA.Q a)(hb:SfA.Q b)(h:SfA.key a=SfA.key b):a=b:=by
 obtain⟨a1,a2,a3⟩:=a
 obtain⟨b1,b2,b3⟩:=b
 obtain⟨h1,h2,h3⟩:=ha
 obtain⟨g1,g2,g3⟩:=hb
 unfold SfA.key at h
 dsimp only at*
 have e1:a1=b1:=by omega
 have e2:a2=b2:=by omega
 have e3:a3=b3:=by omega
 rw[e1,e2,e3]
set_option maxRecDepth 20000 in
theorem c30{w:World}{v:CatV}{x:CatD}{t:Sl}{hs:List Nd}(h:CatM w v x)(hH:Hst w t hs):
  Cw 30 #[cxV v,slV t] w fun r w'=>∃t' ys,r=slV t'/\ArcsP x hs ys/\OwS w' t' 3 (ys.flatMap aC)/\ys.length<=100000/\Ext w w'/\∀j∈blk t',w.heap.size<=j:=by
 have htn:=hH.n
 refine F30_ok v t w _ fun b1 w2 a2=>?_
 have e2:Ext w w2:=a2.ch _
 refine⟨v,cxN h a2.new (Ch.refl _ _),(c84 (h.ext e2) (hH.ext e2)).use ?_⟩
 rintro _ w7 ⟨r,rfl,hr,e7⟩
 have e27:=e2.trans e7
 refine⟨r,rfl,IfB.intro (fun h1=>⟨⟨none,0,0⟩,[],rfl,⟨.nil,fun hM=>?_,fun _=>rfl⟩,.nil _ _,by simp,e27,by simp[blk]⟩) fun h1=>?_⟩
 ·have h1:r=false:=by simpa using h1
  rw[hr.2 hM] at h1;cases h1
 have hM:=hr.1 (by simpa using h1)
 have hl100:=hM.len
 refine(c85 (hH.ext e27) (by omega)).use ?_
 rintro _ w10 ⟨tl,rows,rfl,hrl,hrow,hO,e10⟩
 have x10:Ext w2 w10:=e7.trans e10
 have E10:Ext w w10:=e27.trans e10
 have hR:=hO.rws
 have hRn:=hR.n
 have zz:=E10.size
 refine⟨tl,rfl,fun m z W=>∃(i:Nat)(so:Sl)(acc:List ArcD),i<=hs.length/\m+i=hs.length/\z=(so,(i:Int))/\OwS W so 3 (acc.flatMap aC)/\acc.length<=i*301/\(∀e,e∈acc↔∃i',i'<i/\ArcI x hs i' e)/\(∀j∈blk so,w10.heap.size<=j)/\Ext w10 W,
  ⟨hs.length,0,⟨none,0,0⟩,[],Nat.zero_le _,rfl,rfl,.nil _ _,by simp,fun e=>⟨fun h=>(by cases h),fun⟨i',h,_⟩=>absurd h (Nat.not_lt_zero _)⟩,by simp[blk],Ch.refl _ _⟩,?_⟩
 rintro m _ W g ⟨i,so,acc,hi,hm,rfl,ho,hal,hmem,hbk,eW⟩
 unfold F30j1
 have hon:=owsN aC_len (by omega) ho
 refine IfB.dec (fun hlt=>?_) fun hge=>?_
 ·dsimp only at hlt
  have hi':i<hs.length:=by omega
  have hrx:rows[i]? =some rows[i]:=List.getElem?_eq_getElem (by omega)
  generalize rows[i]=rw' at hrx
  have hRow:=hrow i rw' hrx
  have hRl:=hRow.len
  obtain⟨⟨pa,oa,hpa,hca⟩,_,hrn⟩:=(hR.ext eW).at hrx
  have ga:hs[i]? =some hs[i]:=List.getElem?_eq_getElem hi'
  generalize hs[i]=na at ga
  refine⟨pa,oa,hpa,⟨by dsimp only;omega,hlt⟩,rw'.1,by dsimp only;rw[Int.toNat_natCast];exact hca,(c86 (hH.ext (E10.trans eW)) hi').use ?_⟩
  rintro _ w23 ⟨s24,xo,rfl,hxo,hos,e23,hb23⟩
  have E23:Ext w10 w23:=eW.trans e23
  have hsn:=owsN aC_len (by omega) hos
  have hxl:xo.length<=1:=by
   obtain⟨n,_,⟨rfl,_⟩|⟨_,_,_,_,_,rfl,_⟩⟩:=hxo<;>simp
  refine⟨s24,rfl,_,hos.rd.2,OwS.append (new:=xo.flatMap aC) (cnt:=s24.n) (ho.ext e23) rfl rfl (by rw[flatLen aC_len,hsn]) (aC_all xo) ⟨by dsimp only;omega,Nat.le_trans (Nat.mul_le_mul (show 2*(so.n+s24.n)<=100000 by omega) (show _<=100000 by decide)) (by decide)⟩ fun s26 w27 ho27 hn27 hC27 hb27 _=>?_⟩
  rw[<-List.flatMap_append] at ho27
  have E27:Ext w10 w27:=E23.chN hC27 fun j hj=>hbk j hj
  have hbk27:∀j∈blk s26,w10.heap.size<=j:=fun j hj=>by
   rcases hb27 j hj with h'|h'
   ·exact hbk j h'
   ·have:=E23.size;omega
  refine⟨fun m' z V=>∃(q:Nat)(sq:Sl)(ac:List ArcD),q<=rw'.2.length/\m'+q=rw'.2.length/\z=(sq,(q:Int))/\OwS V sq 3 (ac.flatMap aC)/\ac.length<=i*301+1+q*3/\(∀e,e∈ac↔e∈acc\/e∈xo\/∃k:Nat,(k:Int)∈rw'.2.take q/\TwoP hs i k/\∃xs,BtwP x hs k i xs/\e∈xs)/\(∀j∈blk sq,w10.heap.size<=j)/\Ext w10 V,
   ⟨rw'.2.length,0,s26,acc++xo,Nat.zero_le _,rfl,rfl,ho27,by rw[List.length_append];omega,fun e=>by simp,hbk27,E27⟩,?_⟩
  rintro m' _ V g' ⟨q,sq,ac,hq,hmq,rfl,hoq,hql,hqm,hqb,eV⟩
  unfold F30j2
  have hqn:=owsN aC_len (by omega) hoq
  refine IfB.dec (fun hlt2=>?_) fun hge2=>?_
  ·dsimp only at hlt2
   have hq':q<rw'.2.length:=by omega
   have hk:rw'.2[q]? =some rw'.2[q]:=List.getElem?_eq_getElem hq'
   have hkm:rw'.2[q]∈rw'.2:=List.getElem_mem hq'
   have htk:=take_succ_get hk
   generalize rw'.2[q]=kz at hk hkm htk
   obtain⟨k,rfl,hdk⟩:=(hRow.mem kz).1 hkm
   have hki:=Dp_lt hdk
   have gb:hs[k]? =some hs[k]:=List.getElem?_eq_getElem (by omega)
   generalize hs[k]=nb at gb
   obtain⟨_,hrd,_⟩:=(hR.ext eV).at hrx
   obtain⟨pb,ob,hpb,hcb⟩:=hrd.elem1 (i:=q) (v:=iv (k:Int)) (by rw[List.getElem?_map,hk];rfl)
   have ed:=extDrew V
   have EV:Ext w V.drew:=(E10.trans eV).trans ed
   obtain⟨pc,oc,hpc,hcc⟩:=(hH.ext EV).at gb
   obtain⟨pd,od,hpd,hcd⟩:=(hH.ext EV).at ga
   have hw:IntKind.i64.wrap ((q:Int)+1)=((q+1:Nat):Int):=by rw[wrap_of (by omega) (by omega)];rfl
   refine⟨pb,ob,hpb,⟨by dsimp only;omega,by dsimp only;omega⟩,(k:Int),by dsimp only;rw[Int.toNat_natCast];exact hcb,pc,oc,hpc,⟨by omega,by omega⟩,nb.v.1,by rw[Int.toNat_natCast];exact hcc 0 _ rfl,pd,od,hpd,⟨by dsimp only;omega,by dsimp only;omega⟩,na.v.1,by dsimp only;rw[Int.toNat_natCast];exact hcd 0 _ rfl,IfB.intro (fun hne=>?_) fun heq=>?_⟩
   ·have hne:nb.v.1≠na.v.1:=by simpa using hne
    refine⟨v,cxN h a2.new ((x10.trans eV).trans ed),(c87 (h.ext EV) (hH.ext EV) hM (show k<hs.length by omega) hi').use ?_⟩
    rintro _ w48 ⟨s49,xb,rfl,hxb,hob,e48,hb48⟩
    have E48:Ext w10 w48:=(eV.trans ed).trans e48
    have hbn:=owsN aC_len (by omega) hob
    have hbl:xb.length=3:=by
     obtain⟨_,_,_,_,_,_,_,_,rfl⟩:=hxb;rfl
    refine⟨s49,rfl,_,hob.rd.2,OwS.append (new:=xb.flatMap aC) (cnt:=s49.n) ((hoq.ext ed).ext e48) rfl rfl (by rw[flatLen aC_len,hbn]) (aC_all xb) ⟨by dsimp only;omega,Nat.le_trans (Nat.mul_le_mul (show 2*(sq.n+s49.n)<=100000 by omega) (show _<=100000 by decide)) (by decide)⟩ fun s51 w52 ho52 hn52 hC52 hb52 _=>⟨rfl,m'-1,by omega,q+1,s51,ac++xb,hq',by omega,by dsimp only;rw[hw],by rw[<-List.flatMap_append] at ho52;exact ho52,by rw[List.length_append];omega,fun e=>?_,fun j hj=>?_,E48.chN hC52 fun j hj=>hqb j hj⟩⟩
    ·rw[List.mem_append,hqm,htk]
     constructor
     ·rintro((h'|h'|⟨k',h1,h2⟩)|h')
      ·exact .inl h'
      ·exact .inr (.inl h')
      ·exact .inr (.inr ⟨k',List.mem_append.2 (.inl h1),h2⟩)
      ·exact .inr (.inr ⟨k,by simp,⟨na,nb,ga,gb,hne⟩,xb,hxb,h'⟩)
     ·rintro(h'|h'|⟨k',h1,h2,xs,h3,h4⟩)
      ·exact .inl (.inl h')
      ·exact .inl (.inr (.inl h'))
      ·rcases List.mem_append.1 h1 with h1|h1
       ·exact .inl (.inr (.inr ⟨k',h1,h2,xs,h3,h4⟩))
       ·have:k'=k:=Int.ofNat.inj (List.mem_singleton.1 h1)
        subst this
        rw[hxb.uniq h3];exact .inr h4
    ·rcases hb52 j hj with h'|h'
     ·exact hqb j h'
     ·have:=E48.size;omega
   ·have heq:nb.v.1=na.v.1:=by simpa using heq
    refine⟨rfl,m'-1,by omega,q+1,sq,ac,hq',by omega,by dsimp only;rw[hw],hoq.ext ed,by omega,fun e=>?_,hqb,eV.trans ed⟩
    rw[hqm,htk]
    constructor
    ·rintro(h'|h'|⟨k',h1,h2⟩)
     ·exact .inl h'
     ·exact .inr (.inl h')
     ·exact .inr (.inr ⟨k',List.mem_append.2 (.inl h1),h2⟩)
    ·rintro(h'|h'|⟨k',h1,h2,xs,h3,h4⟩)
     ·exact .inl h'
     ·exact .inr (.inl h')
     ·rcases List.mem_append.1 h1 with h1|h1
      ·exact .inr (.inr ⟨k',h1,h2,xs,h3,h4⟩)
      ·have:k'=k:=Int.ofNat.inj (List.mem_singleton.1 h1)
       subst this
       obtain⟨a',b',g1,g2,g3⟩:=h2
       rw[ga] at g1;rw[gb] at g2;cases g1;cases g2
       exact absurd heq g3
  ·dsimp only at hge2
   have hwi:IntKind.i64.wrap ((i:Int)+1)=((i+1:Nat):Int):=by rw[wrap_of (by omega) (by omega)];rfl
   have hq':q=rw'.2.length:=by omega
   subst hq'
   have hal':ac.length<=(i+1)*301:=by omega
   refine⟨rfl,m-1,by omega,i+1,sq,ac,hi',by omega,by dsimp only;rw[hwi],hoq,hal',fun e=>?_,hqb,eV⟩
   rw[hqm,List.take_length,hmem]
   constructor
   ·rintro(⟨i',h1,h2⟩|h'|⟨k,h1,h2,xs,h3,h4⟩)
    ·exact⟨i',by omega,h2⟩
    ·exact⟨i,by omega,.inl ⟨xo,hxo,h'⟩⟩
    ·obtain⟨k',hk',hd⟩:=(hRow.mem (k:Int)).1 h1
     have:k=k':=Int.ofNat.inj hk'
     subst this
     exact⟨i,by omega,.inr ⟨k,xs,hd,h2,h3,h4⟩⟩
   ·rintro⟨i',h1,h2⟩
    rcases Nat.lt_or_ge i' i with h'|h'
    ·exact .inl ⟨i',h',h2⟩
    ·have:i'=i:=by omega
     subst this
     rcases h2 with ⟨xs,h3,h4⟩|⟨k,xs,hd,h3,h4,h5⟩
     ·rw[hxo.uniq h3];exact .inr (.inl h4)
     ·exact .inr (.inr ⟨k,(hRow.mem (k:Int)).2 ⟨k,rfl,hd⟩,h3,xs,h4,h5⟩)
 ·dsimp only at hge
  have hi':i=hs.length:=by omega
  subst hi'
  have hQ:∀e∈acc,SfA.Q e:=fun e he=>ArcIn.Q (x:=x) ((hmem e).1 he) hl100
  refine(SfA.c88 (cl:=(89,#[])) c89 ho (by omega) hQ).use ?_
  rintro _ w57 ⟨rfl,ys,hp,hsrt,ho57,hC57⟩
  have hpl:=hp.length_eq
  refine⟨(),rfl,(c90 ho57 (by omega)).use ?_⟩
  rintro _ w60 ⟨s61,rfl,ho60,hp60,hC60⟩
  have hcl:=cptL_len ys
  have hb61:∀j∈blk s61,w10.heap.size<=j:=fun j hj=>hbk j (by unfold blk at hj ⊢;rw[hp60] at hj;exact hj)
  refine⟨s61,rfl,s61,cptL ys,rfl,⟨cptL_sorted (fun a b ha hb=>arcKey_inj (hQ a (hp.mem_iff.1 ha)) (hQ b (hp.mem_iff.1 hb))) hsrt,fun _ e=>?_,fun hno=>absurd hM hno⟩,ho60,by omega,((E10.trans eW).chN hC57 fun j hj=>?_).chN hC60 fun j hj=>?_,fun j hj=>?_⟩
  ·rw[cptL_mem,hp.mem_iff,hmem];rfl
  ·have:=hbk j hj;omega
  ·have:=hbk j hj;omega
  ·have:=hb61 j hj;omega
def holdB(out:List Nat)(j:Nat)(e:ArcD):Bool:=e.2.1 == (j:Int) && !(out.any fun k=>e.1 == (k:Int))
def holds(arcs:List ArcD)(out:List Nat)(j:Nat):Nat:=arcs.countP (holdB out j)
inductive TRun(arcs:List ArcD)(n:Nat):List Nat->Prop
 | nil:TRun arcs n []
 | snoc {out:List Nat} {i:Nat}:TRun arcs n out->i<n->i∉out->holds arcs out i=0->(∀j,j<i->j∈out\/0<holds arcs out j)->TRun arcs n (out++[i])
structure ToldP(arcs:List ArcD)(n:Nat)(out:List Nat):Prop where
 run:TRun arcs n out
 all:∀j,j<n->j∈out\/0<holds arcs out j
theorem TRun.nodup{arcs:List ArcD}{n:Nat}{out:List Nat}(h:TRun arcs n out):out.Nodup/\∀i∈out,i<n:=by
 induction h with
 | nil=>simp
 | snoc h hi hn _ _ ih=>
  refine⟨List.nodup_append.2 ⟨ih.1,by simp,fun a ha b hb=>?_⟩,fun j hj=>?_⟩
  ·rw[List.mem_singleton.1 hb];exact fun e=>hn (e ▸ ha)
  ·rcases List.mem_append.1 hj with hj|hj
   ·exact ih.2 j hj
   ·rw[List.mem_singleton.1 hj];exact hi
theorem TRun.len{arcs:List ArcD}{n:Nat}{out:List Nat}(h:TRun arcs n out):out.length<=n:=by
 have:=nodup_le (a:=out) (b:=List.range n) h.nodup.1 fun i hi=>List.mem_range.2 (h.nodup.2 i hi)
 simpa using this
theorem TRun.at{arcs:List ArcD}{n:Nat}{L:List Nat}(h:TRun arcs n L):∀ {p q:List Nat}{a:Nat},L=p++a::q->a<n/\a∉p/\holds arcs p a=0/\∀j,j<a->j∈p\/0<holds arcs p j:=by
 induction h with
 | nil=>intro p q a h;simp at h
 | @snoc out i h1 h2 h3 h4 h5 ih=>
  intro p q a h
  rcases List.eq_nil_or_concat q with rfl|⟨q',z,rfl⟩
  ·obtain⟨e1,e2⟩:=List.append_inj' h rfl
   cases e2;subst e1
   exact⟨h2,h3,h4,h5⟩
  ·have:out++[i]=(p++a::q')++[z]:=by rw[h];simp
   exact ih (List.append_inj' this rfl).1
theorem least{P:Nat->Prop}:∀ {n k:Nat},k<=n->P k->∃f,P f/\∀j,P j->f<=j:=by
 intro n
 induction n with
 | zero=>intro k hk h;exact⟨k,h,fun j _=>by omega⟩
 | succ n ih=>
  intro k hk h
  by_cases hx:∃j,j<=n/\P j
  ·obtain⟨j,hj,hp⟩:=hx;exact ih hj hp
  ·refine⟨k,h,fun j hj=>?_⟩
   rcases Nat.lt_or_ge j k with h'|h'
   ·exact absurd ⟨j,by omega,hj⟩ hx
   ·exact h'
theorem greatest{P:Nat->Prop}{n k:Nat}(h:P k)(hb:∀j,P j->j<n):∃l,P l/\∀j,P j->j<=l:=by
 obtain⟨m,⟨j,hj,hm⟩,hmin⟩:=least (P:=fun m=>∃j,P j/\m+j=n) (n:=n) (k:=n-k) (by omega) ⟨k,h,by have:=hb k h;omega⟩
 refine⟨j,hj,fun i hi=>?_⟩
 have h1:=hb i hi
 have h2:=hmin (n-i) ⟨i,hi,by omega⟩
 omega
theorem get_lt{α:Type}{l:List α}{i:Nat}{a:α}(h:l[i]? =some a):i<l.length:=(List.getElem?_eq_some_iff.1 h).1
theorem InP.sym{x:CatD}{hs:List Nd}(hM:HMay x hs){i k:Nat}{d:Int}(h:InP x hs i k d):InP x hs k i d:=by
 rcases h with rfl|⟨a,b,ha,hb,h1,h2,h3,h4⟩
 ·exact .inl rfl
 ·exact .inr ⟨b,a,hb,ha,h1.symm,h3,h2,by rw[hM.cls hb ha h1.symm];exact h4.symm⟩
theorem InP.tr{x:CatD}{hs:List Nd}(hM:HMay x hs){i j k:Nat}{d:Int}(h:InP x hs i j d)(g:InP x hs j k d):InP x hs i k d:=by
 rcases h with rfl|⟨a,b,ha,hb,h1,h2,h3,h4⟩
 ·exact g
 ·rcases g with rfl|⟨b',c,hb',hc,g1,g2,g3,g4⟩
  ·exact .inr ⟨a,b,ha,hb,h1,h2,h3,h4⟩
  ·rw[hb] at hb';cases hb'
   exact .inr ⟨a,c,ha,hc,h1.trans g1,h2,g3,h4.trans (by rw[hM.cls ha hb h1];exact g4)⟩
theorem InP.saga{x:CatD}{hs:List Nd}{i k:Nat}{d:Int}{a:Nd}(h:InP x hs i k d)(ha:hs[i]? =some a):∃b,hs[k]? =some b/\b.v.1=a.v.1:=by
 rcases h with rfl|⟨a',b,ha',hb,h1,_⟩
 ·exact⟨a,ha,rfl⟩
 ·rw[ha] at ha';cases ha';exact⟨b,hb,h1.symm⟩
theorem LstP.ex{x:CatD}{hs:List Nd}{i:Nat}(hi:i<hs.length)(d:Int):∃l,LstP x hs i d l:=greatest (P:=fun k=>InP x hs i k d) (.inl rfl) fun _ h=>h.lt hi
theorem FstP.ex{x:CatD}{hs:List Nd}{i:Nat}(hi:i<hs.length)(d:Int):∃l,FstP x hs i d l:=least (P:=fun k=>InP x hs i k d) (Nat.le_refl i) (.inl rfl)
def ArcE(x:CatD)(hs:List Nd)(a b:Nat):Prop:=∃c:Int,ArcIn x hs ((a:Int),(b:Int),c)
theorem arc_own{x:CatD}{hs:List Nd}:∀ {n i k:Nat}{m nd:Nd},i<=n->hs[k]? =some m->hs[i]? =some nd->m.v.1=nd.v.1->k<i->TC (ArcE x hs) k i:=by
 intro n
 induction n with
 | zero=>intro i k m nd h1 h2 h3 h4 h5;omega
 | succ n ih=>
  intro i k m nd h1 h2 h3 h4 h5
  obtain⟨j,⟨hj,nj,hnj,hsj⟩,hmax⟩:=greatest (P:=fun j=>j<i/\∃nj,hs[j]? =some nj/\nj.v.1=nd.v.1) (n:=i) (k:=k) ⟨h5,m,h2,h4⟩ fun j h=>h.1
  have harc:ArcE x hs j i:=⟨1,i,get_lt h3,.inl ⟨_,⟨nd,h3,.inr ⟨j,nj,hj,hnj,hsj,rfl,fun q mq g1 g2 g3 g4=>by have:=hmax q ⟨g2,mq,g3,g4⟩;omega⟩⟩,by simp⟩⟩
  have hkj:=hmax k ⟨h5,m,h2,h4⟩
  rcases Nat.lt_or_ge k j with h|h
  ·exact(ih (by omega) h2 hnj (h4.trans hsj.symm) h).more harc
  ·have:k=j:=by omega
   subst this;exact .one harc
theorem arc_btw{x:CatD}{hs:List Nd}{i k l f:Nat}{ni nk:Nd}(hd:Dp hs i k)(hi:hs[i]? =some ni)(hk:hs[k]? =some nk)(hne:nk.v.1≠ni.v.1)(hl:LstP x hs k ni.v.2.1 l)(hf:FstP x hs i nk.v.2.1 f):ArcE x hs k i/\ArcE x hs l i/\ArcE x hs k f:=by
 have h0:BtwP x hs k i [((k:Int),(i:Int),2),((l:Int),(i:Int),3),((k:Int),(f:Int),4)]:=⟨nk,ni,l,f,hk,hi,hl,hf,rfl⟩
 have h1:∀e,e∈[((k:Int),(i:Int),(2:Int)),((l:Int),(i:Int),3),((k:Int),(f:Int),4)]->ArcIn x hs e:=fun e he=>⟨i,get_lt hi,.inr ⟨k,_,hd,⟨ni,nk,hi,hk,hne⟩,h0,he⟩⟩
 exact⟨⟨2,h1 _ (by simp)⟩,⟨3,h1 _ (by simp)⟩,⟨4,h1 _ (by simp)⟩⟩
theorem arc_inv{x:CatD}{hs:List Nd}{a b:Nat}(h:ArcE x hs a b):(∃m n,a<b/\hs[a]? =some m/\hs[b]? =some n/\m.v.1=n.v.1)\/∃i k ni nk l f,Dp hs i k/\hs[i]? =some ni/\hs[k]? =some nk/\nk.v.1≠ni.v.1/\LstP x hs k ni.v.2.1 l/\FstP x hs i nk.v.2.1 f/\((a=k/\b=i)\/(a=l/\b=i)\/(a=k/\b=f)):=by
 obtain⟨c,i,hi,h⟩:=h
 rcases h with ⟨xs,⟨n,hn,h⟩,he⟩|⟨k,xs,hd,⟨ni,nk,h1,h2,h3⟩,⟨nk',ni',l,f,g1,g2,g3,g4,rfl⟩,he⟩
 ·rcases h with ⟨rfl,_⟩|⟨k,m,k1,k2,k3,rfl,_⟩
  ·cases he
  ·have:=List.mem_singleton.1 he
   simp only[Prod.mk.injEq] at this
   have ea:a=k:=by omega
   have eb:b=i:=by omega
   subst ea eb
   exact .inl ⟨m,n,k1,k2,hn,k3⟩
 ·rw[h2] at g1;rw[h1] at g2;cases g1;cases g2
  refine .inr ⟨i,k,ni,nk,l,f,hd,h1,h2,h3,g3,g4,?_⟩
  simp only[List.mem_cons,List.not_mem_nil,or_false,Prod.mk.injEq] at he
  omega
structure FairR(x:CatD)(hs:List Nd)(r:Nat->Nat):Prop where
 inj:∀i j,i<hs.length->j<hs.length->r i=r j->i=j
 keep:∀i k,EdP hs i k->r k<r i
 fair:∀o a b u no na,hs[o]? =some no->hs[a]? =some na->na.v.1≠no.v.1->InP x hs a b no.v.2.1->r a<=r o->r o<=r b->InP x hs a u no.v.2.1->¬(Dp hs o u\/Dp hs u o)
theorem dp_rank{hs:List Nd}{r:Nat->Nat}(h:∀i k,EdP hs i k->r k<r i){i k:Nat}(hd:Dp hs i k):r k<r i:=by
 induction hd with
 | one e=>exact h _ _ e
 | more _ e ih=>have:=h _ _ e;omega
theorem FairR.arc{x:CatD}{hs:List Nd}{r:Nat->Nat}(hM:HMay x hs)(h:FairR x hs r){a b:Nat}(e:ArcE x hs a b):r a<r b:=by
 rcases arc_inv e with ⟨m,n,h1,h2,h3,h4⟩|⟨i,k,ni,nk,l,f,hd,hi,hk,hne,hl,hf,hab⟩
 ·exact h.keep _ _ ⟨h1,n,m,h3,h2,.inl h4.symm⟩
 ·have hki:=dp_rank h.keep hd
  rcases hab with ⟨rfl,rfl⟩|⟨rfl,rfl⟩|⟨rfl,rfl⟩
  ·exact hki
  ·apply Nat.lt_of_not_le;intro hle
   exact h.fair b k a k ni nk hi hk hne hl.1 (by omega) hle (.inl rfl) (.inl hd)
  ·apply Nat.lt_of_not_le;intro hle
   obtain⟨nf,hnf,hsf⟩:=hf.1.saga hi
   exact h.fair a b i i nk nf hk hnf (by rw[hsf];exact fun e=>hne e.symm) (hf.1.sym hM) hle (by omega) (hf.1.sym hM) (.inr hd)
theorem tc_rank{E:Nat->Nat->Prop}{r:Nat->Nat}(h:∀a b,E a b->r a<r b){a b:Nat}(t:TC E a b):r a<r b:=by
 induction t with
 | one e=>exact h _ _ e
 | more _ e ih=>have:=h _ _ e;omega
theorem fair_of{x:CatD}{hs:List Nd}{r:Nat->Nat}(hM:HMay x hs)(inj:∀i j,i<hs.length->j<hs.length->r i=r j->i=j)(hr:∀a b,ArcE x hs a b->r a<r b):FairR x hs r:=by
 have own:∀ {k i:Nat}{m n:Nd},hs[k]? =some m->hs[i]? =some n->m.v.1=n.v.1->k<i->r k<r i:=fun h1 h2 h3 h4=>tc_rank hr (arc_own (Nat.le_refl _) h1 h2 h3 h4)
 have dp:∀ {i k:Nat},Dp hs i k->k<hs.length->i<hs.length->r k<r i:=fun{i k} hd hk hi=>by
  have hlt:=Dp_lt hd
  have gi:hs[i]? =some hs[i]:=List.getElem?_eq_getElem hi
  have gk:hs[k]? =some hs[k]:=List.getElem?_eq_getElem hk
  by_cases he:hs[k].v.1=hs[i].v.1
  ·exact own gk gi he hlt
  ·obtain⟨l,hl⟩:=LstP.ex (x:=x) hk hs[i].v.2.1
   obtain⟨f,hf⟩:=FstP.ex (x:=x) hi hs[k].v.2.1
   exact hr _ _ (arc_btw hd gi gk he hl hf).1
 refine⟨inj,fun i k h=>?_,fun o a b u no na ho ha hne hab h1 h2 hau hd=>?_⟩
 ·obtain⟨hlt,a,b,ga,gb,_⟩:=id h
  exact dp (.one h) (get_lt gb) (get_lt ga)
 ·obtain⟨nu,hu,hsu⟩:=hau.saga ha
  obtain⟨nb,hb,hsb⟩:=hab.saga ha
  rcases hd with hd|hd
  ·obtain⟨l,hl⟩:=LstP.ex (x:=x) (get_lt hu) no.v.2.1
   obtain⟨f,hf⟩:=FstP.ex (x:=x) (get_lt ho) nu.v.2.1
   have h3:=hr _ _ (arc_btw hd ho hu (by rw[hsu];exact hne) hl hf).2.1
   have hbl:=hl.2 b ((hau.sym hM).tr hM hab)
   obtain⟨nl,hnl,hsl⟩:=hl.1.saga hu
   rcases Nat.lt_or_ge b l with h'|h'
   ·have:=own hb hnl (hsb.trans (hsu.symm.trans hsl.symm)) h';omega
   ·have:b=l:=by omega
    subst this;omega
  ·obtain⟨l,hl⟩:=LstP.ex (x:=x) (get_lt ho) nu.v.2.1
   obtain⟨f,hf⟩:=FstP.ex (x:=x) (get_lt hu) no.v.2.1
   have h3:=hr _ _ (arc_btw hd hu ho (by rw[hsu];exact fun e=>hne e.symm) hl hf).2.2
   have hfa:=hf.2 a (hau.sym hM)
   obtain⟨nf,hnf,hsf⟩:=hf.1.saga hu
   rcases Nat.lt_or_ge f a with h'|h'
   ·have:=own hnf ha (hsf.trans hsu) h';omega
   ·have:f=a:=by omega
    subst this;omega
def pos:List Nat->Nat->Nat
 | [],_=>0
 | x::l,i=>if x=i then 0 else pos l i+1
theorem pos_mem:∀ {p:List Nat}{a:Nat}(q:List Nat),a∈p->pos (p++q) a<p.length
 | x::p,a,q,h=>by
  rw[List.cons_append,pos,List.length_cons]
  by_cases e:x=a
  ·rw[if_pos e];omega
  ·rw[if_neg e]
   have:=pos_mem (p:=p) q ((List.mem_cons.1 h).resolve_left fun h=>e h.symm)
   omega
theorem pos_not:∀ {p:List Nat}{b:Nat}(q:List Nat),b∉p->pos (p++b::q) b=p.length
 | [],b,q,_=>by rw[List.nil_append,pos,if_pos rfl];rfl
 | x::p,b,q,h=>by
  rw[List.cons_append,pos,if_neg (fun e=>h (by rw[e];exact List.mem_cons_self ..)),pos_not q fun h'=>h (List.mem_cons_of_mem _ h'),List.length_cons]
theorem pos_get:∀ {l:List Nat}{a:Nat},a∈l->l[pos l a]? =some a
 | x::l,a,h=>by
  rw[pos]
  by_cases e:x=a
  ·rw[if_pos e,e];rfl
  ·rw[if_neg e,List.getElem?_cons_succ]
   exact pos_get ((List.mem_cons.1 h).resolve_left fun h=>e h.symm)
theorem full_mem{out:List Nat}{n:Nat}(hn:out.Nodup)(hl:∀i∈out,i<n)(h:out.length=n){i:Nat}(hi:i<n):i∈out:=by
 refine Classical.byContradiction fun hno=>?_
 have:=nodup_le (a:=i::out) (b:=List.range n) (List.nodup_cons.2 ⟨hno,hn⟩) fun j hj=>by
  rcases List.mem_cons.1 hj with rfl|hj
  ·exact List.mem_range.2 hi
  ·exact List.mem_range.2 (hl j hj)
 rw[List.length_cons,List.length_range] at this
 omega
theorem full_miss{out:List Nat}{n:Nat}(h:out.length<n):∃i,i<n/\i∉out:=by
 refine Classical.byContradiction fun hno=>?_
 have:=nodup_le (a:=List.range n) (b:=out) List.nodup_range fun j hj=>Classical.byContradiction fun h'=>hno ⟨j,List.mem_range.1 hj,h'⟩
 rw[List.length_range] at this
 omega
theorem holds_pos{arcs:List ArcD}{out:List Nat}{j:Nat}:0<holds arcs out j↔∃e∈arcs,e.2.1=(j:Int)/\∀k∈out,e.1≠(k:Int):=by
 unfold holds
 rw[List.countP_pos_iff]
 refine exists_congr fun e=>and_congr_right fun _=>?_
 unfold holdB
 rw[Bool.and_eq_true,beq_iff_eq,Bool.not_eq_true']
 refine and_congr_right fun _=>⟨fun h k hk he=>?_,fun h=>?_⟩
 ·rw[List.any_eq_false] at h
  exact h k hk (beq_iff_eq.2 he)
 ·rw[List.any_eq_false]
  exact fun k hk he=>h k hk (beq_iff_eq.1 he)
theorem told_rank{arcs:List ArcD}{n:Nat}{out:List Nat}(hT:ToldP arcs n out)(hl:out.length=n){a b:Nat}{c:Int}(he:((a:Int),(b:Int),c)∈arcs)(hb:b<n):pos out a<pos out b:=by
 have hnd:=hT.run.nodup
 obtain⟨p,q,hpq⟩:=List.append_of_mem (full_mem hnd.1 hnd.2 hl hb)
 obtain⟨h1,h2,h3,_⟩:=hT.run.at hpq
 have:¬0<holds arcs p b:=by omega
 rw[holds_pos] at this
 have ha:a∈p:=Classical.byContradiction fun h=>this ⟨_,he,rfl,fun k hk e=>h (by rw[show a=k from Int.ofNat.inj e];exact hk)⟩
 rw[hpq,pos_not q h2]
 exact pos_mem _ ha
theorem told_full{arcs:List ArcD}{n:Nat}{out:List Nat}(hT:ToldP arcs n out){r:Nat->Nat}(hr:∀e∈arcs,∃a b:Nat,e.1=(a:Int)/\e.2.1=(b:Int)/\a<n/\r a<r b):out.length=n:=by
 have hlen:=hT.run.len
 refine Classical.byContradiction fun hne=>?_
 obtain⟨i0,h0,h0'⟩:=full_miss (out:=out) (n:=n) (by omega)
 obtain⟨m,⟨i,hi,hio,rfl⟩,hmin⟩:=least (P:=fun m=>∃i,i<n/\i∉out/\r i=m) (Nat.le_refl _) ⟨i0,h0,h0',rfl⟩
 obtain⟨e,he,h1,h2⟩:=holds_pos.1 ((hT.all i hi).resolve_left hio)
 obtain⟨a,b,ha,hb,han,hab⟩:=hr e he
 have:b=i:=Int.ofNat.inj (hb.symm.trans h1)
 subst this
 have:=hmin (r a) ⟨a,han,fun h=>h2 a h ha,rfl⟩
 omega
theorem TRun.ex{arcs:List ArcD}{n:Nat}:∀ {m:Nat}{out:List Nat},TRun arcs n out->m+out.length=n->∃out',ToldP arcs n out':=by
 intro m
 induction m with
 | zero=>
  intro out h hm
  have hnd:=h.nodup
  exact⟨out,h,fun j hj=>.inl (full_mem hnd.1 hnd.2 (by omega) hj)⟩
 | succ m ih=>
  intro out h hm
  by_cases hx:∀j,j<n->j∈out\/0<holds arcs out j
  ·exact⟨out,h,hx⟩
  ·have:∃j,j<n/\j∉out/\holds arcs out j=0:=Classical.byContradiction fun hno=>hx fun j hj=>by
    by_cases hm:j∈out
    ·exact .inl hm
    ·exact .inr (Nat.pos_of_ne_zero fun h0=>hno ⟨j,hj,hm,h0⟩)
   obtain⟨j0,hj0⟩:=this
   obtain⟨i,⟨hi,hio,hi0⟩,hmin⟩:=least (P:=fun j=>j<n/\j∉out/\holds arcs out j=0) (Nat.le_refl _) hj0
   refine ih (h.snoc hi hio hi0 fun j hj=>?_) (by rw[List.length_append,List.length_singleton];omega)
   by_cases hm:j∈out
   ·exact .inl hm
   ·exact .inr (Nat.pos_of_ne_zero fun h0=>by have:=hmin j ⟨by omega,hm,h0⟩;omega)
theorem told_ex(arcs:List ArcD)(n:Nat):∃out,ToldP arcs n out:=TRun.ex (m:=n) .nil rfl
theorem arc_of{x:CatD}{hs:List Nd}{ys:List ArcD}(hM:HMay x hs)(hA:ArcsP x hs ys){e:ArcD}(he:e∈ys):∃a b:Nat,e.1=(a:Int)/\e.2.1=(b:Int)/\a<hs.length/\b<hs.length/\ArcE x hs a b:=by
 have h:=(hA.mem hM e).1 he
 obtain⟨⟨h1,h2⟩,⟨h3,h4⟩,_⟩:=h.q
 obtain⟨e1,e2,e3⟩:=e
 obtain⟨a,rfl⟩:=Int.eq_ofNat_of_zero_le h1
 obtain⟨b,rfl⟩:=Int.eq_ofNat_of_zero_le h3
 exact⟨a,b,rfl,rfl,by dsimp only at h2;omega,by dsimp only at h4;omega,e3,h⟩
theorem ArcE.lt{x:CatD}{hs:List Nd}{a b:Nat}(h:ArcE x hs a b):a<hs.length/\b<hs.length:=by
 obtain⟨c,h⟩:=h
 have:=h.q
 dsimp only at this
 omega
theorem told_fair{x:CatD}{hs:List Nd}{ys:List ArcD}{out:List Nat}(hM:HMay x hs)(hA:ArcsP x hs ys)(hT:ToldP ys hs.length out)(hl:out.length=hs.length):FairR x hs (pos out):=by
 have hnd:=hT.run.nodup
 refine fair_of hM (fun i j hi hj e=>?_) fun a b ⟨c,h⟩=>told_rank hT hl ((hA.mem hM _).2 h) (ArcE.lt ⟨c,h⟩).2
 have h1:=pos_get (full_mem hnd.1 hnd.2 hl hi)
 have h2:=pos_get (full_mem hnd.1 hnd.2 hl hj)
 rw[e,h2] at h1
 exact(Option.some.inj h1).symm
theorem told_iff{x:CatD}{hs:List Nd}{ys:List ArcD}{out:List Nat}(hM:HMay x hs)(hA:ArcsP x hs ys)(hT:ToldP ys hs.length out):out.length=hs.length↔∃r,FairR x hs r:=
 ⟨fun h=>⟨_,told_fair hM hA hT h⟩,fun⟨r,h⟩=>told_full hT (r:=r) fun e he=>by
  obtain⟨a,b,h1,h2,h3,h4,h5⟩:=arc_of hM hA he
  exact⟨a,b,h1,h2,h3,h.arc hM h5⟩⟩
theorem TC.flip{α:Type}{E:α->α->Prop}{a b:α}(h:TC (fun x y=>E y x) a b):TC E b a:=by
 induction h with
 | one e=>exact .one e
 | more _ e ih=>exact(TC.one e).trans ih
theorem acyc_iff{x:CatD}{hs:List Nd}{ys:List ArcD}(hM:HMay x hs)(hA:ArcsP x hs ys):(∀i,¬TC (ArcE x hs) i i)↔∃r,FairR x hs r:=by
 constructor
 ·intro h
  obtain⟨out,hT⟩:=told_ex ys hs.length
  refine(told_iff hM hA hT).1 (Classical.byContradiction fun hne=>?_)
  have hlen:=hT.run.len
  obtain⟨i,hi,hio⟩:=full_miss (out:=out) (n:=hs.length) (by omega)
  have pred:∀j,j<hs.length->j∉out->∃a,a∉out/\ArcE x hs a j:=fun j hj hjo=>by
   obtain⟨e,he,h1,h2⟩:=holds_pos.1 ((hT.all j hj).resolve_left hjo)
   obtain⟨a,b,g1,g2,g3,g4,g5⟩:=arc_of hM hA he
   have:b=j:=Int.ofNat.inj (g2.symm.trans h1)
   subst this
   exact⟨a,fun h=>h2 a h g1,g5⟩
  obtain⟨a,⟨b,hb⟩,hall⟩:=acyc_some (E:=fun b a=>b∉out/\a∉out/\ArcE x hs a b) (keys:=List.range hs.length) (fun k hk=>h k (TC.flip (hk.mono fun _ _ h=>h.2.2))) (fun a b h=>List.mem_range.2 h.2.2.lt.2) (k:=i) (by
   obtain⟨a,h1,h2⟩:=pred i hi hio
   exact⟨a,hio,h1,h2⟩)
  obtain⟨c,h1,h2⟩:=pred b hb.2.2.lt.1 hb.2.1
  exact hall b hb c ⟨hb.2.1,h1,h2⟩
 ·rintro⟨r,h⟩ i hi
  have:=tc_rank (fun a b e=>h.arc hM e) hi
  omega
theorem InP.take{x:CatD}{hs:List Nd}{m i k:Nat}{d:Int}(h:InP x (hs.take m) i k d):InP x hs i k d:=by
 rcases h with rfl|⟨a,b,ha,hb,h'⟩
 ·exact .inl rfl
 ·rw[List.getElem?_take] at ha hb
  split at ha
  ·split at hb
   ·exact .inr ⟨a,b,ha,hb,h'⟩
   ·cases hb
  ·cases ha
theorem take_get{hs:List Nd}{m i:Nat}{a:Nd}(h:(hs.take m)[i]? =some a):i<m/\hs[i]? =some a:=by
 rw[List.getElem?_take] at h
 split at h
 ·exact⟨‹_›,h⟩
 ·cases h
theorem FairR.take{x:CatD}{hs:List Nd}{r:Nat->Nat}(h:FairR x hs r)(m:Nat):FairR x (hs.take m) r:=by
 refine⟨fun i j hi hj=>h.inj i j (by rw[List.length_take] at hi;omega) (by rw[List.length_take] at hj;omega),fun i k e=>?_,fun o a b u no na ho ha hne hab h1 h2 hau hd=>?_⟩
 ·obtain⟨hlt,a,b,ga,gb,hd⟩:=e
  exact h.keep i k ⟨hlt,a,b,(take_get ga).2,(take_get gb).2,hd⟩
 ·obtain⟨ho1,ho2⟩:=take_get ho
  obtain⟨ha1,ha2⟩:=take_get ha
  obtain⟨nu,hu,_⟩:=hau.saga ha
  have hu1:=(take_get hu).1
  refine h.fair o a b u no na ho2 ha2 hne hab.take h1 h2 hau.take (hd.imp (fun h=>?_) fun h=>?_)
  ·exact(Dp_take ho1).1 h
  ·exact(Dp_take hu1).1 h
theorem HMay.take{x:CatD}{hs:List Nd}(h:HMay x hs)(m:Nat):HMay x (hs.take m):=by
 refine⟨h.cat,by have:=h.len;rw[List.length_take];omega,fun i n hn=>?_⟩
 obtain⟨h1,h2⟩:=take_get hn
 have:=h.ok i n h2
 unfold lastOwn at this ⊢
 rw[List.take_take,Nat.min_eq_left (by omega)]
 exact this
theorem bound_ex(r:Nat->Nat):∀n,∃B,∀i,i<n->r i<B
 | 0=>⟨0,fun i h=>absurd h (Nat.not_lt_zero _)⟩
 | n+1=>by
  obtain⟨B,hB⟩:=bound_ex r n
  refine⟨max B (r n+1),fun i hi=>?_⟩
  rcases Nat.lt_or_ge i n with h|h
  ·have:=hB i h;omega
  ·rw[show i=n by omega];omega
theorem FairR.snoc{x:CatD}{hs:List Nd}{r:Nat->Nat}{n:Nd}(h:FairR x hs r)(hn:n.v.2.2.2.1=true\/∀m∈hs,m.v.1≠n.v.1):∃r',FairR x (hs++[n]) r':=by
 obtain⟨B,hB⟩:=bound_ex r hs.length
 have hlen:(hs++[n]).length=hs.length+1:=by simp
 have htk:(hs++[n]).take hs.length=hs:=by simp
 have hlast:(hs++[n])[hs.length]? =some n:=by simp
 have old:∀ {i:Nat}{a:Nd},(hs++[n])[i]? =some a->i<hs.length/\hs[i]? =some a\/i=hs.length/\a=n:=fun{i a} hi=>by
  rcases Nat.lt_or_ge i hs.length with h'|h'
  ·rw[List.getElem?_append_left h'] at hi;exact .inl ⟨h',hi⟩
  ·have:=get_lt hi
   have:i=hs.length:=by omega
   subst this
   rw[hlast] at hi;cases hi;exact .inr ⟨rfl,rfl⟩
 have r0:∀i,i<hs.length->(if i=hs.length then B else r i)=r i:=fun i hi=>if_neg (by omega)
 have rN:(if hs.length=hs.length then B else r hs.length)=B:=if_pos rfl
 have unit:∀ {i:Nat}{a:Nd}{d:Int},(hs++[n])[i]? =some a->InP x (hs++[n]) i hs.length d->i=hs.length:=fun{i a d} hi hp=>by
  rcases hp with e|⟨a',b,ha,hb,h1,h2,h3,h4⟩
  ·exact e
  ·rw[hlast] at hb;cases hb
   rcases hn with hn|hn
   ·rw[hn] at h3;cases h3
   ·rcases old ha with ⟨g1,g2⟩|⟨g1,_⟩
    ·exact absurd h1 (hn a' (List.mem_of_getElem? g2))
    ·exact g1
 have inp:∀ {i k:Nat}{d:Int},i<hs.length->k<hs.length->InP x (hs++[n]) i k d->InP x hs i k d:=fun{i k d} hi hk hp=>by
  rcases hp with rfl|⟨a,b,ha,hb,h'⟩
  ·exact .inl rfl
  ·rw[List.getElem?_append_left hi] at ha
   rw[List.getElem?_append_left hk] at hb
   exact .inr ⟨a,b,ha,hb,h'⟩
 have dp:∀ {i k:Nat},i<hs.length->Dp (hs++[n]) i k->Dp hs i k:=fun{i k} hi hd=>by
  have:=(Dp_take (hs:=hs++[n]) (m:=hs.length) (k:=k) hi).2 hd
  rw[htk] at this;exact this
 refine⟨fun i=>if i=hs.length then B else r i,fun i j hi hj e=>?_,fun i k e=>?_,fun o a b u no na ho ha hne hab h1 h2 hau hd=>?_⟩
 ·rw[hlen] at hi hj
  rcases Nat.lt_or_ge i hs.length with hi'|hi'<;>rcases Nat.lt_or_ge j hs.length with hj'|hj'
  ·rw[r0 i hi',r0 j hj'] at e;exact h.inj i j hi' hj' e
  ·rw[r0 i hi',show j=hs.length by omega,rN] at e;have:=hB i hi';omega
  ·rw[r0 j hj',show i=hs.length by omega,rN] at e;have:=hB j hj';omega
  ·omega
 ·obtain⟨hlt,a,b,ga,gb,hd⟩:=e
  have hi:=get_lt ga
  rw[hlen] at hi
  have hk':k<hs.length:=by omega
  rw[r0 k hk']
  rcases old ga with ⟨hi',gi⟩|⟨rfl,_⟩
  ·rw[r0 i hi']
   rw[List.getElem?_append_left hk'] at gb
   exact h.keep i k ⟨hlt,a,b,gi,gb,hd⟩
  ·rw[rN];exact hB k hk'
 ·obtain⟨nb,hb,hsb⟩:=hab.saga ha
  obtain⟨nu,hu,hsu⟩:=hau.saga ha
  rcases old ho with ⟨ho',go⟩|⟨rfl,rfl⟩
  ·rw[r0 o ho'] at h1 h2
   rcases old ha with ⟨ha',ga⟩|⟨rfl,rfl⟩
   ·have hb':b<hs.length:=by
     rcases old hb with ⟨h',_⟩|⟨rfl,_⟩
     ·exact h'
     ·have:=unit ha hab;omega
    have hu':u<hs.length:=by
     rcases old hu with ⟨h',_⟩|⟨rfl,_⟩
     ·exact h'
     ·have:=unit ha hau;omega
    rw[r0 a ha'] at h1
    rw[r0 b hb'] at h2
    exact h.fair o a b u no na go ga hne (inp ha' hb' hab) h1 h2 (inp ha' hu' hau) (hd.imp (dp ho') (dp hu'))
   ·rw[rN] at h1;have:=hB o ho';omega
  ·rw[rN] at h1 h2
   rcases old hb with ⟨hb',_⟩|⟨rfl,rfl⟩
   ·rw[r0 b hb'] at h2;have:=hB b hb';omega
   ·exact hne hsb.symm
theorem TC.lt{x:CatD}{hs:List Nd}{a b:Nat}(h:TC (ArcE x hs) a b):a<hs.length/\b<hs.length:=by
 induction h with
 | one e=>exact e.lt
 | more _ e ih=>exact⟨ih.1,e.lt.2⟩
def ArE(ys:List ArcD)(a b:Nat):Prop:=∃c:Int,((a:Int),(b:Int),c)∈ys
theorem ArcsP.are{x:CatD}{hs:List Nd}{ys:List ArcD}(hM:HMay x hs)(h:ArcsP x hs ys)(a b:Nat):ArE ys a b↔ArcE x hs a b:=exists_congr fun c=>h.mem hM _
set_option maxRecDepth 100000
theorem F116_ok(t0:Sl×List Value)(w:World)(R:RV)(h:AllocP w (Obj.cells { toList:=Qy t0.fst::t0.2 } 26) fun b1 w2=>AllocP w2 (Obj.cells #[Value.slice none 0 0,Qz 0,Qz 0,Qz 0,Qz 0,Qz 0,Qz 0,Qz 0,Qz 0,Qz 0,Qz 0,Qz 0,Qz 0,Qz 0,Qz 0,Qz 0,Qz 0] 26) fun b3 w4=>∃(x5:Sl×List Value),CellsN w4 b1 0 17 (Qy x5.fst::x5.2)/\Cx 50 #[Value.agg { toList:=Qy x5.fst::x5.2 }] w4 fun v8 w9=>∃(x10:Sl×List Value),v8=Value.agg { toList:=Qy x10.fst::x10.2 }/\AllocP w9 (Obj.cells #[Value.slice none 0 0,Qz 0,Qz 0,Qz 0,Qz 0,Qz 0,Qz 0,Qz 0,Qz 0,Qz 0,Qz 0,Qz 0,Qz 0,Qz 0,Qz 0,Qz 0,Qz 0] 26) fun b11 w12=>(Array.mk (Qy x10.fst::x10.2 )).size=17/\StoreP w12 b11 0 (Qy x10.fst::x10.2) fun w13=>∃(l14:List Value),CellsN w13 b1 (0+1) 16 l14/\(Array.mk (l14 )).size=16/\StoreP w13 b11 (0+1) l14 fun w17=>∃(x18:Sl×List Value),CellsN w17 b11 0 17 (Qy x18.fst::x18.2)/\(Array.mk (Qy x18.fst::x18.2 )).size=17/\StoreP w17 b3 0 (Qy x18.fst::x18.2) fun w21=>∃(x22:Sl×List Value),CellsN w21 b3 0 17 (Qy x22.fst::x22.2)/\R (Value.agg { toList:=Qy x22.fst::x22.2 }) w21):Cw 116 #[Value.agg { toList:=Qy t0.fst::t0.2 }] w R:=
 ckF Tryz.func116 .nil h (by kernel_rfl) (by kernel_rfl)
def F119j1(R:RV)(s3:Sl)(y4:Nat->Int->World->Prop)(b6:Nat)(n7:Int)(w8:World):Prop:=IfB (decide (n7<(s3.n:Int))) (Qx s3.1 n7 (s3.2:Int) fun b11 b12=>∃(x13:Int×Int×Int×Bool×Sl×Sl),CellsAt w8 b11 (b12+n7.toNat*6) (lC53 x13)/\AllocP w8 (Obj.cells #[Qz 0,Qz 0,Qz 0,Value.bool false,Value.slice none 0 0,Value.slice none 0 0] 53) fun b14 w15=>(lC53 x13).toArray.size=6/\StoreP w15 b14 0 (lC53 x13) fun w16=>Qs w16.drew b14 (0+4) fun s17=>Qs w16.drew b14 (0+5) fun s18=>Qu' 176 #[Qy s17] w16.drew fun s21 w20=>w20.cell? ⟨b14,0+5,none⟩=some (Qy s18)/\Qu' 176 #[Qy s18] w20 fun s24 w23=>Qx s3.1 n7 (s3.2:Int) fun b25 b26=>#[Qy s21].size=1/\StoreP w23 b25 (b26+n7.toNat*6+4) [Qy s21] fun w27=>Qx s3.1 n7 (s3.2:Int) fun b28 b29=>#[Qy s24].size=1/\StoreP w27 b28 (b29+n7.toNat*6+5) [Qy s24] fun w30=>Qn y4 b6 (IntKind.i64.wrap (n7+1)) w30) (R (Qy s3) w8)
theorem F119_ok(t0:Sl)(w:World)(R:RV)(h:Cx 96 #[Qy t0] w fun v1 w2=>∃s3:Sl,v1=Qy s3/\Ql (α:=Int) 0 w2 fun y4 b6 n7 w8=>(F119j1 R s3 y4 b6 n7 w8)):Cw 119 #[Qy t0] w R:=
 ckF Tryz.func119 (nd (nd (.node (nd (.loop [(10,oi)] (rg [4,5,10,29]) (nd (nd (.node (nd (.draw (sts [0,1,2,3,4,5,7,8] (.ac 6 [8,7,3,2,1,0] (.ac 9 [3,2,1,0] (sts [10,11] (.ac 12 [3,2] (sts [13,14] (.ac 15 [] .fin .non)) .non)) .non) .non)))) .nil))))) .nil))) h (by kernel_rfl) (by kernel_rfl)
def F174j3(t0:Int)(b1:Nat)(y29:Nat->Int->World->Prop)(b31:Nat)(n32:Int)(y36:Nat->Int->World->Prop)(b38:Nat)(n39:Int)(w40:World):Prop:=IfB (decide (n39<(t0.toNat:Int))) (Qx (some ⟨b1,0,none⟩) n39 (t0.toNat:Int) fun b43 b44=>∃(x45:Int×Int),CellsAt w40 b43 (b44+n39.toNat*2) [Value.int IntKind.u64 x45.1,Value.int IntKind.u64 x45.2]/\AllocP w40 (Obj.cells #[Value.int IntKind.u64 0,Value.int IntKind.u64 0] 147) fun b46 w47=>#[Value.int IntKind.u64 x45.1,Value.int IntKind.u64 x45.2].size=2/\StoreP w47 b46 0 [Value.int IntKind.u64 x45.1,Value.int IntKind.u64 x45.2] fun w48=>∃(x49:Int×Int),CellsAt w48 b46 0 [Value.int IntKind.u64 x49.1,Value.int IntKind.u64 x49.2]/\Qv' 129 #[Value.agg #[Value.int IntKind.u64 x49.1,Value.int IntKind.u64 x49.2],Qz n32] w48 fun t52 w51=>IfB t52 (∃(x53:Int×Int),CellsAt w51.drew b46 0 [Value.int IntKind.u64 x53.1,Value.int IntKind.u64 x53.2]/\Qx (some ⟨b1,0,none⟩) n32 (t0.toNat:Int) fun b54 b55=>∃(x56:Int×Int),CellsAt w51.drew b54 (b55+n32.toNat*2) [Value.int IntKind.u64 x56.1,Value.int IntKind.u64 x56.2]/\Cx 221 #[Value.agg #[Value.int IntKind.u64 x53.1,Value.int IntKind.u64 x53.2],Value.agg #[Value.int IntKind.u64 x56.1,Value.int IntKind.u64 x56.2]] w51.drew fun v57 w58=>∃(x59:Int×Int),v57=Value.agg #[Value.int IntKind.u64 x59.1,Value.int IntKind.u64 x59.2]/\Qx (some ⟨b1,0,none⟩) n39 (t0.toNat:Int) fun b60 b61=>#[Value.int IntKind.u64 x59.1,Value.int IntKind.u64 x59.2].size=2/\StoreP w58 b60 (b61+n39.toNat*2) [Value.int IntKind.u64 x59.1,Value.int IntKind.u64 x59.2] fun w62=>Qn y36 b38 (IntKind.i64.wrap (n39+1)) w62) (Qn y36 b38 (IntKind.i64.wrap (n39+1)) w51)) (Qn y29 b31 (IntKind.i64.wrap (n32+1)) w40)
def F174j1(t0:Int)(t1:Sl)(R:RV)(b1:Nat)(y3:Nat->Int->World->Prop)(b5:Nat)(n6:Int)(w7:World):Prop:=IfB (decide (n6<(t1.n:Int))) (Qx t1.1 n6 (t1.2:Int) fun b10 b11=>∃(x12:Int×Int×Int),CellsAt w7 b10 (b11+n6.toNat*3) (lC44 x12)/\AllocP w7 (Obj.cells #[Qz 0,Qz 0,Qz 0] 44) fun b13 w14=>(lC44 x12).toArray.size=3/\StoreP w14 b13 0 (lC44 x12) fun w15=>Qi w15.drew b13 (0+0) fun n16=>Qi w15.drew b13 (0+0) fun n17=>Qx (some ⟨b1,0,none⟩) n17 (t0.toNat:Int) fun b18 b19=>∃(x20:Int×Int),CellsAt w15.drew b18 (b19+n17.toNat*2) [Value.int IntKind.u64 x20.1,Value.int IntKind.u64 x20.2]/\Qi w15.drew b13 (0+1) fun n21=>Cx 220 #[Value.agg #[Value.int IntKind.u64 x20.1,Value.int IntKind.u64 x20.2],Qz n21] w15.drew fun v22 w23=>∃(x24:Int×Int),v22=Value.agg #[Value.int IntKind.u64 x24.1,Value.int IntKind.u64 x24.2]/\w23.cell? ⟨b13,0+0,none⟩=some (Qz n16)/\Qx (some ⟨b1,0,none⟩) n16 (t0.toNat:Int) fun b25 b26=>#[Value.int IntKind.u64 x24.1,Value.int IntKind.u64 x24.2].size=2/\StoreP w23 b25 (b26+n16.toNat*2) [Value.int IntKind.u64 x24.1,Value.int IntKind.u64 x24.2] fun w27=>Qn y3 b5 (IntKind.i64.wrap (n6+1)) w27) (Ql (α:=Int) 0 w7 fun y29 b31 n32 w33=>IfB (decide (n32<t0)) (Ql (α:=Int) 0 w33 fun y36 b38 n39 w40=>(F174j3 t0 b1 y29 b31 n32 y36 b38 n39 w40)) (R (Value.slice (some ⟨b1,0,none⟩) t0.toNat t0.toNat) w33))
theorem F174_ok(t0:Int)(t1:Sl)(w:World)(R:RV)(h:(0<=t0/\t0<=t0/\t0<=281474976710656/\((16:Nat):Int)*t0<=281474976710656)/\AllocP w (Obj.cells { toList:=zc #[Value.int IntKind.u64 0,Value.int IntKind.u64 0] t0.toNat } 147) fun b1 w2=>Ql (α:=Int) 0 w2 fun y3 b5 n6 w7=>(F174j1 t0 t1 R b1 y3 b5 n6 w7)):Cw 174 #[Qz t0,Qy t1] w R:=
 ckF Tryz.func174 (nd (nd (.node (nd (.loop [(15,oi)] (rg [7,7,15,31]) (nd (nd (.node (nd (.draw (sts [0,1,2,3,4,5,6,7,8,9] (.ac 10 [2,1,0] (.st 11 (.ac 12 [] .fin .non)) .non)))) .nil))))) (.node (nd (.loop [(33,oi)] (rg [8,10,33,56]) (nd (nd (.node (nd (nd (.loop [(38,oi)] (rg [9,10,38,55]) (nd (nd (.node (nd (nd (.node (.draw (sts [0,1,2,3,4,5,6] (.ac 7 [1,0] (.st 8 (.ac 9 [] .fin .non)) .non))) .nil))) .nil)))))) .nil))))) .nil)))) h (by kernel_rfl) (by kernel_rfl)
def F175j1(t0:Sl)(R:RV)(y1:Nat->Int->World->Prop)(b3:Nat)(n4:Int)(w5:World):Prop:=IfB (decide (n4<(t0.n:Int))) (Qx t0.1 n4 (t0.2:Int) fun b8 b9=>∃(x10:Int×Int),CellsAt w5 b8 (b9+n4.toNat*2) [Value.int IntKind.u64 x10.1,Value.int IntKind.u64 x10.2]/\AllocP w5 (Obj.cells #[Value.int IntKind.u64 0,Value.int IntKind.u64 0] 147) fun b11 w12=>#[Value.int IntKind.u64 x10.1,Value.int IntKind.u64 x10.2].size=2/\StoreP w12 b11 0 [Value.int IntKind.u64 x10.1,Value.int IntKind.u64 x10.2] fun w13=>∃(x14:Int×Int),CellsAt w13 b11 0 [Value.int IntKind.u64 x14.1,Value.int IntKind.u64 x14.2]/\Qv' 129 #[Value.agg #[Value.int IntKind.u64 x14.1,Value.int IntKind.u64 x14.2],Qz n4] w13 fun t17 w16=>IfB t17 (R (Value.bool false) w16) (Qn y1 b3 (IntKind.i64.wrap (n4+1)) w16)) (R (Value.bool true) w5)
theorem F175_ok(t0:Sl)(w:World)(R:RV)(h:Ql (α:=Int) 0 w fun y1 b3 n4 w5=>(F175j1 t0 R y1 b3 n4 w5)):Cw 175 #[Qy t0] w R:=
 ckF Tryz.func175 (nd (.node (nd (.loop [(7,oi)] (rg [2,4,7,15]) .nil)) .nil)) h (by kernel_rfl) (by kernel_rfl)
theorem F129_ok(t0:Int×Int)(t1:Int)(w:World)(R:RV)(h:AllocP w (Obj.cells #[Value.int IntKind.u64 t0.1,Value.int IntKind.u64 t0.2] 147) fun b1 w2=>¬(64:Int)=0/\(0<=IntKind.i64.wrap (t1.tdiv 64)/\IntKind.i64.wrap (t1.tdiv 64)<((2:Nat):Int))/\∃n3:Int,w2.cell? ⟨b1,0+(IntKind.i64.wrap (t1.tdiv 64)).toNat,none⟩=some (Value.int IntKind.u64 n3)/\¬(64:Int)=0/\0<=t1.tmod 64/\R (Value.bool (bitsI BinOp.and IntKind.u64 (n3.fdiv (2^min (t1.tmod 64).toNat IntKind.u64.bits)) (1:Int) == 1)) w2):Cw 129 #[Value.agg #[Value.int IntKind.u64 t0.1,Value.int IntKind.u64 t0.2],Qz t1] w R:=
 ckF Tryz.func129 .nil h (by kernel_rfl) (by kernel_rfl)
theorem F220_ok(t0:Int×Int)(t1:Int)(w:World)(R:RV)(h:AllocP w (Obj.cells #[Value.int IntKind.u64 t0.1,Value.int IntKind.u64 t0.2] 147) fun b1 w2=>AllocP w2 (Obj.cells #[Value.int IntKind.u64 0,Value.int IntKind.u64 0] 147) fun b3 w4=>¬(64:Int)=0/\(0<=IntKind.i64.wrap (t1.tdiv 64)/\IntKind.i64.wrap (t1.tdiv 64)<((2:Nat):Int))/\∃n5:Int,w4.drew.cell? ⟨b1,0+(IntKind.i64.wrap (t1.tdiv 64)).toNat,none⟩=some (Value.int IntKind.u64 n5)/\¬(64:Int)=0/\0<=t1.tmod 64/\(0<=IntKind.i64.wrap (t1.tdiv 64)/\IntKind.i64.wrap (t1.tdiv 64)<((2:Nat):Int))/\#[Value.int IntKind.u64 (bitsI BinOp.or IntKind.u64 n5 (IntKind.u64.wrap (1*2^min (t1.tmod 64).toNat IntKind.u64.bits)))].size=1/\StoreP w4.drew b1 (0+(IntKind.i64.wrap (t1.tdiv 64)).toNat) [Value.int IntKind.u64 (bitsI BinOp.or IntKind.u64 n5 (IntKind.u64.wrap (1*2^min (t1.tmod 64).toNat IntKind.u64.bits)))] fun w6=>∃(x7:Int×Int),CellsAt w6 b1 0 [Value.int IntKind.u64 x7.1,Value.int IntKind.u64 x7.2]/\#[Value.int IntKind.u64 x7.1,Value.int IntKind.u64 x7.2].size=2/\StoreP w6 b3 0 [Value.int IntKind.u64 x7.1,Value.int IntKind.u64 x7.2] fun w8=>∃(x9:Int×Int),CellsAt w8 b3 0 [Value.int IntKind.u64 x9.1,Value.int IntKind.u64 x9.2]/\R (Value.agg #[Value.int IntKind.u64 x9.1,Value.int IntKind.u64 x9.2]) w8):Cw 220 #[Value.agg #[Value.int IntKind.u64 t0.1,Value.int IntKind.u64 t0.2],Qz t1] w R:=
 ckF Tryz.func220 (nd (.node (.draw (sts [0,1,2,3,4,5,6,7,8] (.ac 9 [] .fin .non))) .nil)) h (by kernel_rfl) (by kernel_rfl)
theorem F221_ok(t0:Int×Int)(t1:Int×Int)(w:World)(R:RV)(h:AllocP w (Obj.cells #[Value.int IntKind.u64 t0.1,Value.int IntKind.u64 t0.2] 147) fun b1 w2=>AllocP w2 (Obj.cells #[Value.int IntKind.u64 t1.1,Value.int IntKind.u64 t1.2] 147) fun b3 w4=>AllocP w4 (Obj.cells #[Value.int IntKind.u64 0,Value.int IntKind.u64 0] 147) fun b5 w6=>((0:Int)<=0/\0<((2:Nat):Int))/\∃n7:Int,w6.cell? ⟨b1,0+Int.toNat 0,none⟩=some (Value.int IntKind.u64 n7)/\((0:Int)<=0/\0<((2:Nat):Int))/\∃n8:Int,w6.cell? ⟨b3,0+Int.toNat 0,none⟩=some (Value.int IntKind.u64 n8)/\((0:Int)<=1/\1<((2:Nat):Int))/\∃n9:Int,w6.cell? ⟨b1,0+Int.toNat 1,none⟩=some (Value.int IntKind.u64 n9)/\((0:Int)<=1/\1<((2:Nat):Int))/\∃n10:Int,w6.cell? ⟨b3,0+Int.toNat 1,none⟩=some (Value.int IntKind.u64 n10)/\#[Value.int IntKind.u64 (bitsI BinOp.or IntKind.u64 n7 n8),Value.int IntKind.u64 (bitsI BinOp.or IntKind.u64 n9 n10)].size=2/\StoreP w6 b5 0 [Value.int IntKind.u64 (bitsI BinOp.or IntKind.u64 n7 n8),Value.int IntKind.u64 (bitsI BinOp.or IntKind.u64 n9 n10)] fun w11=>∃(x12:Int×Int),CellsAt w11 b5 0 [Value.int IntKind.u64 x12.1,Value.int IntKind.u64 x12.2]/\R (Value.agg #[Value.int IntKind.u64 x12.1,Value.int IntKind.u64 x12.2]) w11):Cw 221 #[Value.agg #[Value.int IntKind.u64 t0.1,Value.int IntKind.u64 t0.2],Value.agg #[Value.int IntKind.u64 t1.1,Value.int IntKind.u64 t1.2]] w R:=
 ckF Tryz.func221 .nil h (by kernel_rfl) (by kernel_rfl)
def F117k1(t0:Option Addr)(w21:World)(s13:Sl)(R:RV):Prop:=∃b23:Nat,∃b24:Nat,t0=some ⟨b23,b24,none⟩/\∃(x25:Sl×List Value),CellsN w21 b23 (b24+0) 17 (Qy x25.fst::x25.2)/\Qu' 30 #[Value.agg { toList:=Qy x25.fst::x25.2 },Qy s13] w21 fun s30 w29=>Qu' 174 #[Qz (s13.2:Int),Qy s30] w29 fun s33 w32=>Qv' 175 #[Qy s33] w32 fun t36 w35=>IfB (!t36) (R (Value.tuple #[Value.slice none 0 0,Qz 11]) w35) (R (Value.tuple #[Qy s33,Qz 0]) w35)
def F117k2(t0:Option Addr)(w2:World)(b1:Nat)(R:RV):Prop:=∃b3:Nat,∃b4:Nat,t0=some ⟨b3,b4,none⟩/\Qs w2.drew b3 (b4+17) fun s5=>∃(x6:Int×Int×Int×Bool×Sl×Sl),CellsAt w2.drew b1 0 (lC53 x6)/\(Qu' 96 #[Qy s5] w2.drew fun s9 w8=>CellsAt w8 b1 0 (lC53 x6)/\1*6<=16777216/\AllocP w8 (Obj.cells (lC53 x6).toArray 53) fun b10 w11=>∃(l12:List Value),ReadC w11 (some ⟨b10,0,none⟩) (1*6) l12/\AppendP tt53 53 w11 s9.1 s9.2 s9.3 1 l12 fun s13 w14=>∃b15:Nat,∃b16:Nat,t0=some ⟨b15,b16,none⟩/\∃(x17:Sl×List Value),CellsN w14 b15 (b16+0) 17 (Qy x17.fst::x17.2)/\Qv' 84 #[Value.agg { toList:=Qy x17.fst::x17.2 },Qy s13] w14 fun t22 w21=>IfB (!t22) (R (Value.tuple #[Value.slice none 0 0,Qz 1]) w21) (F117k1 t0 w21 s13 R))/\1*6<=16777216/\AllocP w2.drew (Obj.cells (lC53 x6).toArray 53) fun b37 w38=>w38.cell? ⟨b3,b4+17,none⟩=some (Qy s5)/\Qu' 96 #[Qy s5] w38 fun s41 w40=>∃(l42:List Value),ReadC w40 (some ⟨b37,0,none⟩) (1*6) l42/\AppendP tt53 53 w40 s41.1 s41.2 s41.3 1 l42 fun s43 w44=>∃b45:Nat,∃b46:Nat,t0=some ⟨b45,b46,none⟩/\∃(x47:Sl×List Value),CellsN w44 b45 (b46+0) 17 (Qy x47.fst::x47.2)/\Qv' 84 #[Value.agg { toList:=Qy x47.fst::x47.2 },Qy s43] w44 fun t52 w51=>IfB (!t52) (R (Value.tuple #[Value.slice none 0 0,Qz 1]) w51) (F117k1 t0 w51 s43 R)
theorem F117_ok(t0:Option Addr)(t1:Int×Int×Int×Bool×Sl×Sl)(w:World)(R:RV)(h:AllocP w (Obj.cells (lC53 t1).toArray 53) fun b1 w2=>IfB t0.isNone (R (Value.tuple #[Value.slice none 0 0,Qz 1]) w2) (F117k2 t0 w2 b1 R)):Cw 117 #[Value.pointer t0,(.agg (lC53 t1).toArray)] w R:=
 ckF Tryz.func117 (nd (nd (.node (.draw (sts [0,1,2,3,5] (.ac 4 [5] (.ac 6 [] (.ac 7 [] (.st 8 .fin) .non) .non) (.ac 6 [3,2,1,0] (.ac 4 [] (.ac 7 [] (.st 8 .fin) .non) .non) .non)))) .nil))) h (by kernel_rfl) (by kernel_rfl)
theorem F55_ok(t0:Option Addr)(t1:Int×Int×Int×Bool×Sl×Sl)(w:World)(R:RV)(h:AllocP w (Obj.cells (lC53 t1).toArray 53) fun b1 w2=>∃(x3:Int×Int×Int×Bool×Sl×Sl),CellsAt w2 b1 0 (lC53 x3)/\Cx 117 #[Value.pointer t0,Value.agg (lC53 x3).toArray] w2 fun v4 w5=>∃(x6:Sl×Int),v4=Value.tuple #[Qy x6.fst,Qz x6.2]/\R (Qz x6.2) w5):Cw 55 #[Value.pointer t0,(.agg (lC53 t1).toArray)] w R:=
 ckF Tryz.func55 .nil h (by kernel_rfl) (by kernel_rfl)
def F56k1(t0:Option Addr)(w5:World)(b1:Nat)(x6:Sl×Int)(R:RV):Prop:=∃b7:Nat,∃b8:Nat,t0=some ⟨b7,b8,none⟩/\Qs w5.drew b7 (b8+18) fun s9=>∃b10:Nat,∃b11:Nat,t0=some ⟨b10,b11,none⟩/\Qs w5.drew b10 (b11+17) fun s12=>∃(x13:Int×Int×Int×Bool×Sl×Sl),CellsAt w5.drew b1 0 (lC53 x13)/\Qu' 118 #[Qy s9,Qy s12,Value.agg (lC53 x13).toArray] w5.drew fun s16 w15=>∃b17:Nat,∃b18:Nat,t0=some ⟨b17,b18,none⟩/\#[Qy s16].size=1/\StoreP w15 b17 (b18+18) [Qy s16] fun w19=>∃b20:Nat,∃b21:Nat,t0=some ⟨b20,b21,none⟩/\Qs w19.drew b20 (b21+17) fun s22=>∃(x23:Int×Int×Int×Bool×Sl×Sl),CellsAt w19.drew b1 0 (lC53 x23)/\1*6<=16777216/\AllocP w19.drew (Obj.cells (lC53 x23).toArray 53) fun b24 w25=>w25.cell? ⟨b20,b21+17,none⟩=some (Qy s22)/\Qu' 119 #[Value.slice (some ⟨b24,0,none⟩) 1 1] w25 fun s28 w27=>w27.cell? ⟨b20,b21+17,none⟩=some (Qy s22)/\∃(l29:List Value),ReadC w27 s28.1 (s28.2*6) l29/\AppendP tt53 53 w27 s22.1 s22.2 s22.3 s28.2 l29 fun s30 w31=>∃b32:Nat,∃b33:Nat,t0=some ⟨b32,b33,none⟩/\#[Qy s30].size=1/\StoreP w31 b32 (b33+17) [Qy s30] fun w34=>∃b35:Nat,∃b36:Nat,t0=some ⟨b35,b36,none⟩/\#[Qy x6.fst].size=1/\StoreP w34 b35 (b36+19) [Qy x6.fst] fun w37=>R (Qz 0) w37
theorem F56_ok(t0:Option Addr)(t1:Int×Int×Int×Bool×Sl×Sl)(w:World)(R:RV)(h:AllocP w (Obj.cells (lC53 t1).toArray 53) fun b1 w2=>∃(x3:Int×Int×Int×Bool×Sl×Sl),CellsAt w2 b1 0 (lC53 x3)/\Cx 117 #[Value.pointer t0,Value.agg (lC53 x3).toArray] w2 fun v4 w5=>∃(x6:Sl×Int),v4=Value.tuple #[Qy x6.fst,Qz x6.2]/\IfB (x6.2 != 0) (R (Qz x6.2) w5) (F56k1 t0 w5 b1 x6 R)):Cw 56 #[Value.pointer t0,(.agg (lC53 t1).toArray)] w R:=
 ckF Tryz.func56 (nd (nd (nd (.node (.draw (sts [0,1,2,3,4,5,6,7,8,9] (.ac 10 [0] (sts [11,12] (.ac 13 [] .fin .non)) .non))) (.node (.draw (sts [0,1,2,3,4,5,6,10] (.ac 7 [10,5,4,3,2,1,0] (.ac 8 [10,5,4,3,2,1,0] (.ac 9 [10,1,0] (sts [11,12] (.ac 13 [10,1] (sts [14,15] (.ac 16 [] .fin .non)) .non)) .non) .non) .non))) .nil))))) h (by kernel_rfl) (by kernel_rfl)
theorem F65_ok(t0:Option Addr)(w:World)(R:RV)(h:IfB t0.isNone (R (Value.slice none 0 0) w) (∃b1:Nat,∃b2:Nat,t0=some ⟨b1,b2,none⟩/\∃s3:Sl,w.cell? ⟨b1,b2+17,none⟩=some (Qy s3)/\Cx 119 #[Qy s3] w fun v4 w5=>∃s6:Sl,v4=Qy s6/\R (Qy s6) w5)):Cw 65 #[Value.pointer t0] w R:=
 ckF Tryz.func65 .nil h (by kernel_rfl) (by kernel_rfl)
def F120(t0:Sl)(w:World)(R:RV):Prop:=IfB t0.1.isNone (R (Value.slice none 0 0) w) (0*1<=16777216/\AllocP w (Obj.cells #[] 30) fun b1 w2=>∃(l3:List Value),ReadC w2 t0.1 (t0.2*1) l3/\AppendP tt30 30 w2 (some ⟨b1,0,none⟩) 0 0 t0.2 l3 fun s4 w5=>R (Qy s4) w5)
theorem F120_ok(t0:Sl)(w:World)(R:RV)(h:F120 t0 w R):Cw 120 #[Qy t0] w R:=
 ckF Tryz.func120 .nil h (by kernel_rfl) (by kernel_rfl)
def F121(t0:Sl)(w:World)(R:RV):Prop:=IfB t0.1.isNone (R (Value.slice none 0 0) w) (0*2<=16777216/\AllocP w (Obj.cells #[] 147) fun b1 w2=>∃(l3:List Value),ReadC w2 t0.1 (t0.2*2) l3/\AppendP tt147 147 w2 (some ⟨b1,0,none⟩) 0 0 t0.2 l3 fun s4 w5=>R (Qy s4) w5)
theorem F121_ok(t0:Sl)(w:World)(R:RV)(h:F121 t0 w R):Cw 121 #[Qy t0] w R:=
 ckF Tryz.func121 .nil h (by kernel_rfl) (by kernel_rfl)
def F176(t0:Sl)(w:World)(R:RV):Prop:=IfB t0.1.isNone (R (Value.slice none 0 0) w) (0*2<=16777216/\AllocP w (Obj.cells #[] 101) fun b1 w2=>∃(l3:List Value),ReadC w2 t0.1 (t0.2*2) l3/\AppendP tt101 101 w2 (some ⟨b1,0,none⟩) 0 0 t0.2 l3 fun s4 w5=>R (Qy s4) w5)
theorem F176_ok(t0:Sl)(w:World)(R:RV)(h:F176 t0 w R):Cw 176 #[Qy t0] w R:=
 ckF Tryz.func176 .nil h (by kernel_rfl) (by kernel_rfl)
theorem bvU{a:Nat}(ha:a<2^64):(BitVec.ofInt 64 (a:Int)).toNat=a:=by
 rw[BitVec.toNat_ofInt]
 have h64:((2^64:Nat):Int)=18446744073709551616:=rfl
 rw[Int.emod_eq_of_lt (by omega) (by omega),Int.toNat_natCast]
theorem andU{a b:Nat}(ha:a<2^64)(hb:b<2^64):bitsI .and .u64 (a:Int) (b:Int)=((a &&& b:Nat):Int):=by
 show IntKind.u64.wrap (((BitVec.ofInt 64 (a:Int) &&& BitVec.ofInt 64 (b:Int)).toNat:Nat):Int)=_
 rw[BitVec.toNat_and,bvU ha,bvU hb]
 exact wu64 (Nat.and_lt_two_pow _ hb)
theorem orU{a b:Nat}(ha:a<2^64)(hb:b<2^64):bitsI .or .u64 (a:Int) (b:Int)=((a ||| b:Nat):Int):=by
 show IntKind.u64.wrap (((BitVec.ofInt 64 (a:Int) ||| BitVec.ofInt 64 (b:Int)).toNat:Nat):Int)=_
 rw[BitVec.toNat_or,bvU ha,bvU hb]
 exact wu64 (Nat.or_lt_two_pow ha hb)
theorem fdivU(a i:Nat):Int.fdiv (a:Int) (2^i)=((a/2^i:Nat):Int):=by
 rw[Int.fdiv_eq_ediv_of_nonneg _ (by have:=(pow_range (Nat.le_refl i)).1;omega),Int.natCast_ediv,Int.natCast_pow];rfl
theorem powU(i:Nat):(1:Int)*2^i=((2^i:Nat):Int):=by rw[Int.one_mul,Int.natCast_pow];rfl
theorem word{i:Nat}(hi:i<64):IntKind.i64.wrap ((i:Int).tdiv 64)=0/\(i:Int).tmod 64=(i:Int):=by
 have h1:(i:Int).tdiv 64=0:=by
  show ((i/64:Nat):Int)=0
  rw[Nat.div_eq_of_lt hi];rfl
 have h2:(i:Int).tmod 64=(i:Int):=by
  show ((i%64:Nat):Int)=(i:Int)
  rw[Nat.mod_eq_of_lt hi]
 exact⟨by rw[h1];decide,h2⟩
abbrev setC(m:Nat):List Value:=[.int .u64 (m:Int),.int .u64 0]
abbrev setP(m:Nat):Int×Int:=((m:Int),0)
theorem setC_len(m:Nat):(setC m).length=2:=rfl
theorem setC_one(m:Nat):One (setC m):=by intro v hv;simp at hv;rcases hv with rfl|rfl<;>rfl
theorem boxTwo{w w':World}{b:Nat}{x y:Value}{T:TypeId}(h:w.heap[b]? =some (.cells #[x,y] T (0,0)))(e:Ext w w'):CellsAt w' b 0 [x,y]:=boxAll (cs:=[x,y]) h e
theorem c129{m i:Nat}(hm:m<2^64)(hi:i<64)(w:World):Cw 129 #[.agg #[.int .u64 (m:Int),.int .u64 0],iv (i:Int)] w fun v w'=>v=.bool (m.testBit i)/\Ext w w':=by
 obtain⟨hw,hr⟩:=word hi
 refine F129_ok (setP m) (i:Int) w _ fun b1 w2 a2=>?_
 rw[hw,hr]
 refine⟨by decide,⟨by decide,by decide⟩,(m:Int),boxAt (cs:=setC m) a2.new 0 (Ch.refl _ _),by decide,by omega,?_,a2.ch _⟩
 congr 1
 rw[Int.toNat_natCast,Nat.min_eq_left (by show i<=64;omega),fdivU]
 have hd:m/2^i<2^64:=Nat.lt_of_le_of_lt (Nat.div_le_self _ _) hm
 have:=andU hd (show 1<2^64 by decide)
 rw[show ((1:Nat):Int)=1 from rfl] at this
 rw[this,Nat.and_one_is_mod,Nat.testBit_eq_decide_div_mod_eq,Bool.eq_iff_iff,beq_iff_eq,decide_eq_true_eq]
 omega
theorem c220{m i:Nat}(hm:m<2^64)(hi:i<64)(w:World):Cw 220 #[.agg #[.int .u64 (m:Int),.int .u64 0],iv (i:Int)] w fun v w'=>v=.agg #[.int .u64 ((m ||| 2^i:Nat):Int),.int .u64 0]/\Ext w w':=by
 obtain⟨hw,hr⟩:=word hi
 refine F220_ok (setP m) (i:Int) w _ fun b1 w2 a2 b3 w4 a4=>?_
 have e2:Ext w w2:=a2.ch _
 have e4:Ext w2 w4:=a4.ch _
 have ed:=extDrew w4
 have p2:=a2.here;have p4:=a4.here;have z2:=a2.size;have z4:=a4.size
 rw[hw,hr]
 refine⟨by decide,⟨by decide,by decide⟩,(m:Int),boxAt (cs:=setC m) a2.new 0 (e4.trans ed),by decide,by omega,⟨by decide,by decide⟩,rfl,?_⟩
 have h2:2^i<2^64:=Nat.pow_lt_pow_right (by decide) hi
 rw[Int.toNat_natCast,Nat.min_eq_left (by show i<=64;omega),powU,wu64 h2,orU hm h2]
 refine storeC (Ext.at (e4.trans ed) a2.new) (by simp) (by simp) (by intro y hy;rw[List.mem_singleton.1 hy];rfl) fun w6 h6 c6=>?_
 have H6:w6.heap[b1]? =some (.cells #[.int .u64 ((m ||| 2^i:Nat):Int),.int .u64 0] 147 (0,0)):=h6
 refine⟨setP (m ||| 2^i),boxTwo H6 (Ch.refl _ _),rfl,store_all (vs:=setC (m ||| 2^i)) (c6.at (ed.at a4.new) (by omega)) rfl (setC_one _) fun w8 u8=>⟨setP (m ||| 2^i),boxAll (cs:=setC (m ||| 2^i)) u8.new (Ch.refl _ _),rfl,?_⟩⟩
 have z6:=c6.size
 exact(((e2.trans e4).trans ed).chN c6 fun j e=>by omega).chN u8.ch fun j e=>by omega
theorem c221{m k:Nat}(hm:m<2^64)(hk:k<2^64)(w:World):Cw 221 #[.agg #[.int .u64 (m:Int),.int .u64 0],.agg #[.int .u64 (k:Int),.int .u64 0]] w fun v w'=>v=.agg #[.int .u64 ((m ||| k:Nat):Int),.int .u64 0]/\Ext w w':=by
 refine F221_ok (setP m) (setP k) w _ fun b1 w2 a2 b3 w4 a4 b5 w6 a6=>?_
 have e2:Ext w w2:=a2.ch _
 have e4:Ext w2 w4:=a4.ch _
 have e6:Ext w4 w6:=a6.ch _
 have E6:=(e2.trans e4).trans e6
 have q1:=fun(j:Nat)=>boxAt (cs:=setC m) a2.new j (e4.trans e6)
 have q3:=fun(j:Nat)=>boxAt (cs:=setC k) a4.new j e6
 have p6:=a6.here;have z6:=a6.size;have z:=(e2.trans e4).size
 refine⟨⟨by decide,by decide⟩,_,q1 0,⟨by decide,by decide⟩,_,q3 0,⟨by decide,by decide⟩,_,q1 1,⟨by decide,by decide⟩,_,q3 1,rfl,?_⟩
 have h0:bitsI .or .u64 0 0=0:=by
  have:=orU (a:=0) (b:=0) (by decide) (by decide)
  exact this
 rw[orU hm hk,h0]
 exact store_all (vs:=setC (m ||| k)) a6.new rfl (setC_one _) fun w11 u11=>⟨setP (m ||| k),boxAll (cs:=setC (m ||| k)) u11.new (Ch.refl _ _),rfl,E6.chN u11.ch fun j e=>by omega⟩
theorem c175{w:World}{t:Sl}{ms:List Nat}(h:Rd w t 2 (ms.flatMap setC))(hl:ms.length<=60)(hm:∀m∈ms,m<2^64):
  Cw 175 #[slV t] w fun v w'=>∃b,v=.bool b/\(b=true↔∀(i:Nat) m,ms[i]? =some m->m.testBit i=false)/\Ext w w':=by
 have hn:=rdN setC_len (by omega) h
 refine F175_ok t w _ ⟨fun k z W=>∃i:Nat,i<=ms.length/\k+i=ms.length/\z=(i:Int)/\(∀(j:Nat) m,j<i->ms[j]? =some m->m.testBit j=false)/\Ext w W,⟨ms.length,0,Nat.zero_le _,rfl,rfl,fun j m hj=>absurd hj (Nat.not_lt_zero _),Ch.refl _ _⟩,?_⟩
 rintro k _ W g ⟨i,hi,hki,rfl,hlow,eW⟩
 unfold F175j1
 refine IfB.dec (fun hlt=>?_) fun hge=>⟨true,rfl,⟨fun _ j m hj=>hlow j m (by have:=(List.getElem?_eq_some_iff.1 hj).1;omega) hj,fun _=>rfl⟩,eW⟩
 have hi':i<ms.length:=by omega
 have hx:ms[i]? =some ms[i]:=List.getElem?_eq_getElem hi'
 have hxm:=hm _ (List.getElem_mem hi')
 generalize ms[i]=m at hx hxm
 obtain⟨b,o,hp,hc⟩:=(h.ext eW).elem (i:=i) (by omega) (by omega) (flatGet setC_len hx)
 refine⟨b,o,hp,⟨by omega,hlt⟩,setP m,by rw[Int.toNat_natCast];exact hc,fun b11 w12 a12=>⟨rfl,store_all (vs:=setC m) a12.new rfl (setC_one m) fun w13 u13=>?_⟩⟩
 have e13:Ext W w13:=Ext.fresh a12 u13
 refine⟨setP m,boxAll (cs:=setC m) u13.new (Ch.refl _ _),(c129 hxm (by omega) w13).use ?_⟩
 rintro _ w16 ⟨rfl,e16⟩
 have E16:=(eW.trans e13).trans e16
 refine⟨_,rfl,IfB.intro (fun h1=>⟨false,rfl,⟨fun h=>(by cases h),fun h=>?_⟩,E16⟩) fun h1=>⟨(by trivial),k-1,by omega,i+1,hi',by omega,by rw[wrap_of (by omega) (by omega)];rfl,fun j m' hj hm'=>?_,E16⟩⟩
 ·rw[h i m hx] at h1;cases h1
 ·rcases Nat.lt_or_ge j i with h'|h'
  ·exact hlow j m' h' hm'
  ·have:j=i:=by omega
   subst this
   rw[hx] at hm';cases hm';exact h1
theorem setQ0(n:Nat):zc #[.int .u64 0,.int .u64 0] n=(List.replicate n 0).flatMap setC:=by
 rw[zc_all (v:=.int .u64 0) (by intro x hx;simpa using hx)]
 induction n with
 | zero=>rfl
 | succ n ih=>
  rw[List.replicate_succ,List.flatMap_cons,<-ih]
  show List.replicate ((n+1)*2) _=[_,_]++List.replicate (n*2) _
  rw[show (n+1)*2=n*2+1+1 by omega,List.replicate_succ,List.replicate_succ];rfl
theorem c174{w:World}{t:Sl}{arcs:List ArcD}{n:Nat}(hR:Rd w t 3 (arcs.flatMap aC))(hl:arcs.length<=1000000)(hn:n<=60)(hft:∀e∈arcs,∃a b:Nat,e.1=(a:Int)/\e.2.1=(b:Int)/\a<n/\b<n):
  Cw 174 #[iv (n:Int),slV t] w fun v w'=>∃(s:Sl)(ms:List Nat),v=slV s/\OwS w' s 2 (ms.flatMap setC)/\ms.length=n/\(∀m∈ms,m<2^64)/\(∀(i j:Nat) m,ms[i]? =some m->(m.testBit j=true↔TC (ArE arcs) i j))/\Ext w w'/\∀j∈blk s,w.heap.size<=j:=by
 have htn:=rdN aC_len (by omega) hR
 refine F174_ok (n:Int) t w _ ⟨⟨by omega,by omega,by omega,by omega⟩,fun b1 w2 a2=>?_⟩
 rw[Int.toNat_natCast,setQ0] at a2
 have e2:Ext w w2:=a2.ch _
 have p2:=a2.here;have z2:=a2.size
 have hb1:∀ {W:World},Ext w2 W->b1<W.heap.size:=fun e=>by have:=e.size;omega
 have ho0:OwS w2 ⟨some ⟨b1,0,none⟩,n,n⟩ 2 ((List.replicate n 0).flatMap setC):=OwS.new a2 (by rw[flatLen setC_len,List.length_replicate])
 have set:∀ {W:World}{ms:List Nat}{i k:Nat}{K:World->Prop},OwS W ⟨some ⟨b1,0,none⟩,n,n⟩ 2 (ms.flatMap setC)->ms.length=n->i<n->(∀w',OwS w' ⟨some ⟨b1,0,none⟩,n,n⟩ 2 ((ms.set i k).flatMap setC)->Ch (fun j=>j=b1) W w'->K w')->StoreP W b1 (i*2) (setC k) K:=fun ho hml hi hK=>by
  refine ho.store rfl (by rw[setC_len];show _<=n*2;omega) (setC_one _) fun w' ho' hC'=>hK w' ?_ hC'
  rw[setC_len,flatSet setC_len (by omega)] at ho'
  exact ho'
 have bits:∀ {ms:List Nat}{i k:Nat},(∀m∈ms,m<2^64)->k<2^64->∀m∈ms.set i k,m<2^64:=fun h hk m hm=>(List.mem_or_eq_of_mem_set hm).elim (h m) fun e=>e ▸ hk
 refine⟨fun k z W=>∃(q:Nat)(ms:List Nat),q<=arcs.length/\k+q=arcs.length/\z=(q:Int)/\ms.length=n/\OwS W ⟨some ⟨b1,0,none⟩,n,n⟩ 2 (ms.flatMap setC)/\(∀m∈ms,m<2^64)/\(∀(i j:Nat) m,ms[i]? =some m->(m.testBit j=true↔∃e∈arcs.take q,e.1=(i:Int)/\e.2.1=(j:Int)))/\Ch (fun j=>j=b1) w2 W,⟨arcs.length,0,List.replicate n 0,Nat.zero_le _,rfl,rfl,by simp,ho0,fun m hm=>by rw[(List.mem_replicate.1 hm).2];decide,fun i j m hm=>?_,Ch.refl _ _⟩,?_⟩
 ·have:=List.mem_of_getElem? hm
  rw[(List.mem_replicate.1 this).2];simp
 rintro k _ W g ⟨q,ms,hq,hkq,rfl,hml,ho,hmb,hbt,hC⟩
 have eW:Ext w W:=e2.chN hC fun j e=>by omega
 unfold F174j1
 refine IfB.dec (fun hlt=>?_) fun hge=>?_
 ·have hq':q<arcs.length:=by omega
  have hx:arcs[q]? =some arcs[q]:=List.getElem?_eq_getElem hq'
  have hxm:arcs[q]∈arcs:=List.getElem_mem hq'
  have htk:=take_succ_get hx
  generalize arcs[q]=e at hx hxm htk
  obtain⟨a,b,hea,heb,han,hbn⟩:=hft e hxm
  obtain⟨pb,po,hpp,hcc⟩:=(hR.ext eW).elem (i:=q) (by omega) (by omega) (flatGet aC_len hx)
  have hma:ms[a]? =some (ms[a]'(by omega)):=List.getElem?_eq_getElem (by omega)
  have hmab:=hmb _ (List.getElem_mem (show a<ms.length by omega))
  generalize ms[a]'_=m at hma hmab
  refine⟨pb,po,hpp,⟨by omega,hlt⟩,e,by rw[Int.toNat_natCast];exact hcc,fun b13 w14 a14=>⟨rfl,store_all (vs:=aC e) a14.new rfl (aC_one e) fun w15 u15=>?_⟩⟩
  have ed:=extDrew w15
  have e15:Ext W w15.drew:=(Ext.fresh a14 u15).trans ed
  have qe:=fun{V:World} (j:Nat) (x:Ext w15.drew V)=>boxAt (cs:=aC e) u15.new j (ed.trans x)
  have r0:Ext w15.drew w15.drew:=Ch.refl _ _
  obtain⟨pb2,po2,hpp2,hcc2⟩:=(ho.ext e15).rd.elem (i:=a) (by show a<n;exact han) (by omega) (flatGet setC_len hma)
  cases hpp2
  have hbd:(0:Int)<=e.1/\e.1<(((n:Int)).toNat:Int):=⟨by omega,by omega⟩
  have hat:e.1.toNat=a:=by omega
  refine⟨e.1,qe 0 r0,e.1,qe 0 r0,b1,0,rfl,hbd,setP m,by rw[hat];exact hcc2,e.2.1,qe 1 r0,?_⟩
  rw[heb]
  refine(c220 hmab (show b<64 by omega) w15.drew).use ?_
  rintro _ w23 ⟨rfl,e23⟩
  refine⟨setP (m ||| 2^b),rfl,by have:=qe 0 e23;exact this,b1,0,rfl,hbd,rfl,?_⟩
  rw[hat,Nat.zero_add]
  have hk64:m ||| 2^b<2^64:=Nat.or_lt_two_pow hmab (Nat.pow_lt_pow_right (by decide) (by omega))
  have e23':=e15.trans e23
  refine set (ho.ext e23') hml han fun w27 ho27 hC27=>⟨(by trivial),k-1,by omega,q+1,ms.set a (m ||| 2^b),hq',by omega,by rw[wrap_of (by omega) (by omega)];rfl,by rw[List.length_set,hml],ho27,bits hmb hk64,fun i j m' hm'=>?_,(hC.trans (e23'.mono fun _ _ h=>h.elim)).trans hC27⟩
  rw[htk]
  rw[List.getElem?_set] at hm'
  by_cases hi:a=i
  ·subst hi
   rw[if_pos rfl,if_pos (by omega)] at hm'
   cases hm'
   rw[Nat.testBit_or,Bool.or_eq_true,hbt a j m hma,Nat.testBit_two_pow,decide_eq_true_eq]
   constructor
   ·rintro(⟨e',he',g1,g2⟩|rfl)
    ·exact⟨e',List.mem_append.2 (.inl he'),g1,g2⟩
    ·exact⟨e,List.mem_append.2 (.inr (List.mem_singleton.2 rfl)),hea,heb⟩
   ·rintro⟨e',he',g1,g2⟩
    rcases List.mem_append.1 he' with h|h
    ·exact .inl ⟨e',h,g1,g2⟩
    ·rw[List.mem_singleton.1 h,heb] at g2
     exact .inr (Int.ofNat.inj g2)
  ·rw[if_neg hi] at hm'
   rw[hbt i j m' hm']
   constructor
   ·rintro⟨e',he',g1,g2⟩;exact⟨e',List.mem_append.2 (.inl he'),g1,g2⟩
   ·rintro⟨e',he',g1,g2⟩
    rcases List.mem_append.1 he' with h|h
    ·exact⟨e',h,g1,g2⟩
    ·rw[List.mem_singleton.1 h,hea] at g1
     exact absurd (Int.ofNat.inj g1) hi
 ·have hq':q=arcs.length:=by omega
  subst hq'
  rw[List.take_length] at hbt
  have hbt:∀(i j:Nat) m,ms[i]? =some m->(m.testBit j=true↔ArE arcs i j):=fun i j m hm=>(hbt i j m hm).trans ⟨fun⟨⟨e1,e2,e3⟩,he,g1,g2⟩=>⟨e3,by dsimp only at g1 g2;rw[<-g1,<-g2];exact he⟩,fun⟨c,hc⟩=>⟨_,hc,rfl,rfl⟩⟩
  have hE:∀a b,ArE arcs a b->b<n:=fun a b ⟨c,hc⟩=>by
   obtain⟨a',b',h1,h2,h3,h4⟩:=hft _ hc
   have:b=b':=Int.ofNat.inj h2
   omega
  refine⟨fun k z W=>∃(p:Nat)(ms:List Nat),p<=n/\k+p=n/\z=(p:Int)/\ms.length=n/\OwS W ⟨some ⟨b1,0,none⟩,n,n⟩ 2 (ms.flatMap setC)/\(∀m∈ms,m<2^64)/\(∀(i j:Nat) m,ms[i]? =some m->(m.testBit j=true↔Fw (ArE arcs) p i j))/\Ch (fun j=>j=b1) w2 W,⟨n,0,ms,Nat.zero_le _,rfl,rfl,hml,ho,hmb,hbt,hC⟩,?_⟩
  rintro k _ W2 g2 ⟨p,ms2,hp,hkp,rfl,hml2,ho2,hmb2,hbt2,hC2⟩
  have eW2:Ext w W2:=e2.chN hC2 fun j e=>by omega
  refine IfB.dec (fun hlt2=>?_) fun hge2=>⟨⟨some ⟨b1,0,none⟩,n,n⟩,ms2,by simp only[Int.toNat_natCast],ho2,hml2,hmb2,fun i j m hm=>?_,eW2,fun j hj=>?_⟩
  ·have hp':p<n:=by omega
   refine⟨fun k3 z W3=>∃(i:Nat)(ms:List Nat),i<=n/\k3+i=n/\z=(i:Int)/\ms.length=n/\OwS W3 ⟨some ⟨b1,0,none⟩,n,n⟩ 2 (ms.flatMap setC)/\(∀m∈ms,m<2^64)/\(∀(r j:Nat) m,ms[r]? =some m->(m.testBit j=true↔if r<i then Fw (ArE arcs) (p+1) r j else Fw (ArE arcs) p r j))/\Ch (fun j=>j=b1) w2 W3,⟨n,0,ms2,Nat.zero_le _,rfl,rfl,hml2,ho2,hmb2,fun r j m hm=>by rw[if_neg (Nat.not_lt_zero _)];exact hbt2 r j m hm,hC2⟩,?_⟩
   rintro k3 _ W3 g3 ⟨i,ms3,hi,hki,rfl,hml3,ho3,hmb3,hbt3,hC3⟩
   have eW3:Ext w W3:=e2.chN hC3 fun j e=>by omega
   unfold F174j3
   refine IfB.dec (fun hlt3=>?_) fun hge3=>⟨(by trivial),k-1,by omega,p+1,ms3,hp',by omega,by rw[wrap_of (by omega) (by omega)];rfl,hml3,ho3,hmb3,fun r j m hm=>?_,hC3⟩
   ·have hi':i<n:=by omega
    have hwi:IntKind.i64.wrap ((i:Int)+1)=((i+1:Nat):Int):=by rw[wrap_of (by omega) (by omega)];rfl
    have hmi:ms3[i]? =some (ms3[i]'(by omega)):=List.getElem?_eq_getElem (by omega)
    have hmib:=hmb3 _ (List.getElem_mem (show i<ms3.length by omega))
    generalize ms3[i]'_=m at hmi hmib
    obtain⟨pb2,po2,hpp2,hcc2⟩:=ho3.rd.elem (i:=i) (by show i<n;exact hi') (by omega) (flatGet setC_len hmi)
    cases hpp2
    have hbd:(0:Int)<=(i:Int)/\(i:Int)<(((n:Int)).toNat:Int):=⟨by omega,by omega⟩
    have hbi:=fun j=>hbt3 i j m hmi
    simp only[Nat.lt_irrefl,if_false] at hbi
    refine⟨b1,0,rfl,hbd,setP m,by rw[Int.toNat_natCast];exact hcc2,fun b46 w47 a47=>⟨rfl,store_all (vs:=setC m) a47.new rfl (setC_one m) fun w48 u48=>?_⟩⟩
    have e48:Ext W3 w48:=Ext.fresh a47 u48
    refine⟨setP m,boxAll (cs:=setC m) u48.new (Ch.refl _ _),(c129 hmib (show p<64 by omega) w48).use ?_⟩
    rintro _ w51 ⟨rfl,e51⟩
    have ed:=extDrew w51
    refine⟨_,rfl,IfB.intro (fun h1=>?_) fun h1=>⟨(by trivial),k3-1,by omega,i+1,ms3,hi',by omega,by rw[hwi],hml3,(ho3.ext e48).ext e51,hmb3,fun r j m' hm'=>?_,hC3.trans ((e48.trans e51).mono fun _ _ h=>h.elim)⟩⟩
    ·have hmp:ms3[p]? =some (ms3[p]'(by omega)):=List.getElem?_eq_getElem (by omega)
     have hmpb:=hmb3 _ (List.getElem_mem (show p<ms3.length by omega))
     generalize ms3[p]'_=mp at hmp hmpb
     have hbp:∀j,mp.testBit j=true↔Fw (ArE arcs) p p j:=fun j=>by
      rw[hbt3 p j mp hmp]
      split
      ·exact⟨fun h=>h.elim id fun h=>h.2,.inl⟩
      ·exact Iff.rfl
     have e51':=(e48.trans e51).trans ed
     obtain⟨pb3,po3,hpp3,hcc3⟩:=(ho3.ext e51').rd.elem (i:=p) (by show p<n;exact hp') (by omega) (flatGet setC_len hmp)
     cases hpp3
     refine⟨setP m,boxAll (cs:=setC m) u48.new (e51.trans ed),b1,0,rfl,⟨by omega,by omega⟩,setP mp,by rw[Int.toNat_natCast];exact hcc3,(c221 hmib hmpb w51.drew).use ?_⟩
     rintro _ w58 ⟨rfl,e58⟩
     have e58':=e51'.trans e58
     refine⟨setP (m ||| mp),rfl,b1,0,rfl,hbd,rfl,?_⟩
     rw[Int.toNat_natCast,Nat.zero_add]
     refine set (ho3.ext e58') hml3 hi' fun w62 ho62 hC62=>⟨(by trivial),k3-1,by omega,i+1,ms3.set i (m ||| mp),hi',by omega,by rw[hwi],by rw[List.length_set,hml3],ho62,bits hmb3 (Nat.or_lt_two_pow hmib hmpb),fun r j m' hm'=>?_,(hC3.trans (e58'.mono fun _ _ h=>h.elim)).trans hC62⟩
     rw[List.getElem?_set] at hm'
     by_cases hr:i=r
     ·subst hr
      rw[if_pos rfl,if_pos (by omega)] at hm'
      cases hm'
      rw[if_pos (by omega),Nat.testBit_or,Bool.or_eq_true,hbi,hbp]
      exact⟨fun h=>h.elim .inl fun h=>.inr ⟨(hbi p).1 h1,h⟩,fun h=>h.elim .inl fun h=>.inr h.2⟩
     ·rw[if_neg hr] at hm'
      rw[hbt3 r j m' hm']
      by_cases h':r<i
      ·rw[if_pos h',if_pos (by omega)]
      ·rw[if_neg h',if_neg (by omega)]
    ·by_cases hr:i=r
     ·subst hr
      rw[hmi] at hm';cases hm'
      rw[if_pos (by omega),hbi]
      refine⟨.inl,fun h=>h.elim id fun h=>?_⟩
      rw[(hbi p).2 h.1] at h1;cases h1
     ·rw[hbt3 r j m' hm']
      by_cases h':r<i
      ·rw[if_pos h',if_pos (by omega)]
      ·rw[if_neg h',if_neg (by omega)]
   ·have hr:=(List.getElem?_eq_some_iff.1 hm).1
    rw[hbt3 r j m hm,if_pos (by omega)]
  ·have:p=n:=by omega
   subst this
   rw[hbt2 i j m hm]
   exact Fw_iff hE
  ·have:j=b1:=by simpa [blk] using hj
   omega
def GoodP(x:CatD)(hs:List Nd):Prop:=HMay x hs/\∃r,FairR x hs r
abbrev Cg(hs ks:List Nd):Prop:=hs.map dOf=ks.map dOf
section
variable {hs ks:List Nd} {x:CatD}
theorem Cg.len(h:Cg hs ks):hs.length=ks.length:=by have:=congrArg List.length h;simpa using this
theorem Cg.get(h:Cg hs ks){i:Nat}{a:Nd}(ha:hs[i]? =some a):∃b,ks[i]? =some b/\dOf a=dOf b:=by
 have:=congrArg (·[i]?) h
 simp only[List.getElem?_map,ha,Option.map_some] at this
 cases hb:ks[i]? with
 | none=>rw[hb] at this;cases this
 | some b=>rw[hb] at this;exact⟨b,rfl,Option.some.inj this⟩
theorem dOf_iff{a b:Nd}:dOf a=dOf b↔a.v.1=b.v.1/\a.v.2.1=b.v.2.1/\a.v.2.2.1=b.v.2.2.1/\a.v.2.2.2.1=b.v.2.2.2.1/\a.rs=b.rs/\a.ws=b.ws:=by
 unfold dOf
 simp only[Prod.mk.injEq]
theorem dirP.cg{a b a' b':Nd}(ha:dOf a=dOf a')(hb:dOf b=dOf b')(h:dirP a b):dirP a' b':=by
 obtain⟨a1,_,_,_,a5,a6⟩:=dOf_iff.1 ha
 obtain⟨b1,_,_,_,b5,b6⟩:=dOf_iff.1 hb
 unfold dirP cnfP at h ⊢
 rw[<-a1,<-b1,<-a5,<-a6,<-b5,<-b6];exact h
theorem EdP.cg(h:Cg hs ks){i k:Nat}(e:EdP hs i k):EdP ks i k:=by
 obtain⟨hl,a,b,ha,hb,hd⟩:=e
 obtain⟨a',ha',ea⟩:=h.get ha
 obtain⟨b',hb',eb⟩:=h.get hb
 exact⟨hl,a',b',ha',hb',hd.cg ea eb⟩
theorem Dp.cg(h:Cg hs ks){i k:Nat}(d:Dp hs i k):Dp ks i k:=by
 induction d with
 | one e=>exact .one (e.cg h)
 | more _ e ih=>exact .more ih (e.cg h)
theorem InP.cg(h:Cg hs ks){i k:Nat}{d:Int}(p:InP x hs i k d):InP x ks i k d:=by
 rcases p with e|⟨a,b,ha,hb,h1,h2,h3,h4⟩
 ·exact .inl e
 ·obtain⟨a',ha',ea⟩:=h.get ha
  obtain⟨b',hb',eb⟩:=h.get hb
  obtain⟨a1,a2,a3,a4,_,_⟩:=dOf_iff.1 ea
  obtain⟨b1,b2,b3,b4,_,_⟩:=dOf_iff.1 eb
  exact .inr ⟨a',b',ha',hb',by rw[<-a1,<-b1,h1],by rw[<-a4,h2],by rw[<-b4,h3],by rw[<-a2,<-a3,<-b3,h4]⟩
theorem FstP.cg(h:Cg hs ks){i f:Nat}{d:Int}(p:FstP x hs i d f):FstP x ks i d f:=⟨p.1.cg h,fun k hk=>p.2 k (hk.cg h.symm)⟩
theorem LstP.cg(h:Cg hs ks){i f:Nat}{d:Int}(p:LstP x hs i d f):LstP x ks i d f:=⟨p.1.cg h,fun k hk=>p.2 k (hk.cg h.symm)⟩
theorem ownL.cg(h:Cg hs ks)(s:Int):Cg (ownL hs s) (ownL ks s):=by
 have:∀l:List Nd,(ownL l s).map dOf=(l.map dOf).filter fun d=>d.1 == s:=fun l=>by
  unfold ownL
  rw[List.filter_map];rfl
 show List.map _ _=List.map _ _
 rw[this,this,h]
theorem Cg.take(h:Cg hs ks)(m:Nat):Cg (hs.take m) (ks.take m):=by
 show List.map _ _=List.map _ _
 rw[List.map_take,List.map_take,h]
theorem lastOwn.cg(h:Cg hs ks)(i:Nat)(s:Int):(lastOwn hs i s).map dOf=(lastOwn ks i s).map dOf:=by
 have:=ownL.cg (h.take i) s
 unfold lastOwn
 rw[<-List.getLast?_map,<-List.getLast?_map,this]
theorem nextP.cg{o o':Option Nd}{n n':Nd}{k:Int}(ho:o.map dOf=o'.map dOf)(hn:dOf n=dOf n')(h:nextP o n k):nextP o' n' k:=by
 obtain⟨n1,n2,n3,n4,_,_⟩:=dOf_iff.1 hn
 cases o with
 | none=>
  cases o' with
  | none=>unfold nextP at h ⊢;dsimp only at h ⊢;rw[<-n3,<-n4];exact h
  | some m'=>cases ho
 | some m=>
  cases o' with
  | none=>cases ho
  | some m'=>
   obtain⟨m1,m2,m3,m4,_,_⟩:=dOf_iff.1 (Option.some.inj ho)
   unfold nextP at h ⊢
   dsimp only at h ⊢
   rw[<-n2,<-n3,<-n4,<-m2,<-m3,<-m4];exact h
theorem HMay.cg(h:Cg hs ks)(p:HMay x hs):HMay x ks:=by
 refine⟨p.cat,by rw[<-h.len];exact p.len,fun i n hn=>?_⟩
 obtain⟨a,ha,e⟩:=Cg.get h.symm hn
 have o:=p.ok i a ha
 obtain⟨a1,a2,a3,a4,a5,a6⟩:=dOf_iff.1 e
 refine⟨by rw[a1];exact o.s0,by rw[a2];exact o.c0,by rw[a2];exact o.cn,by rw[a3];exact o.st0,by rw[a5];exact o.rs,by rw[a6];exact o.ws,?_⟩
 rw[a2]
 exact nextP.cg (by rw[a1];exact lastOwn.cg h i a.v.1) e.symm o.nx
theorem OwnA.cg(h:Cg hs ks){i:Nat}{xs:List ArcD}(p:OwnA hs i xs):OwnA ks i xs:=by
 obtain⟨n,hn,hp⟩:=p
 obtain⟨n',hn',en⟩:=h.get hn
 have e1:=(dOf_iff.1 en).1
 refine⟨n',hn',hp.imp (fun⟨h1,h2⟩=>⟨h1,fun k m hk hm=>?_⟩) fun⟨k,m,hk,hm,h1,h2,h3⟩=>?_⟩
 ·obtain⟨m',hm',em⟩:=Cg.get h.symm hm
  rw[(dOf_iff.1 em).1,<-e1];exact h2 k m' hk hm'
 ·obtain⟨m',hm',em⟩:=h.get hm
  refine⟨k,m',hk,hm',by rw[<- (dOf_iff.1 em).1,<-e1];exact h1,h2,fun j q g1 g2 hq=>?_⟩
  obtain⟨q',hq',eq⟩:=Cg.get h.symm hq
  rw[(dOf_iff.1 eq).1,<-e1];exact h3 j q' g1 g2 hq'
theorem BtwP.cg(h:Cg hs ks){a b:Nat}{xs:List ArcD}(p:BtwP x hs a b xs):BtwP x ks a b xs:=by
 obtain⟨na,nb,l,f,ha,hb,h1,h2,h3⟩:=p
 obtain⟨na',ha',ea⟩:=h.get ha
 obtain⟨nb',hb',eb⟩:=h.get hb
 exact⟨na',nb',l,f,ha',hb',by rw[<- (dOf_iff.1 eb).2.1];exact h1.cg h,by rw[<- (dOf_iff.1 ea).2.1];exact h2.cg h,h3⟩
theorem ArcI.cg(h:Cg hs ks){i:Nat}{e:ArcD}(p:ArcI x hs i e):ArcI x ks i e:=by
 rcases p with ⟨xs,h1,h2⟩|⟨k,xs,h1,⟨a,b,ha,hb,hne⟩,h3,h4⟩
 ·exact .inl ⟨xs,h1.cg h,h2⟩
 ·obtain⟨a',ha',ea⟩:=h.get ha
  obtain⟨b',hb',eb⟩:=h.get hb
  exact .inr ⟨k,xs,h1.cg h,⟨a',b',ha',hb',by rw[<- (dOf_iff.1 ea).1,<- (dOf_iff.1 eb).1];exact hne⟩,h3.cg h,h4⟩
theorem ArcIn.cg(h:Cg hs ks){e:ArcD}(p:ArcIn x hs e):ArcIn x ks e:=by
 obtain⟨i,hi,p⟩:=p
 exact⟨i,by rw[<-h.len];exact hi,p.cg h⟩
theorem ArcE.cg(h:Cg hs ks){a b:Nat}(p:ArcE x hs a b):ArcE x ks a b:=p.imp fun c hc=>hc.cg h
theorem RowOf.cg(h:Cg hs ks){i:Nat}{xs:List Int}(p:RowOf hs i xs):RowOf ks i xs:=⟨p.srt,fun k=>(p.mem k).trans ⟨fun⟨k',e,d⟩=>⟨k',e,d.cg h⟩,fun⟨k',e,d⟩=>⟨k',e,d.cg h.symm⟩⟩⟩
theorem FairR.cg(h:Cg hs ks){r:Nat->Nat}(p:FairR x hs r):FairR x ks r:=by
 refine⟨fun i j hi hj=>p.inj i j (by rw[h.len];exact hi) (by rw[h.len];exact hj),fun i k e=>p.keep i k (e.cg h.symm),fun o a b u no na ho ha hne h1 h2 h3 h4 h5=>?_⟩
 obtain⟨no',ho',eo⟩:=Cg.get h.symm ho
 obtain⟨na',ha',ea⟩:=Cg.get h.symm ha
 have c:=(dOf_iff.1 eo).2.1
 exact p.fair o a b u no' na' ho' ha' (by rw[<- (dOf_iff.1 ea).1,<- (dOf_iff.1 eo).1];exact hne) (by rw[<-c];exact h1.cg h.symm) h2 h3 (by rw[<-c];exact h4.cg h.symm) (h5.imp (fun d=>d.cg h.symm) fun d=>d.cg h.symm)
theorem GoodP.cg(h:Cg hs ks)(p:GoodP x hs):GoodP x ks:=⟨p.1.cg h,p.2.imp fun r hr=>hr.cg h⟩
end
theorem SlR.mk{w:World}{e:Ty}{s:Sl}{l:List e.den}{css:List (List Value)}(hl:css.length=l.length)(hr:∀(i:Nat) c x,css[i]? =some c->l[i]? =some x->rep (fun _=>True) w e x c)(hR:Rd w s e.sz css.flatten)(hn:s.n=l.length)(hc:s.n<=s.c)(hm:s.n<=maxLen):SlR w e s l:=
 ⟨s,rfl,hn,hc,hm,fun _ _ _=>trivial,css,hl,hr,hR⟩
theorem rdBlk{w:World}{b n sz:Nat}{arr:Array Value}{T:TypeId}{cs:List Value}(h:w.heap[b]? =some (.cells arr T (0,0)))(hs:arr.toList=cs)(hl:cs.length=n*sz):Rd w ⟨some ⟨b,0,none⟩,n,n⟩ sz cs:=
 ⟨hl,hl,cellsAt_of h fun i v hv=>by rw[Nat.zero_add,<-Array.getElem?_toList,hs];exact hv⟩
abbrev strA:ByteArray:=ByteArray.mk (Array.mk [(97:UInt8)])
abbrev insA:InsD:=(5,0,0,0,(0,0),(0,0),0)
abbrev stpA:StpD:=([insA],[])
abbrev clsA:ClsD:=(strA,0,[stpA,stpA],[([],[]),([],[])],false)
abbrev catA:CatD:=([clsA],List.replicate 16 0)
theorem insA_ok:InsOk insA 0:=⟨by decide,by decide,by decide,by decide,by decide,by decide,by decide,by decide,by decide,by decide,fun h=>absurd h (by decide),fun h=>absurd h (by decide)⟩
theorem stpA_ok:CodeOk stpA.1 0/\FootOk stpA.2 0:=
 ⟨⟨by decide,by decide,by decide,by decide,fun x hx=>by rw[List.mem_singleton.1 hx];exact insA_ok⟩,by decide,by decide,by decide,fun s hs=>by cases hs⟩
theorem clsA_ok:ClsOk clsA:=by
 refine⟨by decide,by decide,by decide,by decide,by decide,by decide,rfl,fun s hs=>?_,fun s hs=>?_⟩
 ·simp only[List.mem_cons,List.not_mem_nil,or_false] at hs
  rcases hs with rfl|rfl<;>exact stpA_ok
 ·simp only[List.mem_cons,List.not_mem_nil,or_false] at hs
  rcases hs with rfl|rfl<;>exact⟨.inl rfl,by decide,by decide,by decide,fun s hs=>by cases hs⟩
theorem brkA(c d:Nat):brk catA c d=0:=by
 unfold brk
 dsimp only
 rw[List.getD_eq_getElem?_getD,List.getElem?_replicate]
 split<;>rfl
theorem catA_ok:CatOk catA:=by
 refine⟨by decide,by decide,fun c hc=>?_,fun i k a b hk ha hb=>?_,fun c d hc hd=>?_⟩
 ·rw[List.mem_singleton.1 hc];exact clsA_ok
 ·have:=get_lt ha
  have h1:catA.1.length=1:=rfl
  omega
 ·rw[brkA]
  refine⟨Int.le_refl _,?_⟩
  unfold topB
  split
  ·exact Int.pow_pos (by decide)
  ·decide
theorem brkBA(c d i:Nat):brkB catA c d i=false:=by
 unfold brkB
 rw[brkA]
 simp
theorem rep_insA(w:World):rep (fun _=>True) w tyIns insA (insC insA):=
 ⟨[_],_,rfl,⟨rfl,by decide⟩,[_],_,rfl,⟨rfl,by decide⟩,[_],_,rfl,⟨rfl,by decide⟩,[_],_,rfl,⟨rfl,by decide⟩,[_,_],_,rfl,⟨[_],[_],rfl,⟨rfl,by decide⟩,rfl,by decide⟩,[_,_],_,rfl,⟨[_],[_],rfl,⟨rfl,by decide⟩,rfl,by decide⟩,rfl,by decide⟩
theorem one_le_max:1<=maxLen:=by decide+kernel
theorem two_le_max:2<=maxLen:=by decide+kernel
theorem SlR.nil(w:World)(e:Ty):SlR w e ⟨none,0,0⟩ []:=
 SlR.mk (css:=[]) rfl (fun i c x h=>by cases h) (OwS.nil w e.sz).rd rfl (Nat.le_refl _) (Nat.zero_le _)
theorem SlR.one{w:World}{e:Ty}{b:Nat}{x:e.den}{c:List Value}{T:TypeId}(hb:w.heap[b]? =some (.cells c.toArray T (0,0)))(hx:rep (fun _=>True) w e x c):SlR w e ⟨some ⟨b,0,none⟩,1,1⟩ [x]:=by
 refine SlR.mk (css:=[c]) rfl (fun i c' x' hc hx'=>?_) (rdBlk hb (by simp) (by have:=rep_len hx;simp;omega)) rfl (Nat.le_refl _) one_le_max
 cases i with
 | zero=>cases hc;cases hx';exact hx
 | succ i=>cases hc
theorem SlR.two{w:World}{e:Ty}{b:Nat}{x y:e.den}{c d:List Value}{T:TypeId}(hb:w.heap[b]? =some (.cells (c++d).toArray T (0,0)))(hx:rep (fun _=>True) w e x c)(hy:rep (fun _=>True) w e y d):SlR w e ⟨some ⟨b,0,none⟩,2,2⟩ [x,y]:=by
 refine SlR.mk (css:=[c,d]) rfl (fun i c' x' hc hx'=>?_) (rdBlk hb (by simp) (by have:=rep_len hx;have:=rep_len hy;simp;omega)) rfl (Nat.le_refl _) two_le_max
 match i,hc,hx' with
 | 0,hc,hx'=>cases hc;cases hx';exact hx
 | 1,hc,hx'=>cases hc;cases hx';exact hy
theorem catA_mem{w:World}{b1 b8 b10 b12:Nat}{T1 T8 T10 T12:TypeId}(h1:w.heap[b1]? =some (.cells (insC insA).toArray T1 (0,0)))
  (h8:w.heap[b8]? =some (.cells #[slV ⟨some ⟨b1,0,none⟩,1,1⟩,slV ⟨none,0,0⟩,slV ⟨some ⟨b1,0,none⟩,1,1⟩,slV ⟨none,0,0⟩] T8 (0,0)))
  (h10:w.heap[b10]? =some (.cells { toList:=zc #[slV ⟨none,0,0⟩,slV ⟨none,0,0⟩] 2 } T10 (0,0)))
  (h12:w.heap[b12]? =some (.cells (clsC (strA,0,⟨some ⟨b8,0,none⟩,2,2⟩,⟨some ⟨b10,0,none⟩,2,2⟩,false)).toArray T12 (0,0))):
  CatM w (⟨some ⟨b12,0,none⟩,1,1⟩,List.replicate 16 (.int .i64 0)) catA:=by
 have r1:rep (fun _=>True) w tyStp stpA [slV ⟨some ⟨b1,0,none⟩,1,1⟩,slV ⟨none,0,0⟩]:=⟨[_],[_],rfl,SlR.one h1 (rep_insA w),SlR.nil w tySpT⟩
 have r0:rep (fun _=>True) w tyStp ([],[]) [slV ⟨none,0,0⟩,slV ⟨none,0,0⟩]:=⟨[_],[_],rfl,SlR.nil w tyIns,SlR.nil w tySpT⟩
 have hz:zc #[slV ⟨none,0,0⟩,slV ⟨none,0,0⟩] 2=[slV ⟨none,0,0⟩,slV ⟨none,0,0⟩]++[slV ⟨none,0,0⟩,slV ⟨none,0,0⟩]:=by
  rw[zc_all (v:=slV ⟨none,0,0⟩) (by intro x hx;simpa using hx)];rfl
 rw[hz] at h10
 have rc:rep (fun _=>True) w tyCls clsA (clsC (strA,0,⟨some ⟨b8,0,none⟩,2,2⟩,⟨some ⟨b10,0,none⟩,2,2⟩,false)):=
  ⟨[_],_,rfl,⟨rfl,one_le_max⟩,[_],_,rfl,⟨rfl,by decide⟩,[_],_,rfl,SlR.two (e:=tyStp) (c:=[_,_]) (d:=[_,_]) h8 r1 r1,[_],_,rfl,SlR.two (e:=tyStp) (c:=[_,_]) (d:=[_,_]) h10 r0 r0,rfl⟩
 exact⟨SlR.one h12 rc,rfl,rfl,fun n hn=>by rw[(List.mem_replicate.1 hn).2];omega⟩
def closedD(x:CatD):CatD:=(x.1,List.replicate 16 0)
theorem rep_one{A:Nat->Prop}{w:World}:∀ {t:Ty}{x:t.den}{cs:List Value},rep A w t x cs->One cs
 | .int _,_,_,h=>by rw[h.1];intro v hv;rw[List.mem_singleton.1 hv];rfl
 | .bool,_,_,h=>by rw[show _=_ from h];intro v hv;rw[List.mem_singleton.1 hv];rfl
 | .str,_,_,h=>by rw[h.1];intro v hv;rw[List.mem_singleton.1 hv];rfl
 | .pair a b,_,_,h=>by
  obtain⟨c,d,rfl,h1,h2⟩:=h
  exact One.append (rep_one h1) (rep_one h2)
 | .sl e,_,_,h=>by obtain⟨s,rfl,_⟩:=h;intro v hv;rw[List.mem_singleton.1 hv];rfl
 | .arr n e,l,_,h=>by
  obtain⟨hn,css,hl,hr,rfl⟩:=h
  intro v hv
  obtain⟨c,hc,hv⟩:=List.mem_flatten.1 hv
  obtain⟨i,hi,rfl⟩:=List.getElem_of_mem hc
  exact rep_one (hr i _ _ (List.getElem?_eq_getElem hi) (List.getElem?_eq_getElem (by omega))) v hv
def flatT:Ty->Bool
 | .pair a b=>flatT a&&flatT b
 | .sl _=>false
 | .arr _ e=>flatT e
 | _=>true
theorem rep_flat{A B:Nat->Prop}{w w':World}:∀ {t:Ty}{x:t.den}{cs:List Value},flatT t=true->rep A w t x cs->rep B w' t x cs
 | .int _,_,_,_,h=>h
 | .bool,_,_,_,h=>h
 | .str,_,_,_,h=>h
 | .pair a b,_,_,hf,h=>by
  obtain⟨c,d,rfl,h1,h2⟩:=h
  unfold flatT at hf
  rw[Bool.and_eq_true] at hf
  exact⟨c,d,rfl,rep_flat hf.1 h1,rep_flat hf.2 h2⟩
 | .arr n e,l,_,hf,h=>by
  obtain⟨hn,css,hl,hr,rfl⟩:=h
  exact⟨hn,css,hl,fun i c x hc hx=>rep_flat (t:=e) hf (hr i c x hc hx),rfl⟩
abbrev RS(A:Nat->Prop)(w:World)(e:Ty)(s:Sl)(l:List e.den):Prop:=rep A w (.sl e) l [slV s]
theorem RS.mk{A:Nat->Prop}{w:World}{e:Ty}{s:Sl}{l:List e.den}{css:List (List Value)}(hl:css.length=l.length)(hr:∀(i:Nat) c x,css[i]? =some c->l[i]? =some x->rep A w e x c)(hR:Rd w s e.sz css.flatten)(hn:s.n=l.length)(hc:s.n<=s.c)(hm:s.n<=maxLen)(hA:∀i∈blk s,A i):RS A w e s l:=
 ⟨s,rfl,hn,hc,hm,fun _=>hA,css,hl,hr,hR⟩
theorem RS.mono{A B:Nat->Prop}{w:World}{e:Ty}{s:Sl}{l:List e.den}(h:RS A w e s l)(hB:∀i,A i->B i):RS B w e s l:=rep_mono hB h
theorem RS.all{A:Nat->Prop}{w:World}{e:Ty}{s:Sl}{l:List e.den}(h:RS A w e s l):SlR w e s l:=rep_mono (fun _ _=>trivial) h
theorem RS.ch{A F:Nat->Prop}{w w':World}{e:Ty}{s:Sl}{l:List e.den}(h:RS A w e s l)(hc:Ch F w w')(hF:∀i,A i->¬F i):RS A w' e s l:=rep_ch hc hF h
theorem SlR.copy{w:World}{e:Ty}{s:Sl}{l:List e.den}(h:SlR w e s l)(hf:flatT e=true):∃cs,Rd w s e.sz cs/\One cs/\∀(A:Nat->Prop) w' t',OwS w' t' e.sz cs->t'.n=s.n->(∀i∈blk t',A i)->RS A w' e t' l:=by
 obtain⟨css,h1,h2,h3⟩:=h.rd
 have hn:=h.n
 have hc:=h.cap
 refine⟨_,h3,fun v hv=>?_,fun A w' t' ho hn' hA=>RS.mk h1 (fun i c x hc hx=>rep_flat hf (h2 i c x hc hx)) ho.rd (by omega) ho.cap (by omega) hA⟩
 obtain⟨c,hc,hv⟩:=List.mem_flatten.1 hv
 obtain⟨i,hi,rfl⟩:=List.getElem_of_mem hc
 exact rep_one (h2 i _ _ (List.getElem?_eq_getElem hi) (List.getElem?_eq_getElem (by omega))) v hv
theorem flatMap_flat{α:Type}(f:α->List Value)(l:List α):(l.map f).flatten=l.flatMap f:=by rw[List.flatMap_def]
theorem le_max{n:Nat}(h:n<=1000000):n<=maxLen:=Nat.le_trans h (by decide+kernel)
abbrev StpN(A:Nat->Prop)(w:World)(s:Sl×Sl)(x:StpD):Prop:=RS A w tyIns s.1 x.1/\RS A w tySpT s.2 x.2
theorem rep_stpN{A:Nat->Prop}{w:World}{x:StpD}{cs:List Value}(h:rep A w tyStp x cs):∃s:Sl×Sl,cs=stC s/\StpN A w s x:=by
 obtain⟨c,d,rfl,h1,h2⟩:=h
 obtain⟨s,rfl,_⟩:=id h1
 obtain⟨t,rfl,_⟩:=id h2
 exact⟨(s,t),rfl,h1,h2⟩
theorem RS.steps{A:Nat->Prop}{w:World}{s:Sl}{l:List StpD}(h:RS A w tyStp s l):∃ss:List (Sl×Sl),ss.length=l.length/\Rd w s 2 (ss.flatMap stC)/\∀(i:Nat) y x,ss[i]? =some y->l[i]? =some x->StpN A w y x:=by
 obtain⟨t,ns,ht,h1,h2,h3,h4,h5,h6⟩:=rep_list (f:=stC) (Q:=fun x n=>StpN A w n x) h fun x _ c hc=>rep_stpN hc
 have:=slEq ht;subst this
 exact⟨ns,h2,h1,fun i y x hy hx=>h6 i x y hx hy⟩
theorem RS.mkSteps{A:Nat->Prop}{w:World}{s:Sl}{l:List StpD}{ss:List (Sl×Sl)}(hl:ss.length=l.length)(ho:OwS w s 2 (ss.flatMap stC))(hm:l.length<=1000000)(hr:∀(i:Nat) y x,ss[i]? =some y->l[i]? =some x->StpN A w y x)(hA:∀i∈blk s,A i):RS A w tyStp s l:=by
 have h1:=ho.len
 have h2:(ss.flatMap stC).length=ss.length*2:=flatLen stC_len _
 have h3:s.n=l.length:=by omega
 refine RS.mk (css:=ss.map stC) (by simp[hl]) (fun i c x hc hx=>?_) (by rw[flatMap_flat];exact ho.rd) h3 ho.cap (le_max (by omega)) hA
 rw[List.getElem?_map] at hc
 obtain⟨y,hy,rfl⟩:=Option.map_eq_some_iff.1 hc
 obtain⟨g1,g2⟩:=hr i y x hy hx
 exact⟨[_],[_],rfl,g1,g2⟩
structure ClsN(A:Nat->Prop)(w:World)(v:ClsV)(x:ClsD):Prop where
 nm:v.1=x.1
 ar:v.2.1=x.2.1
 st:RS A w tyStp v.2.2.1 x.2.2.1
 co:RS A w tyStp v.2.2.2.1 x.2.2.2.1
 re:v.2.2.2.2=x.2.2.2.2
 sz:x.1.size<=maxLen
theorem ClsN.ch{A F:Nat->Prop}{w w':World}{v:ClsV}{x:ClsD}(h:ClsN A w v x)(hc:Ch F w w')(hF:∀i,A i->¬F i):ClsN A w' v x:=⟨h.nm,h.ar,h.st.ch hc hF,h.co.ch hc hF,h.re,h.sz⟩
theorem ClsN.ext{A:Nat->Prop}{w w':World}{v:ClsV}{x:ClsD}(h:ClsN A w v x)(e:Ext w w'):ClsN A w' v x:=h.ch e fun _ _=>id
theorem rep_clsN{A:Nat->Prop}{w:World}{x:ClsD}{cs:List Value}(h:rep A w tyCls x cs):∃v:ClsV,cs=clsC v/\ClsN A w v x:=by
 obtain⟨c1,d1,rfl,⟨rfl,hz⟩,c2,d2,rfl,⟨rfl,_⟩,c3,d3,rfl,h3,c4,d4,rfl,h4,h5⟩:=h
 have h5:d4=[.bool x.2.2.2.2]:=h5
 subst h5
 obtain⟨s,e3,_⟩:=id h3
 obtain⟨t,e4,_⟩:=id h4
 subst e3;subst e4
 exact⟨(x.1,x.2.1,s,t,x.2.2.2.2),rfl,rfl,rfl,h3,h4,rfl,hz⟩
theorem RS.classes{A:Nat->Prop}{w:World}{s:Sl}{l:List ClsD}(h:RS A w tyCls s l):∃vs:List ClsV,vs.length=l.length/\Rd w s 5 (vs.flatMap clsC)/\∀(i:Nat) y x,vs[i]? =some y->l[i]? =some x->ClsN A w y x:=by
 obtain⟨t,ns,ht,h1,h2,h3,h4,h5,h6⟩:=rep_list (f:=clsC) (Q:=fun x n=>ClsN A w n x) h fun x _ c hc=>rep_clsN hc
 have:=slEq ht;subst this
 exact⟨ns,h2,h1,fun i y x hy hx=>h6 i x y hx hy⟩
theorem RS.mkClasses{A:Nat->Prop}{w:World}{s:Sl}{l:List ClsD}{vs:List ClsV}(hl:vs.length=l.length)(ho:OwS w s 5 (vs.flatMap clsC))(hm:l.length<=1000000)(har:∀x∈l, -9223372036854775808<=x.2.1/\x.2.1<=9223372036854775807)(hr:∀(i:Nat) y x,vs[i]? =some y->l[i]? =some x->ClsN A w y x)(hA:∀i∈blk s,A i):RS A w tyCls s l:=by
 have h1:=ho.len
 have h2:(vs.flatMap clsC).length=vs.length*5:=flatLen clsC_len _
 have h3:s.n=l.length:=by omega
 refine RS.mk (css:=vs.map clsC) (by simp[hl]) (fun i c x hc hx=>?_) (by rw[flatMap_flat];exact ho.rd) h3 ho.cap (le_max (by omega)) hA
 rw[List.getElem?_map] at hc
 obtain⟨y,hy,rfl⟩:=Option.map_eq_some_iff.1 hc
 obtain⟨y1,y2,y3,y4,y5⟩:=y
 obtain⟨g1,g2,g3,g4,g5,g6⟩:=hr i _ x hy hx
 dsimp only at g1 g2 g3 g4 g5
 subst g1;subst g2;subst g5
 exact⟨[_],_,rfl,⟨rfl,g6⟩,[_],_,rfl,⟨rfl,har x (List.mem_of_getElem? hx)⟩,[_],_,rfl,g3,[_],_,rfl,g4,rfl⟩
def GxOUby0:ByteArray:=(ByteArray.mk (Array.mk ([] )))
set_option linter.unusedVariables false
set_option maxRecDepth 100000
def F147j1(R:RV)(s3:Sl)(y4:Nat->Int->World->Prop)(b6:Nat)(n7:Int)(w8:World):Prop:=IfB (decide (n7<(s3.n:Int))) (Qx s3.1 n7 (s3.2:Int) fun b11 b12=>∃(x13:Sl×Sl),CellsAt w8 b11 (b12+n7.toNat*2) [Qy x13.fst,Qy x13.snd]/\AllocP w8 (Obj.cells #[Value.slice none 0 0,Value.slice none 0 0] 99) fun b14 w15=>#[Qy x13.fst,Qy x13.snd].size=2/\StoreP w15 b14 0 [Qy x13.fst,Qy x13.snd] fun w16=>Qs w16.drew b14 (0+0) fun s17=>Qs w16.drew b14 (0+1) fun s18=>Qu' 196 #[Qy s17] w16.drew fun s21 w20=>w20.cell? ⟨b14,0+1,none⟩=some (Qy s18)/\Qu' 197 #[Qy s18] w20 fun s24 w23=>Qx s3.1 n7 (s3.2:Int) fun b25 b26=>#[Qy s21,Qy s24].size=2/\StoreP w23 b25 (b26+n7.toNat*2) [Qy s21,Qy s24] fun w27=>Qn y4 b6 (IntKind.i64.wrap (n7+1)) w27) (R (Qy s3) w8)
theorem F147_ok(t0:Sl)(w:World)(R:RV)(h:Cx 195 #[Qy t0] w fun v1 w2=>∃s3:Sl,v1=Qy s3/\Ql (α:=Int) 0 w2 fun y4 b6 n7 w8=>(F147j1 R s3 y4 b6 n7 w8)):Cw 147 #[Qy t0] w R:=
 ckF Tryz.func147 (nd (nd (.node (nd (.loop [(10,oi)] (rg [4,5,10,25]) (nd (nd (.node (nd (.draw (sts [0,1,2,3,5,6] (.ac 4 [6,5,1,0] (.ac 7 [1,0] (sts [8,9] (.ac 10 [] .fin .non)) .non) .non)))) .nil))))) .nil))) h (by kernel_rfl) (by kernel_rfl)
def F78k1(s10:Sl)(n14:Int)(w15:World)(b1:Nat)(b13:Nat)(y11:Nat->Int->World->Prop):Prop:=Qx s10.1 n14 (s10.2:Int) fun b18 b19=>∃(x20:ByteArray×Int×Sl×Sl×Bool),CellsAt w15 b18 (b19+n14.toNat*5) (lC49 x20)/\AllocP w15 (Obj.cells #[Value.string GxOUby0,Qz 0,Value.slice none 0 0,Value.slice none 0 0,Value.bool false] 49) fun b21 w22=>(lC49 x20).toArray.size=5/\StoreP w22 b21 0 (lC49 x20) fun w23=>Qs w23.drew b1 (0+0) fun s24=>Qs w23.drew b1 (0+0) fun s25=>Qs w23.drew b21 (0+2) fun s26=>Qs w23.drew b21 (0+3) fun s27=>Qu' 147 #[Qy s26] w23.drew fun s30 w29=>w29.cell? ⟨b21,0+3,none⟩=some (Qy s27)/\w29.cell? ⟨b1,0+0,none⟩=some (Qy s25)/\w29.cell? ⟨b1,0+0,none⟩=some (Qy s24)/\Qu' 147 #[Qy s27] w29 fun s33 w32=>w32.cell? ⟨b1,0+0,none⟩=some (Qy s25)/\w32.cell? ⟨b1,0+0,none⟩=some (Qy s24)/\Qx s24.1 n14 (s24.2:Int) fun b34 b35=>#[Qy s30].size=1/\StoreP w32 b34 (b35+n14.toNat*5+2) [Qy s30] fun w36=>w36.cell? ⟨b1,0+0,none⟩=some (Qy s25)/\Qx s25.1 n14 (s25.2:Int) fun b37 b38=>#[Qy s33].size=1/\StoreP w36 b37 (b38+n14.toNat*5+3) [Qy s33] fun w39=>Qn y11 b13 (IntKind.i64.wrap (n14+1)) w39
def F78j1(R:RV)(b1:Nat)(b3:Nat)(s10:Sl)(y11:Nat->Int->World->Prop)(b13:Nat)(n14:Int)(w15:World):Prop:=IfB (decide (n14<(s10.n:Int))) (F78k1 s10 n14 w15 b1 b13 y11) (∃(x41:Sl×List Value),CellsN w15 b1 0 17 (Qy x41.fst::x41.2)/\(Array.mk (Qy x41.fst::x41.2 )).size=17/\StoreP w15 b3 0 (Qy x41.fst::x41.2) fun w44=>∃(x45:Sl×List Value),CellsN w44 b3 0 17 (Qy x45.fst::x45.2)/\R (Value.agg { toList:=Qy x45.fst::x45.2 }) w44)
theorem F78_ok(t0:Sl×List Value)(w:World)(R:RV)(h:AllocP w (Obj.cells { toList:=Qy t0.fst::t0.2 } 26) fun b1 w2=>AllocP w2 (Obj.cells #[Value.slice none 0 0,Qz 0,Qz 0,Qz 0,Qz 0,Qz 0,Qz 0,Qz 0,Qz 0,Qz 0,Qz 0,Qz 0,Qz 0,Qz 0,Qz 0,Qz 0,Qz 0] 26) fun b3 w4=>Qs w4 b1 (0+0) fun s5=>Qu' 146 #[Qy s5] w4 fun s8 w7=>#[Qy s8].size=1/\StoreP w7 b1 (0+0) [Qy s8] fun w9=>Qs w9 b1 (0+0) fun s10=>Ql (α:=Int) 0 w9 fun y11 b13 n14 w15=>(F78j1 R b1 b3 s10 y11 b13 n14 w15)):Cw 78 #[Value.agg { toList:=Qy t0.fst::t0.2 }] w R:=
 ckF Tryz.func78 (nd (nd (.node (nd (.loop [(12,oi)] (rg [3,4,12,33]) (nd (nd (.node (nd (.draw (sts [0,1,2,3,4,5,6,7,9,10] (.ac 8 (rg [0,5,9,10]) (.ac 11 (rg [0,5]) (sts [12,13] (.ac 14 [5,4,3] (sts [15,16] (.ac 17 [] .fin .non)) .non)) .non) .non)))) .nil))))) .nil))) h (by kernel_rfl) (by kernel_rfl)
theorem F50_ok(t0:Sl×List Value)(w:World)(R:RV)(h:AllocP w (Obj.cells { toList:=Qy t0.fst::t0.2 } 26) fun b1 w2=>AllocP w2 (Obj.cells #[Value.slice none 0 0,Qz 0,Qz 0,Qz 0,Qz 0,Qz 0,Qz 0,Qz 0,Qz 0,Qz 0,Qz 0,Qz 0,Qz 0,Qz 0,Qz 0,Qz 0,Qz 0] 26) fun b3 w4=>∃(x5:Sl×List Value),CellsN w4 b1 0 17 (Qy x5.fst::x5.2)/\Cx 78 #[Value.agg { toList:=Qy x5.fst::x5.2 }] w4 fun v8 w9=>∃(x10:Sl×List Value),v8=Value.agg { toList:=Qy x10.fst::x10.2 }/\(Array.mk (Qy x10.fst::x10.2 )).size=17/\StoreP w9 b1 0 (Qy x10.fst::x10.2) fun w11=>#[Qz 0,Qz 0,Qz 0,Qz 0,Qz 0,Qz 0,Qz 0,Qz 0,Qz 0,Qz 0,Qz 0,Qz 0,Qz 0,Qz 0,Qz 0,Qz 0].size=16/\StoreP w11 b1 (0+1) [Qz 0,Qz 0,Qz 0,Qz 0,Qz 0,Qz 0,Qz 0,Qz 0,Qz 0,Qz 0,Qz 0,Qz 0,Qz 0,Qz 0,Qz 0,Qz 0] fun w12=>∃(x13:Sl×List Value),CellsN w12 b1 0 17 (Qy x13.fst::x13.2)/\(Array.mk (Qy x13.fst::x13.2 )).size=17/\StoreP w12 b3 0 (Qy x13.fst::x13.2) fun w16=>∃(x17:Sl×List Value),CellsN w16 b3 0 17 (Qy x17.fst::x17.2)/\R (Value.agg { toList:=Qy x17.fst::x17.2 }) w16):Cw 50 #[Value.agg { toList:=Qy t0.fst::t0.2 }] w R:=
 ckF Tryz.func50 .nil h (by kernel_rfl) (by kernel_rfl)
def F146(t0:Sl)(w:World)(R:RV):Prop:=IfB t0.1.isNone (R (Value.slice none 0 0) w) (0*5<=16777216/\AllocP w (Obj.cells #[] 49) fun b1 w2=>∃(l3:List Value),ReadC w2 t0.1 (t0.2*5) l3/\AppendP tt49 49 w2 (some ⟨b1,0,none⟩) 0 0 t0.2 l3 fun s4 w5=>R (Qy s4) w5)
theorem F146_ok(t0:Sl)(w:World)(R:RV)(h:F146 t0 w R):Cw 146 #[Qy t0] w R:=
 ckF Tryz.func146 .nil h (by kernel_rfl) (by kernel_rfl)
def F195(t0:Sl)(w:World)(R:RV):Prop:=IfB t0.1.isNone (R (Value.slice none 0 0) w) (0*2<=16777216/\AllocP w (Obj.cells #[] 99) fun b1 w2=>∃(l3:List Value),ReadC w2 t0.1 (t0.2*2) l3/\AppendP tt99 99 w2 (some ⟨b1,0,none⟩) 0 0 t0.2 l3 fun s4 w5=>R (Qy s4) w5)
theorem F195_ok(t0:Sl)(w:World)(R:RV)(h:F195 t0 w R):Cw 195 #[Qy t0] w R:=
 ckF Tryz.func195 .nil h (by kernel_rfl) (by kernel_rfl)
def F196(t0:Sl)(w:World)(R:RV):Prop:=IfB t0.1.isNone (R (Value.slice none 0 0) w) (0*9<=16777216/\AllocP w (Obj.cells #[] 95) fun b1 w2=>∃(l3:List Value),ReadC w2 t0.1 (t0.2*9) l3/\AppendP tt95 95 w2 (some ⟨b1,0,none⟩) 0 0 t0.2 l3 fun s4 w5=>R (Qy s4) w5)
theorem F196_ok(t0:Sl)(w:World)(R:RV)(h:F196 t0 w R):Cw 196 #[Qy t0] w R:=
 ckF Tryz.func196 .nil h (by kernel_rfl) (by kernel_rfl)
def F197(t0:Sl)(w:World)(R:RV):Prop:=IfB t0.1.isNone (R (Value.slice none 0 0) w) (0*5<=16777216/\AllocP w (Obj.cells #[] 217) fun b1 w2=>∃(l3:List Value),ReadC w2 t0.1 (t0.2*5) l3/\AppendP tt217 217 w2 (some ⟨b1,0,none⟩) 0 0 t0.2 l3 fun s4 w5=>R (Qy s4) w5)
theorem F197_ok(t0:Sl)(w:World)(R:RV)(h:F197 t0 w R):Cw 197 #[Qy t0] w R:=
 ckF Tryz.func197 .nil h (by kernel_rfl) (by kernel_rfl)
theorem flatPut{α:Type}{f:α->List Value}{sz:Nat}(hf:∀x,(f x).length=sz){x y:α}{k:Nat}{v:Value}(hk:k<sz)(hy:f y=(f x).set k v):∀ {l:List α}{i:Nat},l[i]? =some x->(l.flatMap f).set (i*sz+k) v=(l.set i y).flatMap f
 | [],_,h=>by cases h
 | a::l,0,h=>by
  cases h
  rw[List.set_cons_zero,List.flatMap_cons,List.flatMap_cons,Nat.zero_mul,Nat.zero_add,List.set_append_left _ _ (by rw[hf];exact hk),hy]
 | a::l,i+1,h=>by
  rw[List.set_cons_succ,List.flatMap_cons,List.flatMap_cons,List.set_append_right _ _ (by rw[hf,Nat.add_mul];omega),hf,Nat.add_mul,show i*sz+1*sz+k-sz=i*sz+k by omega,flatPut hf hk hy (l:=l) h]
theorem putOne{cs:List Value}{o:Nat}{v:Value}(h:o<cs.length):cs.take o++[v]++cs.drop (o+1)=cs.set o v:=by
 rw[List.set_eq_take_append_cons_drop,if_pos h];simp
theorem c146{w:World}{t:Sl}{cs:List Value}(h:Rd w t 5 cs)(h1:One cs)(hl:t.n<=1000000):Cw 146 #[slV t] w fun v w'=>∃t',v=slV t'/\OwS w' t' 5 cs/\t'.n=t.n/\Ext w w'/\∀i∈blk t',w.heap.size<=i:=by
 refine F146_ok t w _ ?_
 have e:∀R,F146 t w R=CloneF tt49 49 5 t w R:=fun _=>rfl
 rw[e]
 refine CloneF_of h rfl rfl h1 ⟨by omega,Nat.le_trans (Nat.mul_le_mul (show 2*t.n<=2000000 by omega) (show _<=1000 by decide)) (by decide)⟩ (fun s' w' h1 h2 h3 h4=>⟨s',rfl,h1,h2,h3,h4⟩) fun hp=>?_
 have h2:=h.2
 rw[hp] at h2
 have:cs=[]:=h2
 have h3:=h.1
 rw[this] at h3
 simp at h3;omega
theorem c195{w:World}{t:Sl}{cs:List Value}(h:Rd w t 2 cs)(h1:One cs)(hl:t.n<=1000000):Cw 195 #[slV t] w fun v w'=>∃t',v=slV t'/\OwS w' t' 2 cs/\t'.n=t.n/\Ext w w'/\∀i∈blk t',w.heap.size<=i:=by
 refine F195_ok t w _ ?_
 have e:∀R,F195 t w R=CloneF tt99 99 2 t w R:=fun _=>rfl
 rw[e]
 refine CloneF_of h rfl rfl h1 ⟨by omega,Nat.le_trans (Nat.mul_le_mul (show 2*t.n<=2000000 by omega) (show _<=1000 by decide)) (by decide)⟩ (fun s' w' h1 h2 h3 h4=>⟨s',rfl,h1,h2,h3,h4⟩) fun hp=>?_
 have h2:=h.2
 rw[hp] at h2
 have:cs=[]:=h2
 have h3:=h.1
 rw[this] at h3
 simp at h3;omega
theorem c196{w:World}{t:Sl}{cs:List Value}(h:Rd w t 9 cs)(h1:One cs)(hl:t.n<=1000000):Cw 196 #[slV t] w fun v w'=>∃t',v=slV t'/\OwS w' t' 9 cs/\t'.n=t.n/\Ext w w'/\∀i∈blk t',w.heap.size<=i:=by
 refine F196_ok t w _ ?_
 have e:∀R,F196 t w R=CloneF tt95 95 9 t w R:=fun _=>rfl
 rw[e]
 refine CloneF_of h rfl rfl h1 ⟨by omega,Nat.le_trans (Nat.mul_le_mul (show 2*t.n<=2000000 by omega) (show _<=1000 by decide)) (by decide)⟩ (fun s' w' h1 h2 h3 h4=>⟨s',rfl,h1,h2,h3,h4⟩) fun hp=>?_
 have h2:=h.2
 rw[hp] at h2
 have:cs=[]:=h2
 have h3:=h.1
 rw[this] at h3
 simp at h3;omega
theorem c197{w:World}{t:Sl}{cs:List Value}(h:Rd w t 5 cs)(h1:One cs)(hl:t.n<=1000000):Cw 197 #[slV t] w fun v w'=>∃t',v=slV t'/\OwS w' t' 5 cs/\t'.n=t.n/\Ext w w'/\∀i∈blk t',w.heap.size<=i:=by
 refine F197_ok t w _ ?_
 have e:∀R,F197 t w R=CloneF tt217 217 5 t w R:=fun _=>rfl
 rw[e]
 refine CloneF_of h rfl rfl h1 ⟨by omega,Nat.le_trans (Nat.mul_le_mul (show 2*t.n<=2000000 by omega) (show _<=1000 by decide)) (by decide)⟩ (fun s' w' h1 h2 h3 h4=>⟨s',rfl,h1,h2,h3,h4⟩) fun hp=>?_
 have h2:=h.2
 rw[hp] at h2
 have:cs=[]:=h2
 have h3:=h.1
 rw[this] at h3
 simp at h3;omega
theorem c147{w:World}{t:Sl}{l:List StpD}(h:StsR w t l)(hl:l.length<=1000)(hc:∀s∈l,s.1.length<=1000/\s.2.length<=1000):
  Cw 147 #[slV t] w fun v w'=>∃t',v=slV t'/\RS (fun j=>w.heap.size<=j) w' tyStp t' l/\Ext w w':=by
 obtain⟨ss,hsl,hrd,hss⟩:=RS.steps (rep_old (by decide) h)
 have hn:=h.n
 refine F147_ok t w _ ((c195 hrd (stC_all ss) (by omega)).use ?_)
 rintro _ w2 ⟨t3,rfl,ho,htn,e2,hb⟩
 have hbl:∀j∈blk t3,j<w2.heap.size:=ho.lt
 refine⟨t3,rfl,fun m x W=>∃(i:Nat)(zs:List (Sl×Sl)),i<=l.length/\m+i=l.length/\x=(i:Int)/\zs.length=l.length/\OwS W t3 2 (zs.flatMap stC)/\(∀(k:Nat) y x,zs[k]? =some y->l[k]? =some x->StpN (fun j=>j∉blk t3/\(k<i->w.heap.size<=j)) W y x)/\Ch (fun j=>j∈blk t3) w2 W,⟨l.length,0,ss,Nat.zero_le _,rfl,rfl,hsl,ho,fun k y x hy hx=>?_,Ch.refl _ _⟩,?_⟩
 ·obtain⟨g1,g2⟩:=hss k y x hy hx
  have hA:∀j,j<w.heap.size->j∉blk t3/\(k<0->w.heap.size<=j):=fun j hj=>⟨fun h=>by have:=hb j h;omega,fun h=>by omega⟩
  exact⟨(g1.ch e2 fun _ _=>id).mono hA,(g2.ch e2 fun _ _=>id).mono hA⟩
 rintro m _ W g ⟨i,zs,hi,hmi,rfl,hzl,hoz,hzs,hC⟩
 unfold F147j1
 refine IfB.dec (fun hlt=>?_) fun hge=>⟨t3,rfl,RS.mkSteps hzl hoz (by omega) (fun k y x hy hx=>?_) hb,e2.chN hC fun j hj=>hb j hj⟩
 ·have hi':i<l.length:=by omega
  have hx:l[i]? =some l[i]:=List.getElem?_eq_getElem hi'
  have hxm:l[i]∈l:=List.getElem_mem hi'
  have hy:zs[i]? =some (zs[i]'(by omega)):=List.getElem?_eq_getElem (by omega)
  generalize l[i]=x at hx hxm
  generalize zs[i]'_=y at hy
  obtain⟨g1,g2⟩:=hzs i y x hy hx
  obtain⟨hx1,hx2⟩:=hc x hxm
  obtain⟨b,o,hp,hcell⟩:=hoz.rd.elem (i:=i) (by omega) (by omega) (flatGet stC_len hy)
  refine⟨b,o,hp,⟨by omega,hlt⟩,y,by rw[Int.toNat_natCast];exact hcell,fun b14 w15 a15=>⟨rfl,store_all (vs:=stC y) a15.new rfl (stC_one y) fun w16 u16=>?_⟩⟩
  have ed:=extDrew w16
  have e16:Ext W w16.drew:=(Ext.fresh a15 u16).trans ed
  obtain⟨ca,ra,oa,ma⟩:=SlR.copy (g1.all.ext e16) (by decide)
  have na:=g1.all.n
  have nb:=g2.all.n
  refine⟨y.1,boxAt (cs:=stC y) u16.new 0 ed,y.2,boxAt (cs:=stC y) u16.new 1 ed,(c196 ra oa (by omega)).use ?_⟩
  rintro _ w20 ⟨s21,rfl,ho21,hn21,e20,hb21⟩
  obtain⟨cb,rb,ob,mb⟩:=SlR.copy ((g2.all.ext e16).ext e20) (by decide)
  refine⟨s21,rfl,boxAt (cs:=stC y) u16.new 1 (ed.trans e20),(c197 rb ob (by omega)).use ?_⟩
  rintro _ w23 ⟨s24,rfl,ho24,hn24,e23,hb24⟩
  have e23':Ext W w23:=(e16.trans e20).trans e23
  obtain⟨b',hp'⟩:=hoz.ptr (by omega)
  have hbb:b'∈blk t3:=by simp[blk,hp']
  have hz2:(zs.flatMap stC).length=l.length*2:=by rw[flatLen stC_len,hzl]
  refine⟨s24,rfl,b',0,hp',⟨by omega,hlt⟩,rfl,?_⟩
  rw[Int.toNat_natCast,Nat.zero_add]
  have zW:=e16.size;have z20:=e20.size;have z23:=e23.size;have zC:=hC.size;have z2:=e2.size
  refine(hoz.ext e23').store (vs:=stC (s21,s24)) hp' (by rw[stC_len];omega) (stC_one _) fun w27 ho27 hC27=>⟨rfl,m-1,by omega,i+1,zs.set i (s21,s24),hi',by omega,by rw[wrap_of (by omega) (by omega)];rfl,by rw[List.length_set,hzl],?_,fun k y' x' hy' hx'=>?_,(hC.trans (e23'.mono fun _ _ h=>h.elim)).trans (hC27.mono fun j _ hj=>by rw[hj];exact hbb)⟩
  ·rw[stC_len,flatSet stC_len (by omega)] at ho27
   exact ho27
  ·have keep:∀ {A:Nat->Prop}{e:Ty}{s:Sl}{q:List e.den},(∀j,A j->j∉blk t3)->RS A w23 e s q->RS A w27 e s q:=fun hA h=>RS.ch h hC27 fun j hj he=>hA j hj (by rw[he];exact hbb)
   rw[List.getElem?_set] at hy'
   by_cases hk:i=k
   ·subst hk
    rw[if_pos rfl,if_pos (by omega)] at hy'
    cases hy'
    rw[hx] at hx';cases hx'
    have n21:∀j∈blk s21,j∉blk t3/\(i<i+1->w.heap.size<=j):=fun j hj=>by
     have:=hb21 j hj
     exact⟨fun h=>by have:=hbl j h;omega,fun _=>by omega⟩
    have n24:∀j∈blk s24,j∉blk t3/\(i<i+1->w.heap.size<=j):=fun j hj=>by
     have:=hb24 j hj
     exact⟨fun h=>by have:=hbl j h;omega,fun _=>by omega⟩
    exact⟨keep (fun j hj=>hj.1) (ma _ w23 s21 (ho21.ext e23) hn21 n21),keep (fun j hj=>hj.1) (mb _ w23 s24 ho24 hn24 n24)⟩
   ·rw[if_neg hk] at hy'
    obtain⟨q1,q2⟩:=hzs k y' x' hy' hx'
    have up:∀j,(j∉blk t3/\(k<i->w.heap.size<=j))->j∉blk t3/\(k<i+1->w.heap.size<=j):=fun j hj=>⟨hj.1,fun h=>hj.2 (by omega)⟩
    exact⟨keep (fun j hj=>hj.1) ((q1.ch e23' fun _ _=>id).mono up),keep (fun j hj=>hj.1) ((q2.ch e23' fun _ _=>id).mono up)⟩
 ·have hk:k<l.length:=get_lt hx
  obtain⟨q1,q2⟩:=hzs k y x hy hx
  exact⟨q1.mono fun j hj=>hj.2 (by omega),q2.mono fun j hj=>hj.2 (by omega)⟩
theorem cxC_len{w:World}{v:CatV}{x:CatD}(h:CatM w v x):(cxC v).length=17:=by rw[List.length_cons,h.br,List.length_map,h.b16]
theorem cxC_one{w:World}{v:CatV}{x:CatD}(h:CatM w v x):One (cxC v):=by
 intro y hy
 rcases List.mem_cons.1 hy with rfl|hy
 ·rfl
 ·rw[h.br] at hy;obtain⟨n,_,rfl⟩:=List.mem_map.1 hy;rfl
theorem c78{w:World}{v:CatV}{x:CatD}(h:CatM w v x)(hk:CatOk x):
  Cw 78 #[cxV v] w fun r w'=>∃s:Sl,r=cxV (s,v.2)/\RS (fun j=>w.heap.size<=j) w' tyCls s x.1/\Ext w w':=by
 have h17:=cxC_len h
 have h1:=cxC_one h
 have hn:=h.cl.n
 have h4:=hk.n4
 obtain⟨vs,hvl,hrd,hvs⟩:=RS.classes (rep_old (by decide) h.cl)
 refine F78_ok v w _ fun b1 w2 a2 b3 w4 a4=>⟨v.1,boxAt (cs:=cxC v) a2.new 0 (a4.ch _),?_⟩
 have e2:Ext w w2:=a2.ch _
 have e4:Ext w2 w4:=a4.ch _
 have E4:=e2.trans e4
 have p2:=a2.here;have z2:=a2.size;have p4:=a4.here;have z4:=a4.size
 refine(c146 (hrd.ext E4) (flatOne clsC_one _) (by omega)).use ?_
 rintro _ w7 ⟨s8,rfl,ho,hsn,e7,hb⟩
 have z7:=e7.size
 refine⟨s8,rfl,rfl,storeC (e7.at (e4.at a2.new)) (by simp) (by simp) (by intro y hy;rw[List.mem_singleton.1 hy];rfl) fun w9 h9 c9=>?_⟩
 have hbl:∀j∈blk s8,j<w7.heap.size:=ho.lt
 have hb1:b1∉blk s8:=fun hj=>by have:=hb b1 hj;omega
 have hb3:b3∉blk s8:=fun hj=>by have:=hb b3 hj;omega
 have ho9:=ho.ch c9 fun j hj e=>hb1 (e ▸ hj)
 have E9:Ext w w9:=(E4.trans e7).chN c9 fun j hj=>by omega
 have B3:=c9.at (e7.at a4.new) (by omega)
 have H9:w9.heap[b1]? =some (.cells (cxC (s8,v.2)).toArray 26 (0,0)):=by
  rw[h9]
  show some (Obj.cells (spliceL (slV v.1::v.2) 0 [slV s8]).toArray _ _)=_
  simp[spliceL]
 have z9:=c9.size
 refine⟨s8,boxAt (cs:=cxC (s8,v.2)) H9 0 (Ch.refl _ _),fun m z W=>∃(i:Nat)(ys:List ClsV),i<=x.1.length/\m+i=x.1.length/\z=(i:Int)/\ys.length=x.1.length/\OwS W s8 5 (ys.flatMap clsC)/\(∀(k:Nat) y q,ys[k]? =some y->x.1[k]? =some q->ClsN (fun j=>j∉blk s8/\j≠b3/\(k<i->w.heap.size<=j)) W y q)/\Ch (fun j=>j∈blk s8) w9 W,⟨x.1.length,0,vs,Nat.zero_le _,rfl,rfl,hvl,ho9,fun k y q hy hq=>?_,Ch.refl _ _⟩,?_⟩
 ·obtain⟨g1,g2,g3,g4,g5,g6⟩:=(hvs k y q hy hq).ext E9
  have hA:∀j,j<w.heap.size->j∉blk s8/\j≠b3/\(k<0->w.heap.size<=j):=fun j hj=>⟨fun h=>by have:=hb j h;omega,by omega,fun h=>by omega⟩
  exact⟨g1,g2,g3.mono hA,g4.mono hA,g5,g6⟩
 rintro m _ W g ⟨i,ys,hi,hmi,rfl,hyl,hoy,hys,hC⟩
 unfold F78j1
 have B1:=hC.at H9 hb1
 have zC:=hC.size
 refine IfB.dec (fun hlt=>?_) fun hge=>?_
 ·have hi':i<x.1.length:=by omega
  have hx:x.1[i]? =some x.1[i]:=List.getElem?_eq_getElem hi'
  have hxm:x.1[i]∈x.1:=List.getElem_mem hi'
  have hy:ys[i]? =some (ys[i]'(by omega)):=List.getElem?_eq_getElem (by omega)
  have hqo:=hk.cls _ hxm
  generalize x.1[i]=q at hx hxm hqo
  generalize ys[i]'_=y at hy
  have hN:=hys i y q hy hx
  obtain⟨b,hp⟩:=hoy.ptr (by omega)
  have hbb:b∈blk s8:=by simp[blk,hp]
  obtain⟨b',hp',hcell⟩:=hoy.elem (i:=i) (by omega) (flatGet clsC_len hy)
  rw[hp] at hp';cases hp'
  have hbn:(0:Int)<=(i:Int)/\(i:Int)<(s8.n:Int):=⟨by omega,hlt⟩
  refine⟨b,0,hp,hbn,y,by rw[Int.toNat_natCast,Nat.zero_add];exact hcell,fun b21 w22 a22=>⟨rfl,store_all (vs:=clsC y) a22.new rfl (clsC_one y) fun w23 u23=>?_⟩⟩
  have ed:=extDrew w23
  have e23:Ext W w23.drew:=(Ext.fresh a22 u23).trans ed
  have z23:=e23.size
  have C1:=fun{V:World} (e:Ext w23.drew V)=>boxAt (cs:=cxC (s8,v.2)) B1 0 (e23.trans e)
  have C2:=fun{V:World} (k:Nat) (e:Ext w23.drew V)=>boxAt (cs:=clsC y) u23.new k (ed.trans e)
  refine⟨s8,C1 (Ch.refl _ _),s8,C1 (Ch.refl _ _),y.2.2.1,C2 2 (Ch.refl _ _),y.2.2.2.1,C2 3 (Ch.refl _ _),(c147 ((hN.st.all).ext e23) (by have:=hqo.l4;omega) fun s hs=>?_).use ?_⟩
  ·have:=(hqo.st s hs).1.l8;have:=(hqo.st s hs).2.l4;omega
  rintro _ w29 ⟨s30,rfl,hr30,e29⟩
  have z29:=e29.size
  refine⟨s30,rfl,C2 3 e29,C1 e29,C1 e29,(c147 (((hN.co.all).ext e23).ext e29) (by have:=hqo.l4;have:=hqo.cl;omega) fun s hs=>?_).use ?_⟩
  ·have hco:=hqo.co s hs
   have h2:=hco.2.l4
   rcases hco.1 with h1|⟨h1,_⟩
   ·rw[h1];exact⟨by simp,by omega⟩
   ·have:=h1.l8;omega
  rintro _ w32 ⟨s33,rfl,hr33,e32⟩
  have z32:=e32.size
  have e32':Ext W w32:=(e23.trans e29).trans e32
  have hyz:(ys.flatMap clsC).length=x.1.length*5:=by rw[flatLen clsC_len,hyl]
  have one:∀s:Sl,One [slV s]:=fun s v hv=>by rw[List.mem_singleton.1 hv];rfl
  refine⟨s33,rfl,C1 (e29.trans e32),C1 (e29.trans e32),b,0,hp,hbn,rfl,?_⟩
  rw[Int.toNat_natCast,Nat.zero_add]
  have h5:i*5+5<=x.1.length*5:=by omega
  have ho32:=hoy.ext e32'
  refine ho32.store (vs:=[slV s30]) hp (by simp;omega) (one _) fun w36 ho36 hC36=>?_
  rw[List.length_singleton,putOne (by omega),flatPut clsC_len (y:=(y.1,y.2.1,s30,y.2.2.2.1,y.2.2.2.2)) (by omega) rfl hy] at ho36
  have hy':(ys.set i (y.1,y.2.1,s30,y.2.2.2.1,y.2.2.2.2))[i]? =some (y.1,y.2.1,s30,y.2.2.2.1,y.2.2.2.2):=by rw[List.getElem?_set,if_pos rfl,if_pos (by omega)]
  have B36:w36.cell? ⟨b1,0+0,none⟩=some (slV s8):=boxAt (cs:=cxC (s8,v.2)) (hC36.at (e32'.at B1) fun e=>hb1 (e ▸ hbb)) 0 (Ch.refl _ _)
  refine⟨B36,b,0,hp,hbn,rfl,?_⟩
  rw[Nat.zero_add]
  refine ho36.store (vs:=[slV s33]) hp (by simp;omega) (one _) fun w39 ho39 hC39=>?_
  have hyz':((ys.set i (y.1,y.2.1,s30,y.2.2.2.1,y.2.2.2.2)).flatMap clsC).length=x.1.length*5:=by rw[flatLen clsC_len,List.length_set,hyl]
  rw[List.length_singleton,putOne (by omega),flatPut clsC_len (y:=(y.1,y.2.1,s30,s33,y.2.2.2.2)) (by omega) rfl hy',List.set_set] at ho39
  have hCC:Ch (fun j=>j∈blk s8) w32 w39:=(hC36.trans hC39).mono fun j _ hj=>by rw[hj];exact hbb
  refine⟨rfl,m-1,by omega,i+1,_,hi',by omega,by rw[wrap_of (by omega) (by omega)];rfl,by rw[List.length_set,hyl],ho39,fun k y' q' hy' hq'=>?_,(hC.trans (e32'.mono fun _ _ h=>h.elim)).trans hCC⟩
  rw[List.getElem?_set] at hy'
  by_cases hk':i=k
  ·subst hk'
   rw[if_pos rfl,if_pos (by omega)] at hy'
   cases hy'
   rw[hx] at hq';cases hq'
   have n1:∀j,w23.drew.heap.size<=j->j∉blk s8/\j≠b3/\(i<i+1->w.heap.size<=j):=fun j hj=>⟨fun h=>by have:=hbl j h;omega,by omega,fun _=>by omega⟩
   have n2:∀j,w29.heap.size<=j->j∉blk s8/\j≠b3/\(i<i+1->w.heap.size<=j):=fun j hj=>⟨fun h=>by have:=hbl j h;omega,by omega,fun _=>by omega⟩
   exact⟨hN.nm,hN.ar,((hr30.ch e32 fun _ _=>id).mono n1).ch hCC fun j hj=>hj.1,(hr33.mono n2).ch hCC fun j hj=>hj.1,hN.re,hN.sz⟩
  ·rw[if_neg hk'] at hy'
   obtain⟨g1,g2,g3,g4,g5,g6⟩:=((hys k y' q' hy' hq').ext e32').ch hCC fun j hj=>hj.1
   have up:∀j,(j∉blk s8/\j≠b3/\(k<i->w.heap.size<=j))->j∉blk s8/\j≠b3/\(k<i+1->w.heap.size<=j):=fun j hj=>⟨hj.1,hj.2.1,fun h=>hj.2.2 (by omega)⟩
   exact⟨g1,g2,g3.mono up,g4.mono up,g5,g6⟩
 ·have B3':=hC.at B3 hb3
  have L17:(cxC (s8,v.2)).length=17:=h17
  have O17:One (cxC (s8,v.2)):=fun y hy=>by
   rcases List.mem_cons.1 hy with rfl|hy
   ·rfl
   ·exact h1 y (List.mem_cons_of_mem _ hy)
  refine⟨(s8,v.2),CellsN.mk L17 (boxAll (cs:=cxC (s8,v.2)) B1 (Ch.refl _ _)),L17,store_all (vs:=cxC (s8,v.2)) B3' L17.symm O17 fun w44 u44=>⟨(s8,v.2),CellsN.mk L17 (boxAll (cs:=cxC (s8,v.2)) u44.new (Ch.refl _ _)),s8,rfl,?_,?_⟩⟩
  ·have hC':=(RS.mkClasses (A:=fun j=>j≠b3/\w.heap.size<=j) hyl hoy (by omega) (fun q hq=>by have:=(hk.cls q hq).a0;have:=(hk.cls q hq).a3;omega) (fun k y q hy hq=>?_) fun j hj=>⟨fun e=>hb3 (e ▸ hj),by have:=hb j hj;omega⟩)
   ·exact(hC'.ch u44.ch fun j hj=>hj.1).mono fun j hj=>hj.2
   ·obtain⟨g1,g2,g3,g4,g5,g6⟩:=hys k y q hy hq
    exact⟨g1,g2,g3.mono fun j hj=>⟨hj.2.1,hj.2.2 (by have:=get_lt hq;omega)⟩,g4.mono fun j hj=>⟨hj.2.1,hj.2.2 (by have:=get_lt hq;omega)⟩,g5,g6⟩
  ·exact(E9.chN hC fun j hj=>by have:=hb j hj;omega).chN u44.ch fun j hj=>by omega
theorem closedRS{w:World}{v:CatV}{x:CatD}(h:CatM w v x)(hk:CatOk x):
  Cw 50 #[cxV v] w fun r w'=>∃s:Sl,r=cxV (s,(closedD x).2.map iv)/\RS (fun j=>w.heap.size<=j) w' tyCls s x.1/\Ext w w':=by
 have h17:=cxC_len h
 have h1:=cxC_one h
 refine F50_ok v w _ fun b1 w2 a2 b3 w4 a4=>⟨v,CellsN.mk h17 (boxAll (cs:=cxC v) a2.new (a4.ch _)),?_⟩
 have e2:Ext w w2:=a2.ch _
 have e4:Ext w2 w4:=a4.ch _
 have E4:=e2.trans e4
 have p2:=a2.here;have z2:=a2.size;have p4:=a4.here;have z4:=a4.size
 refine(c78 (h.ext E4) hk).use ?_
 rintro _ w9 ⟨s,rfl,hR9,e9⟩
 have hM9:CatM w9 (s,v.2) x:=⟨hR9.all,h.br,h.b16,h.brr⟩
 have z9:=e9.size
 have l17:(cxC (s,v.2)).length=17:=h17
 refine⟨(s,v.2),rfl,h17,store_all (vs:=cxC (s,v.2)) (e9.at (e4.at a2.new)) (h17.trans l17.symm) (cxC_one hM9) fun w11 u11=>?_⟩
 have B3:=u11.at (e9.at a4.new) (by omega)
 have E9:=E4.trans e9
 have z9':=E9.size
 have hR11:=hR9.ch u11.ch fun j hj e=>by omega
 have e11:Ext w w11:=E9.chN u11.ch fun j e=>by omega
 have z11:=u11.size
 have hz16:(closedD x).2.map iv=List.replicate 16 (iv 0):=by rfl
 have one16:One ((closedD x).2.map iv):=one_ints _
 refine⟨rfl,storeC (vs:=(closedD x).2.map iv) u11.new (by rw[hz16];intro e;cases e) (by rw[List.size_toArray,l17,hz16];decide) one16 fun w18 h18 c18=>?_⟩
 have H18:w18.heap[b1]? =some (.cells (cxC (s,(closedD x).2.map iv)).toArray 26 (0,0)):=by
  rw[h18]
  congr 3
  show spliceL (slV s::v.2) (0+1) ((closedD x).2.map iv)=slV s::(closedD x).2.map iv
  have hv:v.2.length=16:=by have:=h17;rw[List.length_cons] at this;omega
  unfold spliceL
  rw[hz16,List.length_replicate,List.drop_of_length_le (by rw[List.length_cons];omega)]
  simp
 have q17:(cxC (s,(closedD x).2.map iv)).length=17:=by rfl
 have qone:One (cxC (s,(closedD x).2.map iv)):=fun y hy=>by
  rcases List.mem_cons.1 hy with rfl|hy
  ·rfl
  ·exact one16 y hy
 have z18:=c18.size
 have hR18:=hR11.ch c18 fun j hj e=>by omega
 refine⟨(s,(closedD x).2.map iv),CellsN.mk q17 (boxAll (cs:=cxC (s,(closedD x).2.map iv)) H18 (Ch.refl _ _)),q17,store_all (vs:=cxC (s,(closedD x).2.map iv)) (c18.at B3 (by omega)) q17.symm qone fun w22 u22=>⟨(s,(closedD x).2.map iv),CellsN.mk q17 (boxAll (cs:=cxC (s,(closedD x).2.map iv)) u22.new (Ch.refl _ _)),s,rfl,(hR18.ch u22.ch fun j hj e=>by omega).mono fun j hj=>by omega,?_⟩⟩
 exact(e11.chN c18 fun j e=>by omega).chN u22.ch fun j e=>by omega
def F96(t0:Sl)(w:World)(R:RV):Prop:=IfB t0.1.isNone (R (Value.slice none 0 0) w) (0*6<=16777216/\AllocP w (Obj.cells #[] 53) fun b1 w2=>∃(l3:List Value),ReadC w2 t0.1 (t0.2*6) l3/\AppendP tt53 53 w2 (some ⟨b1,0,none⟩) 0 0 t0.2 l3 fun s4 w5=>R (Qy s4) w5)
theorem F96_ok(t0:Sl)(w:World)(R:RV)(h:F96 t0 w R):Cw 96 #[Qy t0] w R:=
 ckF Tryz.func96 .nil h (by kernel_rfl) (by kernel_rfl)
theorem c96{w:World}{t:Sl}{xs:List NdV}(h:Rd w t 6 (xs.flatMap nC))(hl:xs.length<=1000000):Cw 96 #[slV t] w fun v w'=>∃t',v=slV t'/\OwS w' t' 6 (xs.flatMap nC)/\Ext w w'/\∀i∈blk t',w.heap.size<=i:=by
 have hn:=rdN nC_len (by omega) h
 refine F96_ok t w _ ?_
 have e:∀R,F96 t w R=CloneF tt53 53 6 t w R:=fun _=>rfl
 rw[e]
 refine CloneF_of h rfl rfl (flatOne nC_one _) ⟨by omega,?_⟩ (fun s' w' h1 h2 h3 h4=>⟨s',rfl,h1,h3,h4⟩) fun hp=>?_
 ·show 2*t.n*80<=_
  omega
 ·have h2:=h.2
  rw[hp] at h2
  have:xs.flatMap nC=[]:=h2
  have h3:=h.1
  rw[this] at h3
  simp at h3;omega
theorem c120{w:World}{t:Sl}{cs:List Value}(h:Rd w t 1 cs)(h1:One cs)(hl:t.n<=1000000):Cw 120 #[slV t] w fun v w'=>∃t',v=slV t'/\OwS w' t' 1 cs/\t'.n=t.n/\Ext w w'/\∀i∈blk t',w.heap.size<=i:=by
 refine F120_ok t w _ ?_
 have e:∀R,F120 t w R=CloneF tt30 30 1 t w R:=fun _=>rfl
 rw[e]
 refine CloneF_of h rfl rfl h1 ⟨by omega,Nat.le_trans (Nat.mul_le_mul (show 2*t.n<=2000000 by omega) (show _<=1000 by decide)) (by decide)⟩ (fun s' w' h1 h2 h3 h4=>⟨s',rfl,h1,h2,h3,h4⟩) fun hp=>?_
 have h2:=h.2
 rw[hp] at h2
 have:cs=[]:=h2
 have h3:=h.1
 rw[this] at h3
 simp at h3;omega
theorem c121{w:World}{t:Sl}{cs:List Value}(h:Rd w t 2 cs)(h1:One cs)(hl:t.n<=1000000):Cw 121 #[slV t] w fun v w'=>∃t',v=slV t'/\OwS w' t' 2 cs/\t'.n=t.n/\Ext w w'/\∀i∈blk t',w.heap.size<=i:=by
 refine F121_ok t w _ ?_
 have e:∀R,F121 t w R=CloneF tt147 147 2 t w R:=fun _=>rfl
 rw[e]
 refine CloneF_of h rfl rfl h1 ⟨by omega,Nat.le_trans (Nat.mul_le_mul (show 2*t.n<=2000000 by omega) (show _<=1000 by decide)) (by decide)⟩ (fun s' w' h1 h2 h3 h4=>⟨s',rfl,h1,h2,h3,h4⟩) fun hp=>?_
 have h2:=h.2
 rw[hp] at h2
 have:cs=[]:=h2
 have h3:=h.1
 rw[this] at h3
 simp at h3;omega
theorem c176{w:World}{t:Sl}{cs:List Value}(h:Rd w t 2 cs)(h1:One cs)(hl:t.n<=1000000):Cw 176 #[slV t] w fun v w'=>∃t',v=slV t'/\OwS w' t' 2 cs/\t'.n=t.n/\Ext w w'/\∀i∈blk t',w.heap.size<=i:=by
 refine F176_ok t w _ ?_
 have e:∀R,F176 t w R=CloneF tt101 101 2 t w R:=fun _=>rfl
 rw[e]
 refine CloneF_of h rfl rfl h1 ⟨by omega,Nat.le_trans (Nat.mul_le_mul (show 2*t.n<=2000000 by omega) (show _<=1000 by decide)) (by decide)⟩ (fun s' w' h1 h2 h3 h4=>⟨s',rfl,h1,h2,h3,h4⟩) fun hp=>?_
 have h2:=h.2
 rw[hp] at h2
 have:cs=[]:=h2
 have h3:=h.1
 rw[this] at h3
 simp at h3;omega
structure NdD(P:Nat->Prop)(w:World)(n:Nd):Prop where
 rs:OwS w n.v.2.2.2.2.1 2 (n.rs.flatMap sv)
 ws:OwS w n.v.2.2.2.2.2 2 (n.ws.flatMap sv)
 rp:∀j∈blk n.v.2.2.2.2.1,P j
 wp:∀j∈blk n.v.2.2.2.2.2,P j
 rl:n.rs.length<=1000000
 wl:n.ws.length<=1000000
theorem NdD.ok{P:Nat->Prop}{w:World}{n:Nd}(h:NdD P w n):NdOk w n:=⟨h.rs.rd,h.ws.rd,h.rl,h.wl⟩
theorem NdD.ch{P F:Nat->Prop}{w w':World}{n:Nd}(h:NdD P w n)(hc:Ch F w w')(hF:∀j,P j->¬F j):NdD P w' n:=⟨h.rs.ch hc fun j hj=>hF j (h.rp j hj),h.ws.ch hc fun j hj=>hF j (h.wp j hj),h.rp,h.wp,h.rl,h.wl⟩
theorem NdD.mono{P Q:Nat->Prop}{w:World}{n:Nd}(h:NdD P w n)(hQ:∀j,P j->Q j):NdD Q w n:=⟨h.rs,h.ws,fun j hj=>hQ j (h.rp j hj),fun j hj=>hQ j (h.wp j hj),h.rl,h.wl⟩
theorem NdD.old{P:Nat->Prop}{w:World}{n:Nd}(h:NdD P w n):NdD (fun j=>P j/\j<w.heap.size) w n:=⟨h.rs,h.ws,fun j hj=>⟨h.rp j hj,h.rs.lt j hj⟩,fun j hj=>⟨h.wp j hj,h.ws.lt j hj⟩,h.rl,h.wl⟩
theorem flat_v(hs:List Nd):hs.flatMap nL=(hs.map (·.v)).flatMap nC:=by rw[List.flatMap_map]
theorem c119{w:World}{t:Sl}{hs:List Nd}(hH:Hst w t hs)(hl:hs.length<=1000):
  Cw 119 #[slV t] w fun v w'=>∃t' ns,v=slV t'/\Cg ns hs/\OwS w' t' 6 (ns.flatMap nL)/\(∀n∈ns,NdD (fun j=>w.heap.size<=j/\j∉blk t') w' n)/\Ext w w'/\∀j∈blk t',w.heap.size<=j:=by
 have htn:=hH.n
 have hrd:=hH.rd
 rw[flat_v] at hrd
 refine F119_ok t w _ ((c96 hrd (by rw[List.length_map];omega)).use ?_)
 rintro _ w2 ⟨s3,rfl,ho,e2,hb⟩
 rw[<-flat_v] at ho
 have hn3:=owsN nL_len (by omega) ho
 have hbl:∀j∈blk s3,j<w2.heap.size:=ho.lt
 have z2:=e2.size
 refine⟨s3,rfl,fun m z W=>∃(i:Nat)(zs:List Nd),i<=hs.length/\m+i=hs.length/\z=(i:Int)/\Cg zs hs/\OwS W s3 6 (zs.flatMap nL)/\(∀(k:Nat) y,k<i->zs[k]? =some y->NdD (fun j=>w.heap.size<=j/\j∉blk s3) W y)/\(∀k,i<=k->zs[k]? =hs[k]?)/\Ch (fun j=>j∈blk s3) w2 W,⟨hs.length,0,hs,Nat.zero_le _,rfl,rfl,rfl,ho,fun k y hk=>absurd hk (Nat.not_lt_zero _),fun _ _=>rfl,Ch.refl _ _⟩,?_⟩
 rintro m _ W g ⟨i,zs,hi,hmi,rfl,hcg,hoz,hnew,hsame,hC⟩
 have hzl:=Cg.len hcg
 have eW:Ext w W:=e2.chN hC fun j hj=>hb j hj
 unfold F119j1
 refine IfB.dec (fun hlt=>?_) fun hge=>⟨s3,zs,rfl,hcg,hoz,fun n hn=>?_,eW,hb⟩
 ·have hi':i<hs.length:=by omega
  have hx:hs[i]? =some hs[i]:=List.getElem?_eq_getElem hi'
  have hxm:hs[i]∈hs:=List.getElem_mem hi'
  generalize hs[i]=n at hx hxm
  have hy:zs[i]? =some n:=(hsame i (Nat.le_refl _)).trans hx
  have hnok:=hH.ok n hxm
  obtain⟨b,hp⟩:=hoz.ptr (by omega)
  have hbb:b∈blk s3:=by simp[blk,hp]
  obtain⟨b',hp',hcell⟩:=hoz.elem (i:=i) (by omega) (flatGet nL_len hy)
  rw[hp] at hp';cases hp'
  have hbn:(0:Int)<=(i:Int)/\(i:Int)<(s3.n:Int):=⟨by omega,hlt⟩
  refine⟨b,0,hp,hbn,n.v,by rw[Int.toNat_natCast,Nat.zero_add];exact hcell,boxNd rfl fun b14 w16 hb14 hs16 h16 e16 _=>?_⟩
  have ed:=extDrew w16
  have e16d:=e16.trans ed
  have q:=fun{V:World} (k:Nat) (e:Ext w16.drew V)=>boxAt (cs:=nC n.v) h16 k (ed.trans e)
  have hrn:n.v.2.2.2.2.1.n=n.rs.length:=rdN sv_len (by omega) hnok.rs
  have hwn:n.v.2.2.2.2.2.n=n.ws.length:=rdN sv_len (by omega) hnok.ws
  have hrl:=hnok.rl
  have hwl:=hnok.wl
  have e0:=eW.trans e16d
  refine⟨_,q 4 (Ch.refl _ _),_,q 5 (Ch.refl _ _),(c176 (hnok.rs.ext e0) (flatOne sv_one _) (by omega)).use ?_⟩
  rintro _ w20 ⟨s21,rfl,ho21,hn21,e20,hb21⟩
  refine⟨s21,rfl,q 5 e20,(c176 ((hnok.ws.ext e0).ext e20) (flatOne sv_one _) (by omega)).use ?_⟩
  rintro _ w23 ⟨s24,rfl,ho24,hn24,e23,hb24⟩
  have e23':Ext W w23:=(e16d.trans e20).trans e23
  have z16:=e16d.size;have z20:=e20.size;have z23:=e23.size;have zW:=hC.size;have zw:=eW.size
  have hyz:(zs.flatMap nL).length=hs.length*6:=by rw[flatLen nL_len,hzl]
  have one:∀s:Sl,One [slV s]:=fun s v hv=>by rw[List.mem_singleton.1 hv];rfl
  have h6:i*6+6<=hs.length*6:=by omega
  refine⟨s24,rfl,b,0,hp,hbn,rfl,?_⟩
  rw[Int.toNat_natCast,Nat.zero_add]
  refine(hoz.ext e23').store (vs:=[slV s21]) hp (by simp;omega) (one _) fun w27 ho27 hC27=>?_
  rw[List.length_singleton,putOne (by omega),flatPut nL_len (y:=⟨(n.v.1,n.v.2.1,n.v.2.2.1,n.v.2.2.2.1,s21,n.v.2.2.2.2.2),n.rs,n.ws⟩) (by omega) rfl hy] at ho27
  have hy':(zs.set i ⟨(n.v.1,n.v.2.1,n.v.2.2.1,n.v.2.2.2.1,s21,n.v.2.2.2.2.2),n.rs,n.ws⟩)[i]? =some ⟨(n.v.1,n.v.2.1,n.v.2.2.1,n.v.2.2.2.1,s21,n.v.2.2.2.2.2),n.rs,n.ws⟩:=by rw[List.getElem?_set,if_pos rfl,if_pos (by omega)]
  refine⟨b,0,hp,hbn,rfl,?_⟩
  rw[Nat.zero_add]
  refine ho27.store (vs:=[slV s24]) hp (by simp;omega) (one _) fun w30 ho30 hC30=>?_
  have hyz':((zs.set i ⟨(n.v.1,n.v.2.1,n.v.2.2.1,n.v.2.2.2.1,s21,n.v.2.2.2.2.2),n.rs,n.ws⟩).flatMap nL).length=hs.length*6:=by rw[flatLen nL_len,List.length_set,hzl]
  rw[List.length_singleton,putOne (by omega),flatPut nL_len (y:=⟨(n.v.1,n.v.2.1,n.v.2.2.1,n.v.2.2.2.1,s21,s24),n.rs,n.ws⟩) (by omega) rfl hy',List.set_set] at ho30
  have hCC:Ch (fun j=>j∈blk s3) w23 w30:=(hC27.trans hC30).mono fun j _ hj=>by rw[hj];exact hbb
  refine⟨rfl,m-1,by omega,i+1,_,hi',by omega,by rw[wrap_of (by omega) (by omega)];rfl,?_,ho30,fun k y hk hy2=>?_,fun k hk=>?_,(hC.trans (e23'.mono fun _ _ h=>h.elim)).trans hCC⟩
  ·show List.map dOf _=List.map dOf _
   rw[List.map_set,hcg]
   have:(hs.map dOf)[i]? =some (dOf n):=by rw[List.getElem?_map,hx];rfl
   apply List.ext_getElem?
   intro k
   rw[List.getElem?_set]
   split
   ·rename_i hk;subst hk
    rw[this,if_pos (by rw[List.length_map];omega)];rfl
   ·rfl
  ·rw[List.getElem?_set] at hy2
   by_cases hik:i=k
   ·subst hik
    rw[if_pos rfl,if_pos (by omega)] at hy2
    cases hy2
    have n21:∀j∈blk s21,w.heap.size<=j/\j∉blk s3:=fun j hj=>by
     have:=hb21 j hj
     exact⟨by omega,fun h=>by have:=hbl j h;omega⟩
    have n24:∀j∈blk s24,w.heap.size<=j/\j∉blk s3:=fun j hj=>by
     have:=hb24 j hj
     exact⟨by omega,fun h=>by have:=hbl j h;omega⟩
    exact⟨(ho21.ext e23).ch hCC fun j hj=>(n21 j hj).2,ho24.ch hCC fun j hj=>(n24 j hj).2,n21,n24,hnok.rl,hnok.wl⟩
   ·rw[if_neg hik] at hy2
    exact((hnew k y (by omega) hy2).ch e23' fun _ _=>id).ch hCC fun j hj=>hj.2
  ·rw[List.getElem?_set,if_neg (by omega)]
   exact hsame k (by omega)
 ·obtain⟨k,hk,rfl⟩:=List.getElem_of_mem hn
  exact hnew k _ (by omega) (List.getElem?_eq_getElem hk)
abbrev grC(v:CatV)(th ton tw:Sl):List Value:=cxC v++[slV th,slV ton,slV tw]
def grF(ps:List (Nat×Value)):Option (List Value):=fillL (placesOf tb [(26,0),(39,17),(102,18),(137,19)]) (cellsL tt139.zero) ps
theorem grF_one{v:CatV}(h:v.2.length=16):grF [(0,cxV v)]=some (grC v ⟨none,0,0⟩ ⟨none,0,0⟩ ⟨none,0,0⟩):=by
 obtain⟨s,l⟩:=v
 match l,h with
 | [_,_,_,_,_,_,_,_,_,_,_,_,_,_,_,_],_=>rfl
theorem grF_all{v:CatV}(h:v.2.length=16)(a b c:Sl):grF [(0,cxV v),(1,slV a),(2,slV b),(3,slV c)]=some (grC v a b c):=by
 obtain⟨s,l⟩:=v
 match l,h with
 | [_,_,_,_,_,_,_,_,_,_,_,_,_,_,_,_],_=>rfl
def H54(t0:Sl×List Value)(w:World)(R:RV):Prop:=
 AllocP w (Obj.cells { toList:=cxC t0 } 26) fun(b1:Nat) (w2:World)=>
 ∃(x3:Sl×List Value),CellsN w2 b1 0 17 (cxC x3)/\
 Cx 75 #[Value.agg { toList:=cxC x3 }] w2 fun(v6:Value) (w7:World)=>∃t8:Bool,v6=Value.bool t8/\
 IfB (!t8) (R (Value.pointer none) w7)
 (∃(x9:Sl×List Value),CellsN w7 b1 0 17 (cxC x9)/\
 Cx 116 #[Value.agg { toList:=cxC x9 }] w7 fun(v12:Value) (w13:World)=>∃(x14:Sl×List Value),v12=Value.agg { toList:=cxC x14 }/\
 match grF [(0,Value.agg { toList:=cxC x14 })] with
 | some l15=>AllocP w13 (Obj.cells { toList:=l15 } 139) fun(b16:Nat) (w17:World)=>R (Value.pointer (some ⟨b16,0,none⟩)) w17
 | none=>False)
theorem H54_ok(t0:Sl×List Value)(w:World)(R:RV)(h:H54 t0 w R):Cw 54 #[Value.agg { toList:=cxC t0 }] w R:=
 call_of tbOk mixed en54 Tryz.func54 rfl .nil (by kernel_rfl) (Nat.le_of_ble_eq_true (by kernel_rfl)) (Eq.mp (α:=H54 t0 w R) (by kernel_rfl) h)
def H57(t0:Option Addr)(w:World)(R:RV):Prop:=
 IfB t0.isNone (R (Value.pointer none) w)
 (∃b1 b2:Nat,t0=some ⟨b1,b2,none⟩/\∃(x3:Sl×List Value),CellsN w.drew b1 (b2+0) 17 (cxC x3)/\
 ∃b6 b7:Nat,t0=some ⟨b6,b7,none⟩/\∃s8:Sl,w.drew.cell? ⟨b6,b7+17,none⟩=some (slV s8)/\
 ∃b9 b10:Nat,t0=some ⟨b9,b10,none⟩/\∃s11:Sl,w.drew.cell? ⟨b9,b10+18,none⟩=some (slV s11)/\
 ∃b12 b13:Nat,t0=some ⟨b12,b13,none⟩/\∃s14:Sl,w.drew.cell? ⟨b12,b13+19,none⟩=some (slV s14)/\
 Cx 96 #[slV s8] w.drew fun(v15:Value) (w16:World)=>∃s17:Sl,v15=slV s17/\
 w16.cell? ⟨b12,b13+19,none⟩=some (slV s14)/\w16.cell? ⟨b9,b10+18,none⟩=some (slV s11)/\CellsN w16 b1 (b2+0) 17 (cxC x3)/\
 Cx 120 #[slV s11] w16 fun(v20:Value) (w21:World)=>∃s22:Sl,v20=slV s22/\
 w21.cell? ⟨b12,b13+19,none⟩=some (slV s14)/\CellsN w21 b1 (b2+0) 17 (cxC x3)/\
 Cx 121 #[slV s14] w21 fun(v25:Value) (w26:World)=>∃s27:Sl,v25=slV s27/\
 CellsN w26 b1 (b2+0) 17 (cxC x3)/\
 match grF [(0,Value.agg { toList:=cxC x3 }),(1,slV s17),(2,slV s22),(3,slV s27)] with
 | some l30=>AllocP w26 (Obj.cells { toList:=l30 } 139) fun(b31:Nat) (w32:World)=>R (Value.pointer (some ⟨b31,0,none⟩)) w32
 | none=>False)
theorem H57_ok(t0:Option Addr)(w:World)(R:RV)(h:H57 t0 w R):Cw 57 #[Value.pointer t0] w R:=
 call_of tbOk mixed en57 Tryz.func57 rfl (nd (nd (.node (.draw (sts [0,1,2,3,4,5,6,7,9,10,11,12,14,15,16,17] (.ac 8 (rg [0,3,9,12,14,17]) (.ac 13 (rg [0,3,14,17]) (.ac 18 [3,2,1,0] (.st 19 (.ac 20 [] (.st 21 .fin) .non)) .non) .non) .non))) .nil))) (by kernel_rfl) (Nat.le_of_ble_eq_true (by kernel_rfl)) (Eq.mp (α:=H57 t0 w R) (by kernel_rfl) h)
structure GrK(D:Nat->Prop)(w:World)(b:Nat)(v:CatV)(th ton tw:Sl)(x:CatD)(ns:List Nd)(rows:List RwL)(ms:List Nat):Prop where
 box:∃T,w.heap[b]? =some (.cells (grC v th ton tw).toArray T (0,0))
 cat:RS (fun j=>D j/\j≠b/\j∉blk th) w tyCls v.1 x.1
 br:v.2=x.2.map fun n=>Value.int .i64 n
 b16:x.2.length=16
 brr:∀n∈x.2, -9223372036854775808<=n/\n<=9223372036854775807
 own:OwS w th 6 (ns.flatMap nL)
 nd:∀n∈ns,NdD (fun j=>D j/\j≠b/\j∉blk th) w n
 on:OwS w ton 1 (rows.map hR)
 onP:∀j∈blk ton,D j/\j≠b/\j∉blk th
 row:∀r∈rows,OwS w r.1 1 (r.2.map iv)/\∀j∈blk r.1,D j/\j≠b/\j∉blk th
 wy:OwS w tw 2 (ms.flatMap setC)
 wyP:∀j∈blk tw,D j/\j≠b/\j∉blk th
 db:D b
 dth:∀j∈blk th,D j
 nb:b∉blk th
structure GrP(x:CatD)(ns:List Nd)(rows:List RwL)(ms:List Nat):Prop where
 ok:CatOk x
 may:HMay x ns
 len:ns.length<=50
 rl:rows.length=ns.length
 rw:∀(i:Nat) r,rows[i]? =some r->RowOf ns i r.2
 ml:ms.length=ns.length
 mb:∀m∈ms,m<2^64
 mw:∀(i j:Nat) m,ms[i]? =some m->(m.testBit j=true↔TC (ArcE x ns) i j)
 fair:∃r,FairR x ns r
def GrM(D:Nat->Prop)(w:World)(b:Nat)(th:Sl)(x:CatD)(ns:List Nd):Prop:=∃v ton tw rows ms,GrK D w b v th ton tw x ns rows ms/\GrP x ns rows ms
theorem GrK.ch{D F:Nat->Prop}{w w':World}{b:Nat}{v:CatV}{th ton tw:Sl}{x:CatD}{ns:List Nd}{rows:List RwL}{ms:List Nat}(h:GrK D w b v th ton tw x ns rows ms)(hc:Ch F w w')(hF:∀j,D j->¬F j):GrK D w' b v th ton tw x ns rows ms:=by
 have hF':∀j,(D j/\j≠b/\j∉blk th)->¬F j:=fun j hj=>hF j hj.1
 obtain⟨T,hT⟩:=h.box
 exact⟨⟨T,hc.at hT (hF b h.db)⟩,h.cat.ch hc hF',h.br,h.b16,h.brr,h.own.ch hc fun j hj=>hF j (h.dth j hj),fun n hn=>(h.nd n hn).ch hc hF',h.on.ch hc fun j hj=>hF' j (h.onP j hj),h.onP,fun r hr=>⟨(h.row r hr).1.ch hc fun j hj=>hF' j ((h.row r hr).2 j hj),(h.row r hr).2⟩,h.wy.ch hc fun j hj=>hF' j (h.wyP j hj),h.wyP,h.db,h.dth,h.nb⟩
theorem GrK.mono{D E:Nat->Prop}{w:World}{b:Nat}{v:CatV}{th ton tw:Sl}{x:CatD}{ns:List Nd}{rows:List RwL}{ms:List Nat}(h:GrK D w b v th ton tw x ns rows ms)(hE:∀j,D j->E j):GrK E w b v th ton tw x ns rows ms:=by
 have hE':∀j,(D j/\j≠b/\j∉blk th)->E j/\j≠b/\j∉blk th:=fun j hj=>⟨hE j hj.1,hj.2⟩
 exact⟨h.box,h.cat.mono hE',h.br,h.b16,h.brr,h.own,fun n hn=>(h.nd n hn).mono hE',h.on,fun j hj=>hE' j (h.onP j hj),fun r hr=>⟨(h.row r hr).1,fun j hj=>hE' j ((h.row r hr).2 j hj)⟩,h.wy,fun j hj=>hE' j (h.wyP j hj),hE b h.db,fun j hj=>hE j (h.dth j hj),h.nb⟩
theorem rep_and{A:Nat->Prop}{w:World}:∀ {t:Ty}{x:t.den}{cs:List Value},posT t=true->rep A w t x cs->rep (fun i=>A i/\i<w.heap.size) w t x cs
 | .int _,_,_,_,h=>h
 | .bool,_,_,_,h=>h
 | .str,_,_,_,h=>h
 | .pair a b,_,_,hp,h=>by
  obtain⟨c,d,rfl,h1,h2⟩:=h
  unfold posT at hp
  rw[Bool.and_eq_true] at hp
  exact⟨c,d,rfl,rep_and hp.1 h1,rep_and hp.2 h2⟩
 | .sl e,l,_,hp,h=>by
  have ho:=rep_old hp h
  obtain⟨s,rfl,h1,h2,h3,h4,css,h5,h6,h7⟩:=h
  obtain⟨s',hs',_,_,_,g4,_⟩:=ho
  have:=slEq hs';subst this
  unfold posT at hp
  rw[Bool.and_eq_true] at hp
  exact⟨s,rfl,h1,h2,h3,fun h0 i hi=>⟨h4 h0 i hi,g4 h0 i hi⟩,css,h5,fun i c x hc hx=>rep_and hp.2 (h6 i c x hc hx),h7⟩
 | .arr n e,l,_,hp,h=>by
  obtain⟨hn,css,hl,hr,rfl⟩:=h
  exact⟨hn,css,hl,fun i c x hc hx=>rep_and (t:=e) hp (hr i c x hc hx),rfl⟩
theorem GrK.old{D:Nat->Prop}{w:World}{b:Nat}{v:CatV}{th ton tw:Sl}{x:CatD}{ns:List Nd}{rows:List RwL}{ms:List Nat}(h:GrK D w b v th ton tw x ns rows ms):GrK (fun j=>D j/\j<w.heap.size) w b v th ton tw x ns rows ms:=by
 obtain⟨T,hT⟩:=h.box
 have up:∀ {j},(D j/\j≠b/\j∉blk th)->j<w.heap.size->(D j/\j<w.heap.size)/\j≠b/\j∉blk th:=fun h hl=>⟨⟨h.1,hl⟩,h.2⟩
 exact⟨⟨T,hT⟩,(RS.mono (rep_and (by decide) h.cat) fun j hj=>up hj.1 hj.2),h.br,h.b16,h.brr,h.own,fun n hn=>(h.nd n hn).old.mono fun j hj=>up hj.1 hj.2,h.on,fun j hj=>up (h.onP j hj) (h.on.lt j hj),fun r hr=>⟨(h.row r hr).1,fun j hj=>up ((h.row r hr).2 j hj) ((h.row r hr).1.lt j hj)⟩,h.wy,fun j hj=>up (h.wyP j hj) (h.wy.lt j hj),⟨h.db,heap_lt hT⟩,fun j hj=>⟨h.dth j hj,h.own.lt j hj⟩,h.nb⟩
section
variable {D F:Nat->Prop} {w w':World} {b:Nat} {th:Sl} {x:CatD} {ns:List Nd}
theorem GrM.ch(h:GrM D w b th x ns)(hc:Ch F w w')(hF:∀j,D j->¬F j):GrM D w' b th x ns:=by
 obtain⟨v,ton,tw,rows,ms,h,p⟩:=h
 exact⟨v,ton,tw,rows,ms,h.ch hc hF,p⟩
theorem GrM.ext(h:GrM D w b th x ns)(e:Ext w w'):GrM D w' b th x ns:=h.ch e fun _ _=>id
theorem GrM.mono{E:Nat->Prop}(h:GrM D w b th x ns)(hE:∀j,D j->E j):GrM E w b th x ns:=by
 obtain⟨v,ton,tw,rows,ms,h,p⟩:=h
 exact⟨v,ton,tw,rows,ms,h.mono hE,p⟩
theorem GrM.old(h:GrM D w b th x ns):GrM (fun j=>D j/\j<w.heap.size) w b th x ns:=by
 obtain⟨v,ton,tw,rows,ms,h,p⟩:=h
 exact⟨v,ton,tw,rows,ms,h.old,p⟩
end
theorem GrK.catM{D:Nat->Prop}{w:World}{b:Nat}{v:CatV}{th ton tw:Sl}{x:CatD}{ns:List Nd}{rows:List RwL}{ms:List Nat}(h:GrK D w b v th ton tw x ns rows ms):CatM w v x:=⟨h.cat.all,h.br,h.b16,h.brr⟩
theorem GrK.hst{D:Nat->Prop}{w:World}{b:Nat}{v:CatV}{th ton tw:Sl}{x:CatD}{ns:List Nd}{rows:List RwL}{ms:List Nat}(h:GrK D w b v th ton tw x ns rows ms)(hl:ns.length<=1000000):Hst w th ns:=⟨h.own.rd,fun n hn=>(h.nd n hn).ok,hl,h.own.cap⟩
theorem GrK.rws{D:Nat->Prop}{w:World}{b:Nat}{v:CatV}{th ton tw:Sl}{x:CatD}{ns:List Nd}{rows:List RwL}{ms:List Nat}(h:GrK D w b v th ton tw x ns rows ms):Rws w ton rows:=⟨h.on.rd,fun r hr=>(h.row r hr).1.rd⟩
theorem grC_len{D:Nat->Prop}{w:World}{b:Nat}{v:CatV}{th ton tw:Sl}{x:CatD}{ns:List Nd}{rows:List RwL}{ms:List Nat}(h:GrK D w b v th ton tw x ns rows ms):(cxC v).length=17:=cxC_len h.catM
theorem GrK.slot{D:Nat->Prop}{w:World}{b:Nat}{v:CatV}{th ton tw:Sl}{x:CatD}{ns:List Nd}{rows:List RwL}{ms:List Nat}(h:GrK D w b v th ton tw x ns rows ms):w.cell? ⟨b,0+17,none⟩=some (slV th)/\w.cell? ⟨b,0+18,none⟩=some (slV ton)/\w.cell? ⟨b,0+19,none⟩=some (slV tw)/\CellsN w b (0+0) 17 (cxC v):=by
 obtain⟨T,hT⟩:=h.box
 have hl:=grC_len h
 have get:∀k:Nat,(grC v th ton tw)[17+k]? =[slV th,slV ton,slV tw][k]? :=fun k=>by rw[List.getElem?_append_right (by omega)];congr 1;omega
 refine⟨(boxAt (cs:=grC v th ton tw) hT 17 (Ch.refl _ _)).trans (get 0),(boxAt (cs:=grC v th ton tw) hT 18 (Ch.refl _ _)).trans (get 1),(boxAt (cs:=grC v th ton tw) hT 19 (Ch.refl _ _)).trans (get 2),CellsN.mk hl (boxAll (cs:=grC v th ton tw) hT (Ch.refl _ _)).left⟩
theorem c116{w:World}{v:CatV}{x:CatD}(h:CatM w v x)(hk:CatOk x):
  Cw 116 #[cxV v] w fun r w'=>∃s:Sl,r=cxV (s,v.2)/\RS (fun j=>w.heap.size<=j) w' tyCls s x.1/\Ext w w':=by
 have h17:=cxC_len h
 have h1:=cxC_one h
 have hv16:v.2.length=16:=by have:=h17;rw[List.length_cons] at this;omega
 refine F116_ok v w _ fun b1 w2 a2 b3 w4 a4=>⟨v,CellsN.mk h17 (boxAll (cs:=cxC v) a2.new (a4.ch _)),?_⟩
 have e2:Ext w w2:=a2.ch _
 have e4:Ext w2 w4:=a4.ch _
 have E4:=e2.trans e4
 have p2:=a2.here;have z2:=a2.size;have p4:=a4.here;have z4:=a4.size
 refine(closedRS (h.ext E4) hk).use ?_
 rintro _ w9 ⟨s,rfl,hR9,e9⟩
 have z9:=e9.size
 have hz17:(cxC (s,(closedD x).2.map iv)).length=17:=rfl
 have hz1:One (cxC (s,(closedD x).2.map iv)):=fun y hy=>by
  rcases List.mem_cons.1 hy with rfl|hy
  ·rfl
  ·exact one_ints _ y hy
 refine⟨(s,(closedD x).2.map iv),rfl,fun b11 w12 a12=>⟨rfl,store_all (vs:=cxC (s,(closedD x).2.map iv)) a12.new rfl hz1 fun w13 u13=>?_⟩⟩
 have p12:=a12.here;have z12:=a12.size;have z13:=u13.size
 have e13:Ext w9 w13:=Ext.fresh a12 u13
 have x13:Ext w2 w13:=(e4.trans e9).trans e13
 have one2:One v.2:=fun y hy=>h1 y (List.mem_cons_of_mem _ hy)
 refine⟨v.2,CellsN.mk hv16 (CellsAt.right (c:=[slV v.1]) (d:=v.2) (boxAll (cs:=cxC v) a2.new x13)),hv16,storeC u13.new (by intro e;rw[e] at hv16;cases hv16) (by rw[List.size_toArray,hz17,hv16];omega) one2 fun w17 h17' c17=>?_⟩
 have H17:w17.heap[b11]? =some (.cells (cxC (s,v.2)).toArray 26 (0,0)):=by
  rw[h17']
  congr 3
  show spliceL (slV s::(closedD x).2.map iv) (0+1) v.2=slV s::v.2
  unfold spliceL
  rw[hv16,List.drop_of_length_le (by rw[List.length_cons,List.length_map];show 17<=_;omega)]
  simp
 have z17:=c17.size
 have l17:(cxC (s,v.2)).length=17:=h17
 have o17:One (cxC (s,v.2)):=fun y hy=>by
  rcases List.mem_cons.1 hy with rfl|hy
  ·rfl
  ·exact one2 y hy
 have hR9':RS (fun j=>w4.heap.size<=j/\j<w9.heap.size) w9 tyCls s x.1:=rep_and (by decide) hR9
 have hR17:=(hR9'.ch e13 fun _ _=>id).ch c17 fun j hj e=>by omega
 refine⟨(s,v.2),CellsN.mk l17 (boxAll (cs:=cxC (s,v.2)) H17 (Ch.refl _ _)),l17,store_all (vs:=cxC (s,v.2)) (c17.at (e13.at (e9.at a4.new)) (by omega)) l17.symm o17 fun w21 u21=>⟨(s,v.2),CellsN.mk l17 (boxAll (cs:=cxC (s,v.2)) u21.new (Ch.refl _ _)),s,rfl,(hR17.ch u21.ch fun j hj e=>by omega).mono fun j hj=>by omega,?_⟩⟩
 exact(((E4.trans e9).trans e13).chN c17 fun j e=>by omega).chN u21.ch fun j e=>by omega
theorem GrP.nil{x:CatD}(hk:CatOk x):GrP x [] [] []:=
 ⟨hk,⟨hk,Nat.zero_le _,fun i n h=>(by cases h)⟩,Nat.zero_le _,rfl,fun i r h=>(by cases h),rfl,fun m h=>(by cases h),fun i j m h=>(by cases h),id,fun i j h=>absurd h (Nat.not_lt_zero _),fun i k ⟨_,a,b,h,_⟩=>(by cases h),fun o a b u no na h=>(by cases h)⟩
theorem c54{w:World}{v:CatV}{x:CatD}(h:CatM w v x):
  Cw 54 #[cxV v] w fun r w'=>((¬CatOk x/\r=.pointer none)\/CatOk x/\∃b,r=.pointer (some ⟨b,0,none⟩)/\GrM (fun j=>w.heap.size<=j) w' b ⟨none,0,0⟩ x [])/\Ext w w':=by
 have h17:=cxC_len h
 have hv16:v.2.length=16:=by have:=h17;rw[List.length_cons] at this;omega
 refine H54_ok v w _ fun b1 w2 a2=>?_
 have e2:Ext w w2:=a2.ch _
 have z2:=a2.size
 refine⟨v,CellsN.mk h17 (boxAll (cs:=cxC v) a2.new (Ch.refl _ _)),(c75 (h.ext e2)).use ?_⟩
 rintro _ w7 ⟨r,rfl,hr,e7⟩
 have E7:=e2.trans e7
 refine⟨r,rfl,IfB.intro (fun h1=>⟨.inl ⟨fun hk=>?_,rfl⟩,E7⟩) fun h1=>?_⟩
 ·have h1:r=false:=by simpa using h1
  rw[hr.2 hk] at h1;cases h1
 have hk:=hr.1 (by simpa using h1)
 refine⟨v,CellsN.mk h17 (boxAll (cs:=cxC v) a2.new e7),(c116 (h.ext E7) hk).use ?_⟩
 rintro _ w13 ⟨s,rfl,hR,e13⟩
 have E13:=E7.trans e13
 have z13:=E13.size
 have z7:=E7.size
 refine⟨(s,v.2),rfl,?_⟩
 rw[grF_one (v:=(s,v.2)) hv16]
 refine fun b16 w17 a17=>⟨.inr ⟨hk,b16,rfl,(s,v.2),⟨none,0,0⟩,⟨none,0,0⟩,[],[],⟨⟨_,a17.new⟩,?_,h.br,h.b16,h.brr,.nil _ _,by simp,.nil _ _,by simp[blk],by simp,.nil _ _,by simp[blk],?_,by simp[blk],by simp[blk]⟩,.nil hk⟩,E13.trans (a17.ch _)⟩
 ·have hR':RS (fun j=>w7.heap.size<=j/\j<w13.heap.size) w13 tyCls s x.1:=rep_and (by decide) hR
  have p17:=a17.here
  exact(hR'.ch (a17.ch (fun _=>False)) fun _ _=>id).mono fun j hj=>⟨by omega,by omega,by simp[blk]⟩
 ·have p17:=a17.here
  show w.heap.size<=b16
  omega
def AskP(x:CatD)(ns:List Nd)(n:Nd)(e:Int):Prop:=(e=1/\¬HMay x (ns++[n]))\/(e=11/\HMay x (ns++[n])/\¬ ∃r,FairR x (ns++[n]) r)\/(e=0/\GoodP x (ns++[n]))
theorem TC.cg{x:CatD}{hs ks:List Nd}(h:Cg hs ks){a b:Nat}(t:TC (ArcE x hs) a b):TC (ArcE x ks) a b:=by
 induction t with
 | one e=>exact .one (e.cg h)
 | more _ e ih=>exact .more ih (e.cg h)
theorem cloneApp{w W:World}{th:Sl}{ns:List Nd}{n:Nd}{b1 b3 b4:Nat}{K:Sl->World->Prop}(ho:OwS w th 6 (ns.flatMap nL))(hl:ns.length<=1000)(eW:Ext w W)(hb1:∃T,W.heap[b1]? =some (.cells (nC n.v).toArray T (0,0)))(hs:∀V,Ext W V->V.cell? ⟨b3,b4+17,none⟩=some (slV th))
  (hK:∀s V,OwS V s 6 ((ns++[n]).flatMap nL)->Ext W V->K s V):
  (Cx 96 #[slV th] W fun v7 w8=>∃s9:Sl,v7=slV s9/\CellsAt w8 b1 0 (nC n.v)/\1*6<=16777216/\AllocP w8 (Obj.cells (nC n.v).toArray 53) fun b10 w11=>∃l12,ReadC w11 (some ⟨b10,0,none⟩) (1*6) l12/\AppendP tt53 53 w11 s9.1 s9.2 s9.3 1 l12 K)/\
  1*6<=16777216/\AllocP W (Obj.cells (nC n.v).toArray 53) fun b37 w38=>w38.cell? ⟨b3,b4+17,none⟩=some (slV th)/\Cx 96 #[slV th] w38 fun v39 w40=>∃s41:Sl,v39=slV s41/\∃l42,ReadC w40 (some ⟨b37,0,none⟩) (1*6) l42/\AppendP tt53 53 w40 s41.1 s41.2 s41.3 1 l42 K:=by
 obtain⟨T,hb1⟩:=hb1
 have hr:∀ {V},Ext W V->Rd V th 6 ((ns.map (·.v)).flatMap nC):=fun e=>by rw[<-flat_v];exact(ho.ext (eW.trans e)).rd
 have fin:∀ {V:World}{s:Sl}{bl:Nat}{T:TypeId},OwS V s 6 (ns.flatMap nL)->V.heap[bl]? =some (.cells (nC n.v).toArray T (0,0))->Ext W V->(∀j∈blk s,W.heap.size<=j)->∃l,ReadC V (some ⟨bl,0,none⟩) (1*6) l/\AppendP tt53 53 V s.1 s.2 s.3 1 l K:=fun hs hb e hnew=>by
  have hn:=owsN nL_len (by omega) hs
  refine hs.lit (new:=nC n.v) hb rfl (nC_one n.v) rfl rfl (by omega) (by decide) fun s' w' ho' hn' hC' hbk=>hK s' w' ?_ (e.chN hC' hnew)
  rw[List.flatMap_append,List.flatMap_cons,List.flatMap_nil,List.append_nil]
  exact ho'
 refine⟨(c96 (hr (Ch.refl _ _)) (by rw[List.length_map];omega)).use ?_,by decide,fun b37 w38 a38=>⟨hs _ (a38.ch _),(c96 (hr (a38.ch _)) (by rw[List.length_map];omega)).use ?_⟩⟩
 ·rintro _ w8 ⟨s9,rfl,ho9,e9,hb9⟩
  rw[<-flat_v] at ho9
  exact⟨s9,rfl,boxAll (cs:=nC n.v) hb1 e9,by decide,fun b10 w11 a11=>fin (ho9.ext (a11.ch _)) a11.new (e9.trans (a11.ch _)) hb9⟩
 ·rintro _ w40 ⟨s41,rfl,ho41,e41,hb41⟩
  rw[<-flat_v] at ho41
  have e38:Ext W w38:=a38.ch _
  exact⟨s41,rfl,fin ho41 (e41.at a38.new) (e38.trans e41) fun j hj=>by have:=hb41 j hj;have:=e38.size;omega⟩
theorem c117{D:Nat->Prop}{w:World}{b:Nat}{th:Sl}{x:CatD}{ns:List Nd}{n:Nd}(hG:GrM D w b th x ns)(hn:NdOk w n)(hl:ns.length<=49):
  Cw 117 #[.pointer (some ⟨b,0,none⟩),ndV n.v] w fun r w'=>∃(s:Sl)(ms:List Nat)(e:Int),r=.tuple #[slV s,iv e]/\AskP x ns n e/\(e=0->OwS w' s 2 (ms.flatMap setC)/\ms.length=ns.length+1/\(∀m∈ms,m<2^64)/\(∀(i j:Nat) m,ms[i]? =some m->(m.testBit j=true↔TC (ArcE x (ns++[n])) i j))/\∀j∈blk s,w.heap.size<=j)/\Ext w w':=by
 obtain⟨v,ton,tw,rows,ms0,hK,hP⟩:=hG
 refine F117_ok (some ⟨b,0,none⟩) n.v w _ fun b1 w2 a2=>IfB.no rfl ?_
 have e2:Ext w w2:=a2.ch _
 have ed:=extDrew w2
 have e2d:=e2.trans ed
 unfold F117k2
 refine⟨b,0,rfl,th,(hK.ch e2d fun _ _=>id).slot.1,n.v,boxAll (cs:=nC n.v) a2.new ed,cloneApp hK.own (by omega) e2d ⟨_,ed.at a2.new⟩ (fun V e=>(hK.ch (e2d.trans e) fun _ _=>id).slot.1) fun s W ho eW=>?_⟩
 have EW:=e2d.trans eW
 have hKW:=hK.ch EW fun _ _=>id
 have hlen:(ns++[n]).length=ns.length+1:=by simp
 have hH:Hst W s (ns++[n]):=⟨ho.rd,fun m hm=>by
  rcases List.mem_append.1 hm with h|h
  ·exact(hKW.nd m h).ok
  ·rw[List.mem_singleton.1 h];exact hn.ext EW,by omega,ho.cap⟩
 refine⟨b,0,rfl,v,hKW.slot.2.2.2,(c84 hKW.catM hH).use ?_⟩
 rintro _ w21 ⟨r,rfl,hr,e21⟩
 have E21:=EW.trans e21
 refine⟨r,rfl,IfB.intro (fun h1=>⟨⟨none,0,0⟩,[],1,rfl,.inl ⟨rfl,fun h=>?_⟩,fun h=>(by cases h),E21⟩) fun h1=>?_⟩
 ·have h1:r=false:=by simpa using h1
  rw[hr.2 h] at h1;cases h1
 have hM:=hr.1 (by simpa using h1)
 have hK21:=hKW.ch e21 fun _ _=>id
 unfold F117k1
 refine⟨b,0,rfl,v,hK21.slot.2.2.2,(c30 hK21.catM (hH.ext e21)).use ?_⟩
 rintro _ w29 ⟨s30,ys,rfl,hA,ho30,hyl,e29,_⟩
 have hsn:=hH.n
 refine⟨s30,rfl,?_⟩
 rw[show (s.2:Int)=((ns.length+1:Nat):Int) by show (s.n:Int)=_;rw[hsn,hlen]]
 refine(c174 ho30.rd (by omega) (by omega) fun e he=>?_).use ?_
 ·obtain⟨p,q,h2,h3,h4,h5,_⟩:=arc_of hM hA he
  exact⟨p,q,h2,h3,by omega,by omega⟩
 rintro _ w32 ⟨s33,ms,rfl,ho33,hml,hmb,hmw,e32,hb33⟩
 have hE:ArE ys=ArcE x (ns++[n]):=by funext p q;exact propext (hA.are hM p q)
 rw[hE] at hmw
 refine⟨s33,rfl,(c175 ho33.rd (by omega) hmb).use ?_⟩
 rintro _ w35 ⟨t36,rfl,h36,e35⟩
 have E35:=((E21.trans e29).trans e32).trans e35
 have hgood:t36=true↔∃r,FairR x (ns++[n]) r:=by
  rw[h36,<-acyc_iff hM hA]
  constructor
  ·intro h i ht
   have hi:=(TC.lt ht).1
   have hx:ms[i]? =some (ms[i]'(by omega)):=List.getElem?_eq_getElem (by omega)
   have:=h i _ hx
   rw[(hmw i i _ hx).2 ht] at this;cases this
  ·intro h i m hm
   cases hb:m.testBit i with
   | false=>rfl
   | true=>exact absurd ((hmw i i m hm).1 hb) (h i)
 refine⟨t36,rfl,IfB.intro (fun h2=>⟨⟨none,0,0⟩,[],11,rfl,.inr (.inl ⟨rfl,hM,fun h=>?_⟩),fun h=>(by cases h),E35⟩) fun h2=>⟨s33,ms,0,rfl,.inr (.inr ⟨rfl,hM,hgood.1 (by simpa using h2)⟩),fun _=>⟨ho33.ext e35,hml,hmb,hmw,fun j hj=>?_⟩,E35⟩⟩
 ·have h2:t36=false:=by simpa using h2
  rw[hgood.2 h] at h2;cases h2
 ·have:=hb33 j hj;have:=(E21.trans e29).size;omega
theorem c55{D:Nat->Prop}{w:World}{b:Nat}{th:Sl}{x:CatD}{ns:List Nd}{n:Nd}(hG:GrM D w b th x ns)(hn:NdOk w n)(hl:ns.length<=49):
  Cw 55 #[.pointer (some ⟨b,0,none⟩),ndV n.v] w fun r w'=>∃e:Int,r=iv e/\AskP x ns n e/\Ext w w':=by
 refine F55_ok (some ⟨b,0,none⟩) n.v w _ fun b1 w2 a2=>?_
 have e2:Ext w w2:=a2.ch _
 refine⟨n.v,boxAll (cs:=nC n.v) a2.new (Ch.refl _ _),(c117 (hG.ext e2) (hn.ext e2) hl).use ?_⟩
 rintro _ w5 ⟨s,ms,e,rfl,hA,_,e5⟩
 exact⟨(s,e),rfl,e,rfl,hA,e2.trans e5⟩
structure NdA(A:Nat->Prop)(w:World)(n:Nd):Prop where
 rs:Rd w n.v.2.2.2.2.1 2 (n.rs.flatMap sv)
 ws:Rd w n.v.2.2.2.2.2 2 (n.ws.flatMap sv)
 rp:0<n.v.2.2.2.2.1.n->∀j∈blk n.v.2.2.2.2.1,A j
 wp:0<n.v.2.2.2.2.2.n->∀j∈blk n.v.2.2.2.2.2,A j
 rl:n.rs.length<=1000000
 wl:n.ws.length<=1000000
theorem NdA.ch{A F:Nat->Prop}{w w':World}{n:Nd}(h:NdA A w n)(hc:Ch F w w')(hF:∀j,A j->¬F j):NdA A w' n:=⟨h.rs.ch0 hc fun h0 j hj=>hF j (h.rp h0 j hj),h.ws.ch0 hc fun h0 j hj=>hF j (h.wp h0 j hj),h.rp,h.wp,h.rl,h.wl⟩
theorem NdA.ext{A:Nat->Prop}{w w':World}{n:Nd}(h:NdA A w n)(e:Ext w w'):NdA A w' n:=h.ch e fun _ _=>id
theorem NdA.ok{A:Nat->Prop}{w:World}{n:Nd}(h:NdA A w n):NdOk w n:=⟨h.rs,h.ws,h.rl,h.wl⟩
theorem NdA.mono{A B:Nat->Prop}{w:World}{n:Nd}(h:NdA A w n)(hB:∀j,A j->B j):NdA B w n:=⟨h.rs,h.ws,fun h0 j hj=>hB j (h.rp h0 j hj),fun h0 j hj=>hB j (h.wp h0 j hj),h.rl,h.wl⟩
theorem grPut{W:World}{b:Nat}{v:CatV}{ls ls':List Value}{k:Nat}{u:Value}{T:TypeId}{K:World->Prop}(hb:W.heap[b]? =some (.cells (cxC v++ls).toArray T (0,0)))(hl:(cxC v).length=17)(hk:k<ls.length)(hu:u.oneCell'=true)(he:ls.set k u=ls')(hK:∀w',w'.heap[b]? =some (.cells (cxC v++ls').toArray T (0,0))->Ch (fun j=>j=b) W w'->K w'):StoreP W b (0+(17+k)) [u] K:=by
 refine store_one hb (by rw[List.size_toArray,List.length_append];omega) hu fun w' h=>hK w' ?_ h.ch
 have:=h.new
 rw[List.setIfInBounds_toArray,List.set_append_right _ _ (by omega),show 0+(17+k)-(cxC v).length=k by omega,he] at this
 exact this
theorem c56{D:Nat->Prop}{w:World}{b:Nat}{th:Sl}{x:CatD}{ns:List Nd}{n:Nd}(hG:GrM D w b th x ns)(hN:NdA (fun j=>j≠b/\j∉blk th) w n)(hl:ns.length<=49):
  Cw 56 #[.pointer (some ⟨b,0,none⟩),ndV n.v] w fun r w'=>∃(e:Int)(th':Sl)(ns':List Nd),r=iv e/\AskP x ns n e/\(e=0->∃n',dOf n'=dOf n/\ns'=ns++[n'])/\(e≠0->ns'=ns/\th'=th)/\GrM (fun j=>D j\/w.heap.size<=j) w' b th' x ns'/\Ch (fun j=>j=b\/j∈blk th) w w'/\∀j∈blk th',j∈blk th\/w.heap.size<=j:=by
 have hn:=hN.ok
 refine F56_ok (some ⟨b,0,none⟩) n.v w _ fun b1 w2 a2=>?_
 have e2:Ext w w2:=a2.ch _
 refine⟨n.v,boxAll (cs:=nC n.v) a2.new (Ch.refl _ _),(c117 (hG.ext e2) (hn.ext e2) hl).use ?_⟩
 rintro _ w5 ⟨s,ms,e,rfl,hA,hms,e5⟩
 have E5:=e2.trans e5
 refine⟨(s,e),rfl,IfB.intro (fun h1=>?_) fun h1=>?_⟩
 ·have h1:e≠0:=by simpa using h1
  exact⟨e,th,ns,rfl,hA,fun h=>absurd h h1,fun _=>⟨rfl,rfl⟩,(hG.ext E5).mono fun j hj=>.inl hj,E5.mono fun _ _ h=>h.elim,fun j hj=>.inl hj⟩
 have h1:e=0:=by simpa using h1
 subst h1
 obtain⟨hos,hml,hmb,hmw,hsnew⟩:=hms rfl
 have hsnew:∀j∈blk s,w.heap.size<=j:=fun j hj=>by have:=hsnew j hj;have:=e2.size;omega
 have hgood:GoodP x (ns++[n]):=by
  rcases hA with h|h|h
  ·cases h.1
  ·cases h.1
  ·exact h.2
 obtain⟨v,ton,tw,rows,ms0,hK0,hP⟩:=hG
 have hK:=hK0.old
 have hlv:=grC_len hK
 unfold F56k1
 have ed:=extDrew w5
 have E5d:=E5.trans ed
 have z5:=E5d.size
 have hK5:=hK.ch E5d fun _ _=>id
 have b1d:w5.drew.heap[b1]? =some (.cells (nC n.v).toArray 53 (0,0)):=Ext.at (e5.trans ed) a2.new
 have hrl:=hP.rl
 refine⟨b,0,rfl,ton,hK5.slot.2.1,b,0,rfl,th,hK5.slot.1,n.v,boxAll (cs:=nC n.v) b1d (Ch.refl _ _),(c118 hK5.rws (hK5.hst (by omega)) (hn.ext E5d) hrl hP.rw (by omega)).use ?_⟩
 rintro _ w15 ⟨s16,rows',rfl,hrl',hrw',hOR,e15⟩
 have E15:=E5d.trans e15
 have z15:=E15.size
 have hK15:=hK5.ch e15 fun _ _=>id
 obtain⟨T,hT15⟩:=hK15.box
 have hbl:=heap_lt hT15
 have hbw:b<w.heap.size:=hK.db.2
 have hthw:∀j∈blk th,j<w.heap.size:=fun j hj=>(hK.dth j hj).2
 refine⟨s16,rfl,b,0,rfl,rfl,grPut (k:=1) (ls':=[slV th,slV s16,slV tw]) hT15 hlv (by simp) rfl rfl fun w19 h19 c19=>?_⟩
 have ed19:=extDrew w19
 have h19d:=ed19.at h19
 have cell:=fun{V:World} {ls:List Value} {k:Nat} {u:Value} (h:V.heap[b]? =some (.cells (cxC v++ls).toArray T (0,0))) (hu:ls[k]? =some u)=>show V.cell? ⟨b,0+(17+k),none⟩=some u from by
  rw[boxAt (cs:=cxC v++ls) h (17+k) (Ch.refl _ _),List.getElem?_append_right (by omega),show 17+k-(cxC v).length=k by omega,hu]
 have b1w:w.heap.size<=b1:=by rw[a2.here];exact Nat.le_refl _
 have b1_19:w19.drew.heap[b1]? =some (.cells (nC n.v).toArray 53 (0,0)):=ed19.at (c19.at (e15.at b1d) (by omega))
 refine⟨b,0,rfl,th,cell (k:=0) h19d rfl,n.v,boxAll (cs:=nC n.v) b1_19 (Ch.refl _ _),by decide,fun b24 w25 a25=>?_⟩
 have e25:Ext w19.drew w25:=a25.ch _
 have h25:=e25.at h19d
 have C25:Ch (fun j=>j=b) w w25:=((E15.mono fun _ _ h=>h.elim).trans c19).trans ((ed19.trans e25).mono fun _ _ h=>h.elim)
 have z25:=C25.size
 have hN25:NdA (fun j=>j≠b/\j∉blk th) w25 n:=hN.ch C25 fun j hj=>hj.1
 have hH25:Hst w25 ⟨some ⟨b24,0,none⟩,1,1⟩ [n]:=⟨by
  have:=(OwS.new (cs:=nC n.v) (n:=1) (sz:=6) a25 rfl).rd
  rw[List.flatMap_cons,List.flatMap_nil,List.append_nil];exact this,fun m hm=>by
  rw[List.mem_singleton.1 hm];exact hN25.ok,by simp,Nat.le_refl _⟩
 refine⟨cell (k:=0) h25 rfl,(c119 hH25 (by simp)).use ?_⟩
 rintro _ w27 ⟨s28,ns1,rfl,hcg,ho28,hnd28,e27,hb28⟩
 have h27:=e27.at h25
 have hn1:=Cg.len hcg
 obtain⟨n',rfl⟩:∃n',ns1=[n']:=by
  match ns1,hn1 with
  | [n'],_=>exact⟨n',rfl⟩
 have hd:dOf n'=dOf n:=by
  have hcg:List.map dOf [n']=List.map dOf [n]:=hcg
  simpa using hcg
 have C27:Ch (fun j=>j=b) w w27:=C25.trans (e27.mono fun _ _ h=>h.elim)
 have z27:=C27.size
 have zz27:=e27.size
 have ho27:=hK.own.ch C27 fun j hj e=>hK.nb (e ▸ hj)
 have hthn:=owsN nL_len (by omega) ho27
 have hs28:=ho28.len
 have h28n:s28.n=1:=by
  rw[flatLen nL_len] at hs28
  have:([n']:List Nd).length=1:=rfl
  omega
 refine⟨s28,rfl,cell (k:=0) h27 rfl,_,ho28.rd.2,ho27.append (cnt:=s28.n) rfl rfl hs28 (flatOne nL_one _) ⟨by omega,Nat.le_trans (Nat.mul_le_mul (show 2*(th.n+s28.n)<=3000000 by omega) (show _<=100000 by decide)) (by decide)⟩ fun s30 w31 ho31 hn31 hC31 hb31 _=>?_⟩
 rw[<-List.flatMap_append] at ho31
 have h31:=hC31.at h27 hK.nb
 have z31:=hC31.size
 refine⟨b,0,rfl,rfl,grPut (k:=0) (ls':=[slV s30,slV s16,slV tw]) h31 hlv (by simp) rfl rfl fun w34 h34 c34=>⟨b,0,rfl,rfl,grPut (k:=2) (ls':=[slV s30,slV s16,slV s]) h34 hlv (by simp) rfl rfl fun w37 h37 c37=>?_⟩⟩
 have C37:Ch (fun j=>j=b\/j∈blk th) w w37:=(((C27.mono fun j _ h=>.inl h).trans (hC31.mono fun j _ h=>.inr h)).trans (c34.mono fun j _ h=>.inl h)).trans (c37.mono fun j _ h=>.inl h)
 have nb30:b∉blk s30:=fun hj=>by
  rcases hb31 b hj with h|h
  ·exact hK.nb h
  ·omega
 have oldP:∀j,((D j/\j<w.heap.size)/\j≠b/\j∉blk th)->(D j\/w.heap.size<=j)/\j≠b/\j∉blk s30:=fun j hj=>⟨.inl hj.1.1,hj.2.1,fun h=>by
  rcases hb31 j h with h|h
  ·exact hj.2.2 h
  ·have:=hj.1.2;omega⟩
 have newP:∀j,w.heap.size<=j->j<w27.heap.size->(D j\/w.heap.size<=j)/\j≠b/\j∉blk s30:=fun j h1 h2=>⟨.inr h1,by omega,fun h=>by
  rcases hb31 j h with h|h
  ·have:=hthw j h;omega
  ·omega⟩
 have st:∀ {F:Nat->Prop},(∀j,F j->j=b\/j∈blk th)->∀j,((D j/\j<w.heap.size)/\j≠b/\j∉blk th)->¬F j:=fun hF j hj hf=>by
  rcases hF j hf with h|h
  ·exact hj.2.1 h
  ·exact hj.2.2 h
 have late:Ch (fun j=>j=b\/j∈blk th) w27 w37:=((hC31.mono fun j _ h=>.inr h).trans (c34.mono fun j _ h=>.inl h)).trans (c37.mono fun j _ h=>.inl h)
 have ap:∀j,w.heap.size<=j->¬(j=b\/j∈blk th):=fun j h1 h2=>by
  rcases h2 with h|h
  ·omega
  ·have:=hthw j h;omega
 have C5_27:Ch (fun j=>j=b) w5 w27:=((ed.trans e15).mono fun _ _ h=>h.elim).trans (c19.trans (((ed19.trans e25).trans e27).mono fun _ _ h=>h.elim))
 have C15_27:Ch (fun j=>j=b) w15 w27:=c19.trans (((ed19.trans e25).trans e27).mono fun _ _ h=>h.elim)
 have wy27:OwS w27 s 2 (ms.flatMap setC):=hos.ch C5_27 fun j hj e=>by have:=hsnew j hj;omega
 have wy37:OwS w37 s 2 (ms.flatMap setC):=wy27.ch late fun j hj=>ap j (hsnew j hj)
 have hcg':Cg (ns++[n]) (ns++[n']):=by
  show List.map dOf _=List.map dOf _
  rw[List.map_append,List.map_append];simp[hd]
 have on27:OwS w27 s16 1 (rows'.map hR):=hOR.own.ch C15_27 fun j hj e=>by have:=hOR.new j hj;omega
 have row27:∀r∈rows',OwS w27 r.1 1 (r.2.map iv):=fun r hr=>(hOR.row r hr).ch C15_27 fun j hj e=>by have:=hOR.rnew r hr j hj;omega
 refine⟨0,s30,ns++[n'],rfl,hA,fun _=>⟨n',hd,rfl⟩,fun h=>absurd rfl h,⟨v,s16,s,rows',ms,⟨⟨_,h37⟩,(hK.cat.ch C37 (st fun j h=>h)).mono oldP,hK.br,hK.b16,hK.brr,?_,fun m hm=>?_,on27.ch late fun j hj=>ap j (by have:=hOR.new j hj;omega),fun j hj=>newP j (by have:=hOR.new j hj;omega) (on27.lt j hj),fun r hr=>⟨(row27 r hr).ch late fun j hj=>ap j (by have:=hOR.rnew r hr j hj;omega),fun j hj=>newP j (by have:=hOR.rnew r hr j hj;omega) ((row27 r hr).lt j hj)⟩,wy37,fun j hj=>newP j (hsnew j hj) (wy27.lt j hj),.inl hK.db.1,fun j hj=>?_,nb30⟩,⟨hP.ok,hgood.1.cg hcg',by simp;omega,by rw[hrl'];simp,fun i r hr=>(hrw' i r hr).cg hcg',by rw[hml];simp,hmb,fun i j m hm=>(hmw i j m hm).trans ⟨fun t=>t.cg hcg',fun t=>t.cg hcg'.symm⟩,hgood.2.imp fun r hr=>hr.cg hcg'⟩⟩,C37,fun j hj=>?_⟩
 ·exact(ho31.ch c34 fun j hj e=>nb30 (e ▸ hj)).ch c37 fun j hj e=>nb30 (e ▸ hj)
 ·rcases List.mem_append.1 hm with h|h
  ·exact((hK.nd m h).ch C37 (st fun j h=>h)).mono oldP
  ·rw[List.mem_singleton.1 h]
   have h28:=(hnd28 n' (by simp)).old
   exact(h28.ch late fun j hj=>ap j (by have:=hj.1.1;omega)).mono fun j hj=>newP j (by have:=hj.1.1;omega) hj.2
 ·rcases hb31 j hj with h|h
  ·exact .inl (hK.dth j h).1
  ·exact .inr (by omega)
 ·rcases hb31 j hj with h|h
  ·exact .inl h
  ·exact .inr (by omega)
section
variable {D:Nat->Prop} {w:World} {b:Nat} {th:Sl} {x:CatD} {ns:List Nd}
theorem c65(hG:GrM D w b th x ns):Cw 65 #[.pointer (some ⟨b,0,none⟩)] w fun r w'=>∃t' ks,r=slV t'/\Cg ks ns/\OwS w' t' 6 (ks.flatMap nL)/\(∀n∈ks,NdD (fun j=>w.heap.size<=j/\j∉blk t') w' n)/\Ext w w'/\∀j∈blk t',w.heap.size<=j:=by
 obtain⟨v,ton,tw,rows,ms,hK,hP⟩:=hG
 have hl:=hP.len
 refine F65_ok (some ⟨b,0,none⟩) w _ (IfB.no rfl ⟨b,0,rfl,th,hK.slot.1,(c119 (hK.hst (by omega)) (by omega)).use ?_⟩)
 rintro _ w5 ⟨t',ks,rfl,h1,h2,h3,h4,h5⟩
 exact⟨t',rfl,t',ks,rfl,h1,h2,h3,h4,h5⟩
theorem c57(hG:GrM D w b th x ns):Cw 57 #[.pointer (some ⟨b,0,none⟩)] w fun r w'=>∃b' th',r=.pointer (some ⟨b',0,none⟩)/\GrM (fun j=>(D j/\j≠b/\j∉blk th)\/w.heap.size<=j) w' b' th' x ns/\w.heap.size<=b'/\(∀j∈blk th',w.heap.size<=j)/\Ext w w':=by
 obtain⟨v,ton,tw,rows,ms,hK0,hP⟩:=hG
 have hK:=hK0.old
 have hl:=hP.len
 have hrl:=hP.rl
 have hml:=hP.ml
 have ed:=extDrew w
 have hKd:=hK.ch ed fun _ _=>id
 refine H57_ok (some ⟨b,0,none⟩) w _ (IfB.no rfl ⟨b,0,rfl,v,hKd.slot.2.2.2,b,0,rfl,th,hKd.slot.1,b,0,rfl,ton,hKd.slot.2.1,b,0,rfl,tw,hKd.slot.2.2.1,?_⟩)
 have hrd:=hKd.own.rd
 rw[flat_v] at hrd
 refine(c96 hrd (by rw[List.length_map];omega)).use ?_
 rintro _ w16 ⟨s17,rfl,ho17,e16,hb17⟩
 rw[<-flat_v] at ho17
 have hK16:=hKd.ch e16 fun _ _=>id
 have hton:=hK.rws.n
 refine⟨s17,rfl,hK16.slot.2.2.1,hK16.slot.2.1,hK16.slot.2.2.2,(c120 hK16.on.rd (fun v hv=>by obtain⟨r,_,rfl⟩:=List.mem_map.1 hv;rfl) (by omega)).use ?_⟩
 rintro _ w21 ⟨s22,rfl,ho22,_,e21,hb22⟩
 have hK21:=hK16.ch e21 fun _ _=>id
 have htw:=owsN setC_len (by omega) hK.wy
 refine⟨s22,rfl,hK21.slot.2.2.1,hK21.slot.2.2.2,(c121 hK21.wy.rd (flatOne setC_one _) (by omega)).use ?_⟩
 rintro _ w26 ⟨s27,rfl,ho27,_,e26,hb27⟩
 have hK26:=hK21.ch e26 fun _ _=>id
 refine⟨s27,rfl,hK26.slot.2.2.2,?_⟩
 have hv16:v.2.length=16:=by have:=grC_len hK;rw[List.length_cons] at this;omega
 rw[grF_all hv16]
 refine fun b31 w32 a32=>?_
 have e32:Ext w26 w32:=a32.ch _
 have E26:Ext w w26:=((ed.trans e16).trans e21).trans e26
 have z0:=(ed.trans e16).size;have z16:=e16.size;have z21:=e21.size;have z26:=e26.size;have p32:=a32.here
 have zd:w.drew.heap.size=w.heap.size:=rfl
 have lt17:∀j∈blk s17,j<w16.heap.size:=ho17.lt
 have lt22:∀j∈blk s22,j<w21.heap.size:=ho22.lt
 have lt27:∀j∈blk s27,j<w26.heap.size:=ho27.lt
 have oldP:∀j,((D j/\j<w.heap.size)/\j≠b/\j∉blk th)->((D j/\j≠b/\j∉blk th)\/w.heap.size<=j)/\j≠b31/\j∉blk s17:=fun j hj=>⟨.inl ⟨hj.1.1,hj.2⟩,by have:=hj.1.2;omega,fun h=>by have:=hb17 j h;have:=hj.1.2;omega⟩
 have hK32:=hK26.ch e32 fun _ _=>id
 refine⟨b31,s17,rfl,⟨v,s22,s27,rows,ms,⟨⟨_,a32.new⟩,hK32.cat.mono oldP,hK.br,hK.b16,hK.brr,((ho17.ext e21).ext e26).ext e32,fun n hn=>(hK32.nd n hn).mono oldP,(ho22.ext e26).ext e32,fun j hj=>⟨.inr (by have:=hb22 j hj;omega),by have:=lt22 j hj;omega,fun h=>by have:=hb22 j hj;have:=lt17 j h;omega⟩,fun r hr=>⟨(hK32.row r hr).1,fun j hj=>oldP j ((hK32.row r hr).2 j hj)⟩,ho27.ext e32,fun j hj=>⟨.inr (by have:=hb27 j hj;omega),by have:=lt27 j hj;omega,fun h=>by have:=hb27 j hj;have:=lt17 j h;omega⟩,.inr (by omega),fun j hj=>.inr (by have:=hb17 j hj;omega),fun h=>by have:=lt17 _ h;omega⟩,hP⟩,by omega,fun j hj=>by have:=hb17 j hj;omega,E26.trans e32⟩
end
def alvH(s5 s6:Sl):List Nd:=[⟨(1,0,0,false,nilS,s5),[],[(5,5)]⟩,⟨(2,0,0,false,nilS,s5),[],[(5,5)]⟩,⟨(2,0,1,false,nilS,s6),[],[(6,6)]⟩,⟨(1,0,1,false,nilS,s6),[],[(6,6)]⟩]
theorem alvH_may(s5 s6:Sl):HMay catA (alvH s5 s6):=by
 have h5:SpsOk [(5,5)]:=⟨by decide,fun s hs=>by rw[List.mem_singleton.1 hs];unfold mayS;omega⟩
 have h6:SpsOk [(6,6)]:=⟨by decide,fun s hs=>by rw[List.mem_singleton.1 hs];unfold mayS;omega⟩
 have h0:SpsOk []:=⟨by decide,fun s hs=>by cases hs⟩
 refine⟨catA_ok,(by decide:4<=100),fun i n hn=>?_⟩
 match i,hn with
 | 0,hn=>cases hn;exact⟨(by decide:(0:Int)<=1),(by decide:(0:Int)<=0),(by decide:(0:Int)<1),(by decide:(0:Int)<=0),h0,h5,(⟨rfl,rfl⟩:nextP none _ _)⟩
 | 1,hn=>cases hn;exact⟨(by decide:(0:Int)<=2),(by decide:(0:Int)<=0),(by decide:(0:Int)<1),(by decide:(0:Int)<=0),h0,h5,(⟨rfl,rfl⟩:nextP none _ _)⟩
 | 2,hn=>cases hn;exact⟨(by decide:(0:Int)<=2),(by decide:(0:Int)<=0),(by decide:(0:Int)<1),(by decide:(0:Int)<=1),h0,h6,(⟨rfl,rfl,(by decide:(1:Int)<2)⟩:nextP (some ⟨(2,0,0,false,nilS,s5),[],[(5,5)]⟩) ⟨(2,0,1,false,nilS,s6),[],[(6,6)]⟩ _)⟩
 | 3,hn=>cases hn;exact⟨(by decide:(0:Int)<=1),(by decide:(0:Int)<=0),(by decide:(0:Int)<1),(by decide:(0:Int)<=1),h0,h6,(⟨rfl,rfl,(by decide:(1:Int)<2)⟩:nextP (some ⟨(1,0,0,false,nilS,s5),[],[(5,5)]⟩) ⟨(1,0,1,false,nilS,s6),[],[(6,6)]⟩ _)⟩
theorem alvH_get(s5 s6:Sl){i:Nat}{n:Nd}(h:(alvH s5 s6)[i]? =some n):(i=0/\n.v.1=1)\/(i=1/\n.v.1=2)\/(i=2/\n.v.1=2)\/(i=3/\n.v.1=1):=by
 match i,h with
 | 0,h=>cases h;exact .inl ⟨rfl,rfl⟩
 | 1,h=>cases h;exact .inr (.inl ⟨rfl,rfl⟩)
 | 2,h=>cases h;exact .inr (.inr (.inl ⟨rfl,rfl⟩))
 | 3,h=>cases h;exact .inr (.inr (.inr ⟨rfl,rfl⟩))
theorem alvH_good(s5 s6:Sl):FairR catA ((alvH s5 s6).take 3) id:=by
 refine⟨fun i j _ _ e=>e,fun i k e=>e.1,fun o a b u no na ho ha hne hab h1 h2 hau hd=>?_⟩
 obtain⟨nb,hb,hsb⟩:=hab.saga ha
 have k1:=alvH_get s5 s6 (take_get ho).2
 have k2:=alvH_get s5 s6 (take_get ha).2
 have k3:=alvH_get s5 s6 (take_get hb).2
 have l1:=(take_get ho).1;have l2:=(take_get ha).1;have l3:=(take_get hb).1
 have h1:a<=o:=h1
 have h2:o<=b:=h2
 omega
theorem alvH_bad(s5 s6:Sl)(r:Nat->Nat):¬FairR catA (alvH s5 s6) r:=by
 intro h
 have m5:hasS [(5,5)] 5:=⟨_,List.mem_singleton.2 rfl,by unfold mayS;omega,by omega,by omega⟩
 have m6:hasS [(6,6)] 6:=⟨_,List.mem_singleton.2 rfl,by unfold mayS;omega,by omega,by omega⟩
 have h10:EdP (alvH s5 s6) 1 0:=⟨by omega,_,_,rfl,rfl,.inr ⟨by simp,.inr (.inl ⟨5,m5,m5⟩)⟩⟩
 have h21:EdP (alvH s5 s6) 2 1:=⟨by omega,_,_,rfl,rfl,.inl rfl⟩
 have h32:EdP (alvH s5 s6) 3 2:=⟨by omega,_,_,rfl,rfl,.inr ⟨by simp,.inr (.inl ⟨6,m6,m6⟩)⟩⟩
 have k1:=h.keep _ _ h10
 have k2:=h.keep _ _ h21
 have k3:=h.keep _ _ h32
 have u0:∀c d k,unitN catA c d k=0:=fun c d k=>by
  induction k with
  | zero=>rfl
  | succ k ih=>rw[unitN,ih,brkBA];rfl
 have hin:InP catA (alvH s5 s6) 0 3 0:=.inr ⟨_,_,rfl,rfl,rfl,rfl,rfl,by unfold uN;rw[u0,u0]⟩
 exact h.fair 1 0 3 0 _ _ rfl rfl (by simp) hin (by omega) (by omega) (.inl rfl) (.inl (.one h10))
def GxOYby0:ByteArray:=(ByteArray.mk (Array.mk ([(97:UInt8)] )))
set_option linter.unusedVariables false
set_option maxRecDepth 100000
def F52k1(n26:Int)(n29:Int)(p16:Option Addr)(b19:Nat)(w28:World)(R:RV):Prop:=IfB (n26 == 0) (IfB (n29 == 0) (Qw' 56 #[Value.pointer p16,Value.agg #[Qz 1,Qz 0,Qz 1,Value.bool false,Value.slice none 0 0,Value.slice (some ⟨b19,0,none⟩) 1 1]] w28 fun n32 w31=>IfB (n32 == 11) (Qu' 65 #[Value.pointer p16] w31 fun s35 w34=>R (Value.bool ((s35.2:Int) == 3)) w34) (R (Value.bool false) w31)) (R (Value.bool false) w28)) (R (Value.bool false) w28)
def F52(w:World)(R:RV):Prop:=1*9<=16777216/\AllocP w (Obj.cells #[Qz 5,Qz 0,Qz 0,Qz 0,Qz 0,Qz 0,Qz 0,Qz 0,Qz 0] 95) fun b1 w2=>AllocP w2 (Obj.cells #[Value.slice none 0 0,Value.slice none 0 0] 99) fun b3 w4=>#[Value.slice (some ⟨b1,0,none⟩) 1 1,Value.slice none 0 0].size=2/\StoreP w4 b3 0 [Value.slice (some ⟨b1,0,none⟩) 1 1,Value.slice none 0 0] fun w5=>∃(x6:Sl×Sl),CellsAt w5.drew b3 0 [Qy x6.fst,Qy x6.snd]/\∃(x7:Sl×Sl),CellsAt w5.drew b3 0 [Qy x7.fst,Qy x7.snd]/\(2*2<=16777216/\AllocP w5.drew (Obj.cells #[Qy x6.fst,Qy x6.snd,Qy x7.fst,Qy x7.snd] 99) fun b8 w9=>((0:Int)<=2/\(2:Int)<=2/\(2:Int)<=281474976710656/\((48:Nat):Int)*(2:Int)<=281474976710656)/\AllocP w9 (Obj.cells { toList:=zc #[Value.slice none 0 0,Value.slice none 0 0] (Int.toNat 2) } 99) fun b10 w11=>1*5<=16777216/\AllocP w11 (Obj.cells #[Value.string GxOYby0,Qz 0,Value.slice (some ⟨b8,0,none⟩) 2 2,Value.slice (some ⟨b10,0,none⟩) (Int.toNat 2) (Int.toNat 2),Value.bool false] 49) fun b12 w13=>Cx 54 #[Value.agg #[Value.slice (some ⟨b12,0,none⟩) 1 1,Qz 0,Qz 0,Qz 0,Qz 0,Qz 0,Qz 0,Qz 0,Qz 0,Qz 0,Qz 0,Qz 0,Qz 0,Qz 0,Qz 0,Qz 0,Qz 0]] w13 fun v14 w15=>∃(p16:Option Addr),v14=Value.pointer p16/\1*2<=16777216/\AllocP w15 (Obj.cells #[Qz 5,Qz 5] 101) fun b17 w18=>1*2<=16777216/\AllocP w18 (Obj.cells #[Qz 6,Qz 6] 101) fun b19 w20=>Qw' 56 #[Value.pointer p16,Value.agg #[Qz 1,Qz 0,Qz 0,Value.bool false,Value.slice none 0 0,Value.slice (some ⟨b17,0,none⟩) 1 1]] w20 fun n23 w22=>Qw' 56 #[Value.pointer p16,Value.agg #[Qz 2,Qz 0,Qz 0,Value.bool false,Value.slice none 0 0,Value.slice (some ⟨b17,0,none⟩) 1 1]] w22 fun n26 w25=>Qw' 56 #[Value.pointer p16,Value.agg #[Qz 2,Qz 0,Qz 1,Value.bool false,Value.slice none 0 0,Value.slice (some ⟨b19,0,none⟩) 1 1]] w25 fun n29 w28=>IfB (n23 == 0) (F52k1 n26 n29 p16 b19 w28 R) (R (Value.bool false) w28))/\((0:Int)<=2/\(2:Int)<=2/\(2:Int)<=281474976710656/\((48:Nat):Int)*(2:Int)<=281474976710656)/\AllocP w5.drew (Obj.cells { toList:=zc #[Value.slice none 0 0,Value.slice none 0 0] (Int.toNat 2) } 99) fun b36 w37=>CellsAt w37 b3 0 [Qy x7.fst,Qy x7.snd]/\CellsAt w37 b3 0 [Qy x6.fst,Qy x6.snd]/\2*2<=16777216/\AllocP w37 (Obj.cells #[Qy x6.fst,Qy x6.snd,Qy x7.fst,Qy x7.snd] 99) fun b38 w39=>1*5<=16777216/\AllocP w39 (Obj.cells #[Value.string GxOYby0,Qz 0,Value.slice (some ⟨b38,0,none⟩) 2 2,Value.slice (some ⟨b36,0,none⟩) (Int.toNat 2) (Int.toNat 2),Value.bool false] 49) fun b40 w41=>Cx 54 #[Value.agg #[Value.slice (some ⟨b40,0,none⟩) 1 1,Qz 0,Qz 0,Qz 0,Qz 0,Qz 0,Qz 0,Qz 0,Qz 0,Qz 0,Qz 0,Qz 0,Qz 0,Qz 0,Qz 0,Qz 0,Qz 0]] w41 fun v42 w43=>∃(p44:Option Addr),v42=Value.pointer p44/\1*2<=16777216/\AllocP w43 (Obj.cells #[Qz 5,Qz 5] 101) fun b45 w46=>1*2<=16777216/\AllocP w46 (Obj.cells #[Qz 6,Qz 6] 101) fun b47 w48=>Qw' 56 #[Value.pointer p44,Value.agg #[Qz 1,Qz 0,Qz 0,Value.bool false,Value.slice none 0 0,Value.slice (some ⟨b45,0,none⟩) 1 1]] w48 fun n51 w50=>Qw' 56 #[Value.pointer p44,Value.agg #[Qz 2,Qz 0,Qz 0,Value.bool false,Value.slice none 0 0,Value.slice (some ⟨b45,0,none⟩) 1 1]] w50 fun n54 w53=>Qw' 56 #[Value.pointer p44,Value.agg #[Qz 2,Qz 0,Qz 1,Value.bool false,Value.slice none 0 0,Value.slice (some ⟨b47,0,none⟩) 1 1]] w53 fun n57 w56=>IfB (n51 == 0) (F52k1 n54 n57 p44 b47 w56 R) (R (Value.bool false) w56)
theorem F52_ok(w:World)(R:RV)(h:F52 w R):Cw 52 #[] w R:=
 call_of tbOk mixed en52 Tryz.func52 rfl (nd (nd (.node (.draw (sts [0,1] (.ac 2 [] (.ac 3 [] (.st 4 (.ac 5 [] (.st 6 (.ac 7 [] (.st 8 .fin) .non)) .non)) .non) (.ac 3 [1,0] (.ac 2 [] (.st 4 (.ac 5 [] (.st 6 (.ac 7 [] (.st 8 .fin) .non)) .non)) .non) .non)))) .nil))) (by kernel_rfl) (Nat.le_of_ble_eq_true (by kernel_rfl)) (Eq.mp (α:=F52 w R) (by kernel_rfl) h)
def F16k1(t1:Sl)(n27:Int)(w28:World)(p23:Option Addr)(b26:Nat)(y24:Nat->Int->World->Prop)(R:RV):Prop:=Qx t1.1 n27 (t1.2:Int) fun b34 b35=>∃(x36:Int×Int×Int×Bool×Sl×Sl),CellsAt w28 b34 (b35+n27.toNat*6) (lC53 x36)/\Qw' 55 #[Value.pointer p23,Value.agg (lC53 x36).toArray] w28 fun n39 w38=>IfB (n39 != 11) (Qx t1.1 n27 (t1.2:Int) fun b40 b41=>∃(x42:Int×Int×Int×Bool×Sl×Sl),CellsAt w38 b40 (b41+n27.toNat*6) (lC53 x42)/\Qw' 56 #[Value.pointer p23,Value.agg (lC53 x42).toArray] w38 fun n45 w44=>Qn y24 b26 (IntKind.i64.wrap (n27+1)) w44) (Cx 57 #[Value.pointer p23] w38 fun v47 w48=>∃(p49:Option Addr),v47=Value.pointer p49/\Qw' 56 #[Value.pointer p49,Value.agg #[Qz (IntKind.i64.wrap (100000+n27)),Qz 0,Qz 0,Value.bool false,Value.slice none 0 0,Value.slice none 0 0]] w48 fun n52 w51=>IfB (n52 != 0) (R (Value.bool false) w51) (Qx t1.1 n27 (t1.2:Int) fun b53 b54=>∃(x55:Int×Int×Int×Bool×Sl×Sl),CellsAt w51 b53 (b54+n27.toNat*6) (lC53 x55)/\Qw' 55 #[Value.pointer p49,Value.agg (lC53 x55).toArray] w51 fun n58 w57=>IfB (n58 != 11) (R (Value.bool false) w57) (Qn y24 b26 (IntKind.i64.wrap (n27+1)) w57)))
def F16j1(t1:Sl)(R:RV)(p23:Option Addr)(y24:Nat->Int->World->Prop)(b26:Nat)(n27:Int)(w28:World):Prop:=IfB (decide (n27<(t1.n:Int))) (IfB (decide (n27<14)) (Qx t1.1 n27 (t1.2:Int) fun b31 b32=>Qi w28 b31 (b32+n27.toNat*6+0) fun n33=>IfB (decide (1000<n33)) (R (Value.bool true) w28) (F16k1 t1 n27 w28 p23 b26 y24 R)) (R (Value.bool true) w28)) (R (Value.bool true) w28)
theorem F16_ok(t0:Sl×List Value)(t1:Sl)(w:World)(R:RV)(h:AllocP w (Obj.cells { toList:=Qy t0.fst::t0.2 } 26) fun b1 w2=>Qv' 52 #[] w2 fun t5 w4=>IfB (!t5) (R (Value.bool false) w4) (∃(x6:Sl×List Value),CellsN w4 b1 0 17 (Qy x6.fst::x6.2)/\Qv' 29 #[Value.agg { toList:=Qy x6.fst::x6.2 },Qy t1] w4 fun t11 w10=>IfB t11 (R (Value.bool true) w10) (∃(x12:Sl×List Value),CellsN w10 b1 0 17 (Qy x12.fst::x12.2)/\Qv' 53 #[Value.agg { toList:=Qy x12.fst::x12.2 }] w10 fun t17 w16=>IfB (!t17) (R (Value.bool true) w16) (∃(x18:Sl×List Value),CellsN w16 b1 0 17 (Qy x18.fst::x18.2)/\Cx 54 #[Value.agg { toList:=Qy x18.fst::x18.2 }] w16 fun v21 w22=>∃(p23:Option Addr),v21=Value.pointer p23/\IfB p23.isNone (R (Value.bool false) w22) (Ql (α:=Int) 0 w22 fun y24 b26 n27 w28=>(F16j1 t1 R p23 y24 b26 n27 w28)))))):Cw 16 #[Value.agg { toList:=Qy t0.fst::t0.2 },Qy t1] w R:=
 ckF Tryz.func16 (nd (nd (nd (nd (nd (.node (nd (.loop [(6,oi)] (rg [4,4,6,8,23,69]) .nil)) .nil)))))) h (by kernel_rfl) (by kernel_rfl)
theorem AskP.good{x:CatD}{ns:List Nd}{n:Nd}{e:Int}(h:AskP x ns n e)(hg:GoodP x (ns++[n])):e=0:=by
 rcases h with ⟨_,h⟩|⟨_,_,h⟩|⟨h,_⟩
 ·exact absurd hg.1 h
 ·exact absurd hg.2 h
 ·exact h
theorem AskP.cyc{x:CatD}{ns:List Nd}{n:Nd}{e:Int}(h:AskP x ns n e)(hM:HMay x (ns++[n]))(hF:¬ ∃r,FairR x (ns++[n]) r):e=11:=by
 rcases h with ⟨_,h⟩|⟨h,_⟩|⟨_,h⟩
 ·exact absurd hM h
 ·exact h
 ·exact absurd h.2 hF
theorem addGood{D:Nat->Prop}{w:World}{b:Nat}{th:Sl}{x:CatD}{ns:List Nd}{n:Nd}(hG:GrM D w b th x ns)(hN:NdA (fun j=>j≠b/\j∉blk th) w n)(hl:ns.length<=49)(hg:GoodP x (ns++[n])):
  Cw 56 #[.pointer (some ⟨b,0,none⟩),ndV n.v] w fun r w'=>r=iv 0/\∃th' n',dOf n'=dOf n/\GrM (fun j=>D j\/w.heap.size<=j) w' b th' x (ns++[n'])/\Ch (fun j=>j=b\/j∈blk th) w w'/\∀j∈blk th',j∈blk th\/w.heap.size<=j:=
 (c56 hG hN hl).mono fun r w' ⟨e,th',ns',hr,hA,h0,_,hG',hC,hb⟩=>by
  have he:=hA.good hg
  subst he
  obtain⟨n',hd,rfl⟩:=h0 rfl
  exact⟨hr,th',n',hd,hG',hC,hb⟩
abbrev alvN(s:Sl)(sa st k:Int):Nd:=⟨(sa,0,st,false,⟨none,0,0⟩,s),[],[(k,k)]⟩
def Alv18T(p16:Option Addr)(w15:World)(R:RV):Prop:=
 1*2<=16777216/\AllocP w15 (Obj.cells #[Value.int IntKind.i64 5,Value.int IntKind.i64 5] 101) fun(b17:Nat) (w18:World)=>
 1*2<=16777216/\AllocP w18 (Obj.cells #[Value.int IntKind.i64 6,Value.int IntKind.i64 6] 101) fun(b19:Nat) (w20:World)=>
 Cx 56 #[Value.pointer p16,ndV (alvN ⟨some ⟨b17,0,none⟩,1,1⟩ 1 0 5).v] w20 fun(v21:Value) (w22:World)=>∃n23:Int,v21=Value.int IntKind.i64 n23/\
 Cx 56 #[Value.pointer p16,ndV (alvN ⟨some ⟨b17,0,none⟩,1,1⟩ 2 0 5).v] w22 fun(v24:Value) (w25:World)=>∃n26:Int,v24=Value.int IntKind.i64 n26/\
 Cx 56 #[Value.pointer p16,ndV (alvN ⟨some ⟨b19,0,none⟩,1,1⟩ 2 1 6).v] w25 fun(v27:Value) (w28:World)=>∃n29:Int,v27=Value.int IntKind.i64 n29/\
 IfB (n23 == 0) (F52k1 n26 n29 p16 b19 w28 R) (R (Value.bool false) w28)
theorem alv18{w0 w:World}{b:Nat}(hG:GrM (fun j=>w0.heap.size<=j) w b ⟨none,0,0⟩ catA [])(e0:Ext w0 w){R:RV}(hR:∀w',Ext w0 w'->R (.bool true) w'):Alv18T (some ⟨b,0,none⟩) w R:=by
 have hG0:=hG.old
 obtain⟨⟨hb0,hbw⟩, -⟩:(w0.heap.size<=b/\b<w.heap.size)/\True:=⟨by obtain⟨v,ton,tw,rows,ms,hK,_⟩:=hG0;exact hK.db,trivial⟩
 refine⟨by decide,fun b17 w18 a18=>⟨by decide,fun b19 w20 a20=>?_⟩⟩
 have e18:Ext w w18:=a18.ch _
 have e20:Ext w18 w20:=a20.ch _
 have E20:=e18.trans e20
 have p18:=a18.here;have z18:=a18.size;have p20:=a20.here;have z20:=a20.size;have z0:=e0.size
 have r5:Rd w20 ⟨some ⟨b17,0,none⟩,1,1⟩ 2 ([((5,5):Spn)].flatMap sv):=((OwS.new (cs:=[((5,5):Spn)].flatMap sv) (n:=1) (sz:=2) a18 rfl).ext e20).rd
 have r6:Rd w20 ⟨some ⟨b19,0,none⟩,1,1⟩ 2 ([((6,6):Spn)].flatMap sv):=(OwS.new (cs:=[((6,6):Spn)].flatMap sv) (n:=1) (sz:=2) a20 rfl).rd
 have nd:∀ {W:World}{p:Nat}{k sa st:Int},Rd W ⟨some ⟨p,0,none⟩,1,1⟩ 2 ([((k,k):Spn)].flatMap sv)->NdA (fun j=>j=p) W (alvN ⟨some ⟨p,0,none⟩,1,1⟩ sa st k):=fun h=>⟨(OwS.nil _ 2).rd,h,fun h=>absurd h (Nat.lt_irrefl _),fun _ j hj=>by simpa [blk] using hj,Nat.zero_le _,by simp⟩
 obtain⟨s5,hs5⟩:∃s:Sl,s=⟨some ⟨b17,0,none⟩,1,1⟩:=⟨_,rfl⟩
 obtain⟨s6,hs6⟩:∃s:Sl,s=⟨some ⟨b19,0,none⟩,1,1⟩:=⟨_,rfl⟩
 have g1:GoodP catA ([]++[alvN ⟨some ⟨b17,0,none⟩,1,1⟩ 1 0 5]):=⟨(alvH_may ⟨some ⟨b17,0,none⟩,1,1⟩ ⟨some ⟨b19,0,none⟩,1,1⟩).take 1,id,(alvH_good ⟨some ⟨b17,0,none⟩,1,1⟩ ⟨some ⟨b19,0,none⟩,1,1⟩).take 1⟩
 have g2:GoodP catA [alvN ⟨some ⟨b17,0,none⟩,1,1⟩ 1 0 5,alvN ⟨some ⟨b17,0,none⟩,1,1⟩ 2 0 5]:=⟨(alvH_may ⟨some ⟨b17,0,none⟩,1,1⟩ ⟨some ⟨b19,0,none⟩,1,1⟩).take 2,id,(alvH_good ⟨some ⟨b17,0,none⟩,1,1⟩ ⟨some ⟨b19,0,none⟩,1,1⟩).take 2⟩
 have g3:GoodP catA [alvN ⟨some ⟨b17,0,none⟩,1,1⟩ 1 0 5,alvN ⟨some ⟨b17,0,none⟩,1,1⟩ 2 0 5,alvN ⟨some ⟨b19,0,none⟩,1,1⟩ 2 1 6]:=⟨(alvH_may ⟨some ⟨b17,0,none⟩,1,1⟩ ⟨some ⟨b19,0,none⟩,1,1⟩).take 3,id,alvH_good ⟨some ⟨b17,0,none⟩,1,1⟩ ⟨some ⟨b19,0,none⟩,1,1⟩⟩
 have m4:HMay catA [alvN ⟨some ⟨b17,0,none⟩,1,1⟩ 1 0 5,alvN ⟨some ⟨b17,0,none⟩,1,1⟩ 2 0 5,alvN ⟨some ⟨b19,0,none⟩,1,1⟩ 2 1 6,alvN ⟨some ⟨b19,0,none⟩,1,1⟩ 1 1 6]:=alvH_may ⟨some ⟨b17,0,none⟩,1,1⟩ ⟨some ⟨b19,0,none⟩,1,1⟩
 have f4:∀r,¬FairR catA [alvN ⟨some ⟨b17,0,none⟩,1,1⟩ 1 0 5,alvN ⟨some ⟨b17,0,none⟩,1,1⟩ 2 0 5,alvN ⟨some ⟨b19,0,none⟩,1,1⟩ 2 1 6,alvN ⟨some ⟨b19,0,none⟩,1,1⟩ 1 1 6] r:=alvH_bad ⟨some ⟨b17,0,none⟩,1,1⟩ ⟨some ⟨b19,0,none⟩,1,1⟩
 clear hs5 hs6 s5 s6
 refine(addGood (hG0.ext E20) ((nd r5).mono fun j hj=>⟨by omega,by simp[blk]⟩) (by simp) g1).use ?_
 rintro _ w22 ⟨rfl,th1,n1,d1,hG1,C1,hb1⟩
 have z22:=C1.size
 have k1:∀j,j=b17\/j=b19->¬(j=b\/j∈blk (⟨none,0,0⟩:Sl)):=fun j hj h=>by
  rcases h with h|h
  ·omega
  ·simp[blk] at h
 have r5:=r5.ch C1 fun j hj=>k1 j (.inl (by simpa [blk] using hj))
 have r6:=r6.ch C1 fun j hj=>k1 j (.inr (by simpa [blk] using hj))
 have t1:∀j∈blk th1,w20.heap.size<=j:=fun j hj=>(hb1 j hj).elim (fun h=>by simp[blk] at h) id
 refine⟨0,rfl,(addGood hG1 ((nd r5).mono fun j hj=>⟨by omega,fun h=>by have:=t1 j h;omega⟩) (by simp) (g2.cg (by show List.map dOf _=List.map dOf _;simp[d1]))).use ?_⟩
 rintro _ w25 ⟨rfl,th2,n2,d2,hG2,C2,hb2⟩
 have z25:=C2.size
 have r6:=r6.ch C2 fun j hj h=>by
  have hj:j=b19:=by simpa [blk] using hj
  rcases h with h|h
  ·omega
  ·have:=t1 j h;omega
 have t2:∀j∈blk th2,w20.heap.size<=j:=fun j hj=>(hb2 j hj).elim (t1 j) fun h=>by omega
 refine⟨0,rfl,(addGood hG2 ((nd r6).mono fun j hj=>⟨by omega,fun h=>by have:=t2 j h;omega⟩) (by simp) (g3.cg (by show List.map dOf _=List.map dOf _;simp[d1,d2]))).use ?_⟩
 rintro _ w28 ⟨rfl,th3,n3,d3,hG3,C3,hb3⟩
 have z28:=C3.size
 have r6:=r6.ch C3 fun j hj h=>by
  have hj:j=b19:=by simpa [blk] using hj
  rcases h with h|h
  ·omega
  ·have:=t2 j h;omega
 have t3:∀j∈blk th3,w20.heap.size<=j:=fun j hj=>(hb3 j hj).elim (t2 j) fun h=>by omega
 refine⟨0,rfl,IfB.yes rfl (IfB.yes rfl (IfB.yes rfl ((c56 (n:=alvN ⟨some ⟨b19,0,none⟩,1,1⟩ 1 1 6) hG3 ((nd r6).mono fun j hj=>⟨by omega,fun h=>by have:=t3 j h;omega⟩) (by simp)).use ?_)))⟩
 rintro _ w31 ⟨e,th4,ns4,rfl,hA,_,hne,hG4,C4,_⟩
 have hcg:Cg [alvN ⟨some ⟨b17,0,none⟩,1,1⟩ 1 0 5,alvN ⟨some ⟨b17,0,none⟩,1,1⟩ 2 0 5,alvN ⟨some ⟨b19,0,none⟩,1,1⟩ 2 1 6,alvN ⟨some ⟨b19,0,none⟩,1,1⟩ 1 1 6] ([]++[n1]++[n2]++[n3]++[alvN ⟨some ⟨b19,0,none⟩,1,1⟩ 1 1 6]):=by
  show List.map dOf _=List.map dOf _
  simp[d1,d2,d3]
 have he:=hA.cyc (m4.cg hcg) fun⟨r,hr⟩=>f4 r (hr.cg hcg.symm)
 subst he
 obtain⟨rfl,rfl⟩:=hne (by decide)
 refine⟨11,rfl,IfB.yes rfl ((c65 hG4).use ?_)⟩
 rintro _ w34 ⟨t',ks,rfl,hk,ho,_,e34,_⟩
 have hn:=owsN nL_len (by omega) ho
 have hkl:=Cg.len hk
 refine⟨t',rfl,?_⟩
 have h3:t'.n=3:=by rw[hn,hkl];rfl
 have C:Ch (fun j=>w0.heap.size<=j) w20 w31:=(((C1.mono fun j _ h=>?_).trans (C2.mono fun j _ h=>?_)).trans (C3.mono fun j _ h=>?_)).trans (C4.mono fun j _ h=>?_)
 ·exact Eq.mpr (congrArg (fun z=>R (.bool z) w34) (show ((t'.n:Int) == 3)=true by rw[h3];rfl)) (hR w34 (((e0.trans E20).chN C fun j hj=>hj).trans e34))
 ·rcases h with h|h
  ·omega
  ·simp[blk] at h
 ·rcases h with h|h
  ·omega
  ·have:=t1 j h;omega
 ·rcases h with h|h
  ·omega
  ·have:=t2 j h;omega
 ·rcases h with h|h
  ·omega
  ·have:=t3 j h;omega
theorem c52(w:World):Cw 52 #[] w fun v w'=>v=.bool true/\Ext w w':=by
 refine F52_ok w _ ⟨by decide,fun b1 w2 a1=>fun b3 w4 a3=>⟨rfl,store_all (vs:=[slV ⟨some ⟨b1,0,none⟩,1,1⟩,slV ⟨none,0,0⟩]) a3.new rfl (by intro v hv;simp at hv;rcases hv with rfl|rfl<;>rfl) fun w5 u5=>?_⟩⟩
 have e2:Ext w w2:=a1.ch _
 have e5:Ext w2 w5:=Ext.fresh a3 u5
 have ed:=extDrew w5
 have h1:=Ext.at (e5.trans ed) a1.new
 have E0:Ext w w5.drew:=(e2.trans e5).trans ed
 have hbx:∀ {W:World},Ext w5 W->CellsAt W b3 0 [slV ⟨some ⟨b1,0,none⟩,1,1⟩,slV ⟨none,0,0⟩]:=fun e=>boxAll (cs:=[slV ⟨some ⟨b1,0,none⟩,1,1⟩,slV ⟨none,0,0⟩]) u5.new e
 have go:∀ {W:World}{bS bC bK:Nat}{TS TC TK:TypeId},Ext w W->W.heap[b1]? =some (.cells (insC insA).toArray 95 (0,0))->
   W.heap[bS]? =some (.cells #[slV ⟨some ⟨b1,0,none⟩,1,1⟩,slV ⟨none,0,0⟩,slV ⟨some ⟨b1,0,none⟩,1,1⟩,slV ⟨none,0,0⟩] TS (0,0))->
   W.heap[bC]? =some (.cells { toList:=zc #[slV ⟨none,0,0⟩,slV ⟨none,0,0⟩] 2 } TC (0,0))->
   W.heap[bK]? =some (.cells (clsC (strA,0,⟨some ⟨bS,0,none⟩,2,2⟩,⟨some ⟨bC,0,none⟩,2,2⟩,false)).toArray TK (0,0))->
   Cx 54 #[cxV (⟨some ⟨bK,0,none⟩,1,1⟩,List.replicate 16 (.int .i64 0))] W fun v14 w15=>∃p16:Option Addr,v14=.pointer p16/\Alv18T p16 w15 (fun v w'=>v=.bool true/\Ext w w'):=fun E q1 qS qC qK=>by
  refine(c54 (catA_mem q1 qS qC qK)).use ?_
  rintro _ w15 ⟨h|⟨_,b,rfl,hG⟩,e15⟩
  ·exact absurd catA_ok h.1
  ·exact⟨_,rfl,alv18 (w0:=_) hG e15 fun w' e=>⟨rfl,E.trans e⟩⟩
 refine⟨(⟨some ⟨b1,0,none⟩,1,1⟩,⟨none,0,0⟩),hbx ed,(⟨some ⟨b1,0,none⟩,1,1⟩,⟨none,0,0⟩),hbx ed,⟨by decide,fun b8 w9 a8=>⟨⟨by decide,by decide,by decide,by decide⟩,fun b10 w11 a10=>⟨by decide,fun b12 w13 a12=>?_⟩⟩⟩,⟨by decide,by decide,by decide,by decide⟩,fun b36 w37 a36=>⟨hbx (ed.trans (a36.ch _)),hbx (ed.trans (a36.ch _)),by decide,fun b38 w39 a38=>⟨by decide,fun b40 w41 a40=>?_⟩⟩⟩
 ·exact go (((E0.trans (a8.ch _)).trans (a10.ch _)).trans (a12.ch _)) (a12.at (a10.at (a8.at h1))) (a12.at (a10.at a8.new)) (a12.at a10.new) a12.new
 ·exact go (((E0.trans (a36.ch _)).trans (a38.ch _)).trans (a40.ch _)) (a40.at (a38.at (a36.at h1))) (a40.at a38.new) (a40.at (a38.at a36.new)) a40.new
theorem arr_plain{A:Nat->Prop}{w:World}{e:Ty}{n:Nat}{f:e.den->List Value}{Q:e.den->Prop}{l:List e.den}{cs:List Value}(h:rep A w (.arr n e) l cs)(hp:∀x c,rep A w e x c->c=f x/\Q x):l.length=n/\cs=l.flatMap f/\∀x∈l,Q x:=by
 obtain⟨hn,css,hl,hr,rfl⟩:=h
 have hi:∀(i:Nat)(hi:i<l.length),css[i]? =some (f l[i])/\Q l[i]:=fun i hi=>by
  have hc:css[i]? =some (css[i]'(by omega)):=List.getElem?_eq_getElem (by omega)
  obtain⟨h1,h2⟩:=hp _ _ (hr i _ _ hc (List.getElem?_eq_getElem hi))
  exact⟨by rw[hc,h1],h2⟩
 have hcs:css=l.map f:=by
  apply List.ext_getElem?
  intro i
  by_cases h:i<l.length
  ·rw[(hi i h).1,List.getElem?_map,List.getElem?_eq_getElem h];rfl
  ·rw[List.getElem?_eq_none (by omega),List.getElem?_eq_none (by rw[List.length_map];omega)]
 refine⟨hn,by rw[hcs,List.flatMap_def],fun x hx=>?_⟩
 obtain⟨i,h,rfl⟩:=List.getElem_of_mem hx
 exact(hi i h).2
abbrev catOf(x:tyCat.den):CatD:=(x.1,x.2.flatten)
theorem rep_cat{A:Nat->Prop}{w:World}{x:tyCat.den}{cs:List Value}(h:rep A w tyCat x cs):∃v:CatV,cs=cxC v/\CatM w v (catOf x):=by
 obtain⟨c,d,rfl,h1,h2⟩:=h
 have h1:=rep_mono (B:=fun _=>True) (fun _ _=>trivial) h1
 obtain⟨s,rfl,_⟩:=id h1
 obtain⟨k1,k2,k3⟩:=arr_plain (n:=4) (e:=.arr 4 tyI) (f:=fun r=>r.map fun n=>Value.int .i64 n) (Q:=fun r=>r.length=4/\∀n∈r, -9223372036854775808<=n/\n<=9223372036854775807) (l:=x.2) h2 fun r c hr=>by
  obtain⟨g1,g2,g3⟩:=arr_plain (n:=4) (e:=tyI) (f:=fun n=>[Value.int .i64 n]) (Q:=fun n=> -9223372036854775808<=n/\n<=9223372036854775807) (l:=r) hr fun n c hc=>⟨hc.1,hc.2.1,hc.2.2⟩
  refine⟨by rw[g2,List.map_eq_flatMap],g1,g3⟩
 refine⟨(s,d),rfl,h1,?_,?_,fun n hn=>?_⟩
 ·rw[k2]
  show List.flatMap _ x.2=x.2.flatten.map _
  rw[List.map_flatten,List.flatMap_def]
 ·show x.2.flatten.length=16
  rw[List.length_flatten]
  have:∀l:List (List Int),(∀r∈l,r.length=4)->(l.map List.length).sum=l.length*4:=fun l=>by
   induction l with
   | nil=>intro _;rfl
   | cons r l ih=>
    intro h
    rw[List.map_cons,List.sum_cons,ih fun q hq=>h q (List.mem_cons_of_mem _ hq),h r (by simp),List.length_cons];omega
  rw[this _ fun r hr=>(k3 r hr).1]
  have k1:x.2.length=4:=k1
  omega
 ·obtain⟨r,hr,hn⟩:=List.mem_flatten.1 hn
  exact(k3 r hr).2 n hn
theorem arr_eq{cs:Array Value}{l:List Value}(h:cs.toList=l):cs=l.toArray:=by rw[<-h]
section
variable (w:World)
end
theorem FairR.sub{x:CatD}{hs ks:List Nd}{r φ:Nat->Nat}(hφ:∀i k,i<k->φ i<φ k)(hget:∀(i:Nat) a,hs[i]? =some a->ks[φ i]? =some a)(h:FairR x ks r):FairR x hs fun i=>r (φ i):=by
 have inj:∀i k,φ i=φ k->i=k:=fun i k e=>by
  rcases Nat.lt_trichotomy i k with h'|h'|h'
  ·have:=hφ i k h';omega
  ·exact h'
  ·have:=hφ k i h';omega
 have hE:∀ {i k:Nat},EdP hs i k->EdP ks (φ i) (φ k):=fun⟨hl,a,b,ha,hb,hd⟩=>⟨hφ _ _ hl,a,b,hget _ _ ha,hget _ _ hb,hd⟩
 have hD:∀ {i k:Nat},Dp hs i k->Dp ks (φ i) (φ k):=fun d=>by
  induction d with
  | one e=>exact .one (hE e)
  | more _ e ih=>exact .more ih (hE e)
 have hI:∀ {i k:Nat}{d:Int},InP x hs i k d->InP x ks (φ i) (φ k) d:=fun p=>by
  rcases p with e|⟨a,b,ha,hb,q⟩
  ·exact .inl (by rw[e])
  ·exact .inr ⟨a,b,hget _ _ ha,hget _ _ hb,q⟩
 refine⟨fun i j hi hj e=>inj _ _ (h.inj _ _ (get_lt (hget i _ (List.getElem?_eq_getElem hi))) (get_lt (hget j _ (List.getElem?_eq_getElem hj))) e),fun i k e=>h.keep _ _ (hE e),fun o a b u no na ho ha hne h1 h2 h3 h4 h5=>?_⟩
 exact h.fair (φ o) (φ a) (φ b) (φ u) no na (hget _ _ ho) (hget _ _ ha) hne (hI h1) h2 h3 (hI h4) (h5.imp hD hD)
theorem lastOwn_app{hs:List Nd}{n:Nd}{i:Nat}(hi:i<=hs.length)(s:Int):lastOwn (hs++[n]) i s=lastOwn hs i s:=by
 unfold lastOwn
 rw[List.take_append_of_le_length hi]
theorem may_snoc{x:CatD}{hs:List Nd}{n:Nd}:HMay x (hs++[n])↔HMay x hs/\hs.length+1<=100/\NodeOk x (lastOwn hs hs.length n.v.1) n:=by
 have hl:(hs++[n]).length=hs.length+1:=by simp
 constructor
 ·intro h
  refine⟨?_,by have:=h.len;omega,?_⟩
  ·have:=h.take hs.length
   rwa [List.take_left] at this
  ·have:=h.ok hs.length n (by simp)
   rwa [lastOwn_app (Nat.le_refl _)] at this
 ·rintro⟨h,h1,h2⟩
  refine⟨h.cat,by omega,fun i m hm=>?_⟩
  have hi:=get_lt hm
  rcases Nat.lt_or_ge i hs.length with h'|h'
  ·rw[List.getElem?_append_left h'] at hm
   rw[lastOwn_app (by omega)]
   exact h.ok i m hm
  ·have:i=hs.length:=by omega
   subst this
   rw[List.getElem?_append_right (Nat.le_refl _),Nat.sub_self] at hm
   cases hm
   rw[lastOwn_app (Nat.le_refl _)]
   exact h2
theorem lastOwn_none{hs:List Nd}{s:Int}(h:∀m∈hs,m.v.1≠s)(i:Nat):lastOwn hs i s=none:=by
 unfold lastOwn ownL
 rw[List.filter_eq_nil_iff.2 fun m hm=>by simpa using h m (List.mem_of_mem_take hm)]
 rfl
structure Fresh(f:Nd):Prop where
 s0:0<=f.v.1
 c:f.v.2.1=0
 st:f.v.2.2.1=0
 b:f.v.2.2.2.1=false
 rs:f.rs=[]
 ws:f.ws=[]
theorem Fresh.good{x:CatD}{hs:List Nd}{f:Nd}(hf:Fresh f)(h:GoodP x hs)(hs':∀m∈hs,m.v.1≠f.v.1)(hl:hs.length+1<=100):GoodP x (hs++[f]):=by
 obtain⟨hM,r,hr⟩:=h
 have h1:=hM.cat.n1
 refine⟨may_snoc.2 ⟨hM,hl,⟨hf.s0,by rw[hf.c];omega,by rw[hf.c];omega,by rw[hf.st];omega,by rw[hf.rs];exact⟨by simp,by simp⟩,by rw[hf.ws];exact⟨by simp,by simp⟩,?_⟩⟩,hr.snoc (.inr hs')⟩
 rw[lastOwn_none hs']
 exact⟨hf.b,hf.st⟩
theorem Fresh.bad{x:CatD}{hs:List Nd}{f n:Nd}(hf:Fresh f)(h:HMay x (hs++[n]))(hF:¬ ∃r,FairR x (hs++[n]) r)(hs':∀m∈hs,m.v.1≠f.v.1)(hn:n.v.1≠f.v.1)(hl:hs.length+2<=100)(hg:∃r,FairR x hs r):HMay x ((hs++[f])++[n])/\¬ ∃r,FairR x ((hs++[f])++[n]) r:=by
 obtain⟨h1,h2,h3⟩:=may_snoc.1 h
 have hgf:=hf.good ⟨h1,hg⟩ hs' (by omega)
 refine⟨may_snoc.2 ⟨hgf.1,by simp;omega,?_⟩,fun⟨r,hr⟩=>hF ⟨_,hr.sub (φ:=fun i=>if i<hs.length then i else i+1) (fun i k hik=>?_) fun i a ha=>?_⟩⟩
 ·have:lastOwn (hs++[f]) (hs++[f]).length n.v.1=lastOwn hs hs.length n.v.1:=by
   rw[List.length_append,List.length_singleton,lastOwn_succ (y:=f) (by simp),if_neg fun e=>hn e.symm,lastOwn_app (Nat.le_refl _)]
  rw[this];exact h3
 ·(try dsimp only)
  split<;>split<;>omega
 ·have hi:=get_lt ha
  rw[List.length_append,List.length_singleton] at hi
  rcases Nat.lt_or_ge i hs.length with h'|h'
  ·rw[List.getElem?_append_left h'] at ha
   rw[if_pos h',List.append_assoc,List.getElem?_append_left h'];exact ha
  ·have:i=hs.length:=by omega
   subst this
   rw[List.getElem?_append_right (Nat.le_refl _),Nat.sub_self] at ha
   rw[if_neg (Nat.lt_irrefl _),List.append_assoc,List.getElem?_append_right (by omega),show hs.length+1-hs.length=1 by omega];exact ha
theorem rep_spansA{A:Nat->Prop}{w:World}{l:List tySp.den}{cs:List Value}(h:rep A w (.sl tySp) l cs):∃(s:Sl)(xs:List Spn),cs=[slV s]/\Rd w s 2 (xs.flatMap sv)/\s.n<=s.c/\s.n<=maxLen/\(0<s.n->∀j∈blk s,A j):=by
 obtain⟨s,xs,hc,h1,h2,h3⟩:=rep_spans h
 obtain⟨s',hs',_,_,_,h4,_⟩:=id h
 rw[hc] at hs'
 have:=slEq hs';subst this
 exact⟨s,xs,hc,h1,h2,h3,h4⟩
structure NdJ(A:Nat->Prop)(w:World)(n:Nd):Prop where
 i:NdIn w n
 rp:0<n.v.2.2.2.2.1.n->∀j∈blk n.v.2.2.2.2.1,A j
 wp:0<n.v.2.2.2.2.2.n->∀j∈blk n.v.2.2.2.2.2,A j
 sg: -9223372036854775808<=n.v.1/\n.v.1<=9223372036854775807
theorem rep_ndJ{A:Nat->Prop}{w:World}{x:tyNd.den}{cs:List Value}(h:rep A w tyNd x cs):∃n:Nd,cs=nL n/\NdJ A w n:=by
 obtain⟨c1,d1,rfl,⟨rfl,k1,k2⟩,c2,d2,rfl,⟨rfl,_⟩,c3,d3,rfl,⟨rfl,_⟩,c4,d4,rfl,h4,c5,d5,rfl,h5,h6⟩:=h
 obtain⟨s,xs,rfl,hxs,_,_,hs⟩:=rep_spansA h5
 obtain⟨t,ys,rfl,hys,_,_,ht⟩:=rep_spansA h6
 have h4:c4=[.bool x.2.2.2.1]:=h4
 subst h4
 exact⟨⟨(x.1,x.2.1,x.2.2.1,x.2.2.2.1,s,t),xs,ys⟩,rfl,⟨hxs,hys⟩,hs,ht,k1,k2⟩
theorem rep_histJ{A:Nat->Prop}{w:World}{l:List tyNd.den}{cs:List Value}(h:rep A w (.sl tyNd) l cs):∃(t:Sl)(hs:List Nd),cs=[slV t]/\HIn w t hs/\∀n∈hs,NdJ A w n:=by
 obtain⟨s,rfl,h1,h2,h3,h4,css,h5,h6,h7⟩:=h
 obtain⟨ns,hns,hq⟩:=pickAll (f:=nL) (Q:=NdJ A w) fun c hc=>by
  obtain⟨x,hx⟩:=rep_each h5 h6 c hc
  exact rep_ndJ hx
 have hlen:ns.length=l.length:=by rw[<-h5,hns,List.length_map]
 refine⟨s,ns,rfl,⟨?_,fun n hn=>(hq n hn).i,h2,by omega⟩,hq⟩
 rw[List.flatMap_def,<-hns];exact h7
theorem NdJ.a{A:Nat->Prop}{w:World}{n:Nd}(h:NdJ A w n)(ho:NdOk w n):NdA A w n:=⟨ho.rs,ho.ws,h.rp,h.wp,ho.rl,ho.wl⟩
theorem GrM.db{D:Nat->Prop}{w:World}{b:Nat}{th:Sl}{x:CatD}{ns:List Nd}(h:GrM D w b th x ns):D b/\∀j∈blk th,D j:=by
 obtain⟨v,ton,tw,rows,ms,hK,hP⟩:=h
 exact⟨hK.db,hK.dth⟩
theorem GrM.good{D:Nat->Prop}{w:World}{b:Nat}{th:Sl}{x:CatD}{ns:List Nd}(h:GrM D w b th x ns):GoodP x ns:=by
 obtain⟨v,ton,tw,rows,ms,hK,hP⟩:=h
 exact⟨hP.may,hP.fair⟩
theorem incPrefix(w:World){x:tyCat.den}{cs:Array Value}(h0:rep (fun _=>True) w tyCat x cs.toList){l:List tyNd.den}{c1:Value}(h1:rep (fun _=>True) w (.sl tyNd) l [c1]):
  Cw 16 #[.agg cs,c1] w fun v w'=>v=.bool true/\Ext w w':=by
 obtain⟨v,e0,hC⟩:=rep_cat h0
 obtain⟨t,hs,e1,hH,hJ⟩:=rep_histJ (rep_old (by decide) h1)
 simp only[List.cons.injEq,and_true] at e1
 subst e1
 rw[arr_eq e0]
 refine F16_ok v t w _ fun b1 w2 a2=>(c52 w2).use ?_
 rintro _ w4 ⟨rfl,e4⟩
 have e2:Ext w w2:=a2.ch _
 have E4:=e2.trans e4
 refine⟨true,rfl,IfB.no rfl ⟨v,cxN hC a2.new e4,(c29 (hC.ext E4) (hH.ext E4)).use ?_⟩⟩
 rintro _ w10 ⟨g,rfl,hg,e10⟩
 have x10:=e4.trans e10
 have E10:=E4.trans e10
 refine⟨g,rfl,IfB.intro (fun _=>⟨rfl,E10⟩) fun hg1=>?_⟩
 obtain⟨hS,hl⟩:=hg hg1
 have htn:=hS.n
 refine⟨v,cxN hC a2.new x10,(c53 (hC.ext E10)).use ?_⟩
 rintro _ w16 ⟨m,rfl,hm,e16⟩
 have x16:=x10.trans e16
 have E16:=E10.trans e16
 refine⟨m,rfl,IfB.intro (fun _=>⟨rfl,E16⟩) fun h2=>?_⟩
 have hk:=hm.1 (by simpa using h2)
 refine⟨v,cxN hC a2.new x16,(c54 (hC.ext E16)).use ?_⟩
 rintro _ w22 ⟨hN,e22⟩
 obtain⟨b,rfl,hG⟩:∃b,_=Value.pointer (some ⟨b,0,none⟩)/\GrM (fun j=>w16.heap.size<=j) w22 b ⟨none,0,0⟩ (catOf x) []:=by
  rcases hN with h|h
  ·exact absurd hk h.1
  ·exact h.2
 have E22:=E16.trans e22
 have z16:=E16.size
 refine⟨some ⟨b,0,none⟩,rfl,IfB.no rfl ⟨fun m z W=>∃(i:Nat)(th:Sl)(ns:List Nd),i<=hs.length/\m+i=hs.length/\z=(i:Int)/\GrM (fun j=>w.heap.size<=j) W b th (catOf x) ns/\ns.length<=i/\(∀n∈ns,n.v.1<=1000)/\Ext w W,⟨hs.length,0,⟨none,0,0⟩,[],Nat.zero_le _,rfl,rfl,hG.mono fun j hj=>by omega,Nat.zero_le _,by simp,E22⟩,?_⟩⟩
 rintro m _ W g' ⟨i,th,ns,hi,hmi,rfl,hG,hnl,hsg,EW⟩
 unfold F16j1
 refine IfB.dec (fun hlt=>IfB.dec (fun h14=>?_) fun _=>⟨rfl,EW⟩) fun hge=>⟨rfl,EW⟩
 have hi':i<hs.length:=by omega
 have hx:hs[i]? =some hs[i]:=List.getElem?_eq_getElem hi'
 have hxm:hs[i]∈hs:=List.getElem_mem hi'
 generalize hs[i]=n at hx hxm
 have hbn:(0:Int)<=(i:Int)/\(i:Int)<(t.n:Int):=⟨by omega,hlt⟩
 have at':∀ {V:World},Ext w V->∃pb po,t.p=some ⟨pb,po,none⟩/\CellsAt V pb (po+(i:Int).toNat*6) (nC n.v):=fun e=>by
  rw[Int.toNat_natCast]
  exact(hH.rd.ext e).elem (i:=i) (by omega) (by omega) (flatGet nL_len hx)
 have hwi:IntKind.i64.wrap ((i:Int)+1)=((i+1:Nat):Int):=by rw[wrap_of (by omega) (by omega)];rfl
 have hnOk:NdOk w n:=⟨(hJ n hxm).i.rs,(hJ n hxm).i.ws,(hS.ok n hxm).rl,(hS.ok n hxm).wl⟩
 have hnA:∀ {V:World}{b':Nat}{th':Sl},Ext w V->w.heap.size<=b'->(∀j∈blk th',w.heap.size<=j)->NdA (fun j=>j≠b'/\j∉blk th') V n:=fun e h1 h2=>(((hJ n hxm).a hnOk).ext e).mono fun j hj=>⟨by omega,fun h=>by have:=h2 j h;omega⟩
 obtain⟨pb,po,hp,hc⟩:=at' EW
 refine⟨pb,po,hp,hbn,n.v.1,hc 0 _ rfl,IfB.dec (fun _=>⟨rfl,EW⟩) fun h1000=>?_⟩
 unfold F16k1
 obtain⟨hgb,hgt⟩:=hG.db
 refine⟨pb,po,hp,hbn,n.v,hc,(c55 hG (hnOk.ext EW) (by omega)).use ?_⟩
 rintro _ w38 ⟨e,rfl,hA,e38⟩
 have E38:=EW.trans e38
 have hG38:=hG.ext e38
 refine⟨e,rfl,IfB.intro (fun h11=>?_) fun h11=>?_⟩
 ·obtain⟨pb2,po2,hp2,hc2⟩:=at' E38
  refine⟨pb2,po2,hp2,hbn,n.v,hc2,(c56 hG38 (hnA E38 hgb hgt) (by omega)).use ?_⟩
  rintro _ w44 ⟨e',th',ns',rfl,_,h0,hne,hG',hC',hb'⟩
  have E44:Ext w w44:=E38.chN hC' fun j hj=>by
   rcases hj with h|h
   ·rw[h];exact hgb
   ·exact hgt j h
  have z38:=E38.size
  refine⟨e',rfl,(by trivial),m-1,by omega,i+1,th',ns',hi',by omega,by rw[hwi],hG'.mono fun j hj=>hj.elim id fun h=>by omega,?_,?_,E44⟩
  ·by_cases he:e'=0
   ·obtain⟨n',_,rfl⟩:=h0 he
    rw[List.length_append,List.length_singleton];omega
   ·obtain⟨rfl,_⟩:=hne he;omega
  ·by_cases he:e'=0
   ·obtain⟨n',hd,rfl⟩:=h0 he
    intro q hq
    rcases List.mem_append.1 hq with h|h
    ·exact hsg q h
    ·rw[List.mem_singleton.1 h,(dOf_iff.1 hd).1];omega
   ·obtain⟨rfl,_⟩:=hne he;exact hsg
 ·have h11:e=11:=by simpa using h11
  obtain⟨hM,hF⟩:HMay (catOf x) (ns++[n])/\¬ ∃r,FairR (catOf x) (ns++[n]) r:=by
   rcases hA with ⟨h,_⟩|⟨_,h⟩|⟨h,_⟩
   ·omega
   ·exact h
   ·omega
  refine(c57 hG38).use ?_
  rintro _ w48 ⟨b',th',rfl,hGc,hb',hth',e48⟩
  have z38:=E38.size
  have E48:=E38.trans e48
  have hw:IntKind.i64.wrap (100000+(i:Int))=100000+(i:Int):=wrap_of (by omega) (by omega)
  obtain⟨f,hf⟩:∃f:Nd,f=⟨(100000+(i:Int),0,0,false,⟨none,0,0⟩,⟨none,0,0⟩),[],[]⟩:=⟨_,rfl⟩
  have hfr:Fresh f:=by rw[hf];exact⟨by dsimp only;omega,rfl,rfl,rfl,rfl,rfl⟩
  have hf1:f.v.1=100000+(i:Int):=by rw[hf]
  have hsgf:∀q∈ns,q.v.1≠f.v.1:=fun q hq=>by have:=hsg q hq;rw[hf1];omega
  have hfA:NdA (fun j=>j≠b'/\j∉blk th') w48 f:=by
   rw[hf]
   exact⟨(OwS.nil _ 2).rd,(OwS.nil _ 2).rd,fun h=>absurd h (Nat.lt_irrefl _),fun h=>absurd h (Nat.lt_irrefl _),Nat.zero_le _,Nat.zero_le _⟩
  refine⟨some ⟨b',0,none⟩,rfl,?_⟩
  rw[hw]
  have hadd:=addGood hGc hfA (by omega) (hfr.good hG.good hsgf (by omega))
  have hfv:ndV f.v=.agg #[.int .i64 (100000+(i:Int)),.int .i64 0,.int .i64 0,.bool false,.slice none 0 0,.slice none 0 0]:=by rw[hf]
  rw[hfv] at hadd
  refine hadd.use ?_
  rintro _ w51 ⟨rfl,th2,f',hd',hGc',hC',hb2⟩
  have e51:Ext w38 w51:=e48.chN hC' fun j hj=>by
   rcases hj with h|h
   ·rw[h];exact hb'
   ·exact hth' j h
  have E51:=E38.trans e51
  obtain⟨pb3,po3,hp3,hc3⟩:=at' E51
  have hbad:=hfr.bad hM hF hsgf (by rw[hf1];omega) (by omega) hG.good.2
  have hcg:Cg ((ns++[f])++[n]) ((ns++[f'])++[n]):=by
   show List.map dOf _=List.map dOf _
   simp[hd']
  refine⟨0,rfl,IfB.no rfl ⟨pb3,po3,hp3,hbn,n.v,hc3,(c55 hGc' (hnOk.ext E51) (by rw[List.length_append,List.length_singleton];omega)).use ?_⟩⟩
  rintro _ w57 ⟨e2,rfl,hA2,e57⟩
  have he2:=hA2.cyc (hbad.1.cg hcg) fun⟨r,hr⟩=>hbad.2 ⟨r,hr.cg hcg.symm⟩
  subst he2
  exact⟨11,rfl,IfB.no rfl ⟨(by trivial),m-1,by omega,i+1,th,ns,hi',by omega,by rw[hwi],(hG38.ext e51).ext e57,by omega,hsg,E51.trans e57⟩⟩
end Go.Proofs.YtlpgdngcgbeegaaGreat.Gx
namespace Go.Proofs.YtlpgdngcgbeegaaGreat.incPrefix
open Go.ChangeShapes Go.WideShapes Go.ChangeAt Go.RowKit
open Go.ChangeMaps (open_string shut_string)
set_option linter.unusedVariables false
theorem own:ownKnob Tryz.prog.godebug=none:=by kernel_rfl
set_option maxRecDepth 100000 in
theorem lifted(os:Os)(started:os.Started)(H:Type)(enc:TypeId×Value->H):
  ReturnsInHanded {} Tryz.checked os 16 .any (Rows.incPrefixSpec.pre6 enc Tryz.prog Tryz.f16 Rows.incPrefixRow.domain false) (Rows.incPrefixSpec.post enc Tryz.prog Tryz.f16 false true false false):=by
 refine returnsInHanded_of_change (C:=Tryz.checked) own started (by kernel_rfl) Tryz.func16
  (ChangeSpec.witness6 (enc:=enc) (C:=Tryz.checked) false ⟨#[],#[.agg #[.slice none 0 0,.int .i64 0,.int .i64 0,.int .i64 0,.int .i64 0,.int .i64 0,.int .i64 0,.int .i64 0,.int .i64 0,.int .i64 0,.int .i64 0,.int .i64 0,.int .i64 0,.int .i64 0,.int .i64 0,.int .i64 0,.int .i64 0],.slice none 0 0],[]⟩ 8 (by kernel_rfl) (by kernel_rfl) (by kernel_rfl) (by kernel_rfl)) ?_
 intro W base args ds gs before hval0 hW hcnd _
 have hval:∀(j:Nat) t v,Tryz.f16.params[j]? =some t->args[j]? =some v->Value.okWide Tryz.prog W .any base t v:=hval0
 have hW':=hW
 have hlt:=hW.lt
 obtain⟨p,q,hA0,hV,rfl,hfz,hnd⟩:=hW
 have hA:DataW.TrodAll enc Tryz.prog W 0 (fun _=>true) true Tryz.f16.params.toList args.toList ds p:=hA0
 have hpar:Tryz.f16.params=#[26,39]:=rfl
 rw[hpar] at hA hval
 obtain⟨v0,vs0,d0,ds0,p0,q0,hargs,rfl,rfl,h0,r0⟩:=trodAll_cons hA
 obtain⟨v1,vs1,d1,ds1,p1,q1,rfl,rfl,rfl,h1,r1⟩:=trodAll_cons r0
 obtain⟨rfl,rfl,rfl⟩:=trodAll_nil r1
 obtain rfl:args=#[v0,v1]:=by cases args;simp_all
 obtain⟨rfl,rfl⟩:=trodVars_none hV
 clear hA0 hval0
 obtain⟨x0,e0⟩:=Gx.open_arg (d:=12) (ty:=(.pair (.sl (.pair .str (.pair (.int .i64) (.pair (.sl (.pair (.sl (.pair (.int .i64) (.pair (.int .i64) (.pair (.int .i64) (.pair (.int .i64) (.pair (.pair (.int .i64) (.int .i64)) (.pair (.pair (.int .i64) (.int .i64)) (.int .i64)))))))) (.sl (.pair (.pair (.int .i64) (.int .i64)) (.pair (.pair (.int .i64) (.int .i64)) .bool))))) (.pair (.sl (.pair (.sl (.pair (.int .i64) (.pair (.int .i64) (.pair (.int .i64) (.pair (.int .i64) (.pair (.pair (.int .i64) (.int .i64)) (.pair (.pair (.int .i64) (.int .i64)) (.int .i64)))))))) (.sl (.pair (.pair (.int .i64) (.int .i64)) (.pair (.pair (.int .i64) (.int .i64)) .bool))))) .bool))))) (.arr 4 (.arr 4 (.int .i64))))) (by kernel_rfl) h0
 have f0:v0=.agg v0.cells:=Gx.val_agg (hval 0 26 v0 rfl rfl) (.inl ⟨_,Tryz.underlying26⟩)
 obtain⟨x1,e1⟩:=Gx.open_arg (d:=12) (ty:=(.sl (.pair (.int .i64) (.pair (.int .i64) (.pair (.int .i64) (.pair .bool (.pair (.sl (.pair (.int .i64) (.int .i64))) (.sl (.pair (.int .i64) (.int .i64)))))))))) (by kernel_rfl) h1
 obtain⟨c1,g1⟩:∃c,v1.cells.toList=[c]:=List.length_eq_one_iff.1 (Gx.rep_len e1)
 have f1:v1=c1:=Gx.val_of_cells (hval 1 39 v1 rfl rfl) (fun fs n e=>by rw[Tryz.underlying39];exact⟨by simp,by simp⟩) g1
 rw[g1] at e1
 have call:Calls Tryz.prog 16 #[v0,v1] W fun e w'=>e=.returned (.bool true)/\Below W.heap.size W w':=by
  rw[f0,f1]
  refine(Gx.incPrefix W e0 e1).calls.mono ?_
  rintro e w' ⟨v,rfl,rfl,hx⟩
  exact⟨rfl,hx.below⟩
 refine call.mono fun e W' ⟨he,hg⟩=>?_
 subst he
 have b1:∀sp:Nat->Bool,(∀x∈p1,sp x.block=true)->DataW.Trod enc Tryz.prog W' 0 sp true 39 v1 d1 p1:=fun sp hsp=>Gx.trod_keep (by kernel_rfl) (by kernel_rfl) (by decide+kernel) h1 hg (fun x hx=>hlt x (by simp[hx])) hsp
 have b0:∀sp:Nat->Bool,(∀x∈p0,sp x.block=true)->DataW.Trod enc Tryz.prog W' 0 sp true 26 v0 d0 p0:=fun sp hsp=>Gx.trod_keep (by kernel_rfl) (by kernel_rfl) (by decide+kernel) h0 hg (fun x hx=>hlt x (by simp[hx])) hsp
 exact⟨_,rfl,Gx.post_of_below (pa:=(p0++(p1++[]))) (pv:=[]) hW' hg (fun _ _ _=>(trodAll_cons_mk (shut_bool Tryz.underlying4 _) trodAll_mk0)) (fun sp hsp=>by rw[hpar];exact(trodAll_cons_mk (b0 sp fun x hx=>hsp x (by simp[hx])) (trodAll_cons_mk (b1 sp fun x hx=>hsp x (by simp[hx])) trodAll_mk0))) (fun _ _=>rfl) (by simp)
  (ok_one (by kernel_rfl) rfl (okWide_bool_mk Tryz.underlying4 _))⟩
set_option maxRecDepth 100000
theorem ft1:(laidOutB Tryz.checked.prog&&mapsRowed Tryz.checked.prog)=true:=by kernel_rfl
theorem ft2:(Rows.incPrefixRow.inPlace == Tryz.checked.prog.inPlace 16)=true:=by kernel_rfl
theorem ft3:(Rows.incPrefixRow.unfollowed == Tryz.checked.prog.unfollowed 16)=true:=by kernel_rfl
theorem ft4:(Rows.incPrefixRow.named == Tryz.checked.prog.varsNamed 16)=true:=by kernel_rfl
theorem ft6:((Tryz.checked.prog.stops == [])&&(Tryz.checked.prog.stopKnobs == []))=true:=by kernel_rfl
theorem ft7:(Rows.incPrefixRow.plainKeys == Tryz.checked.prog.plainKeys)=true:=by kernel_rfl
theorem ft8:Tryz.checked.prog.stopsHeard=true:=by kernel_rfl
theorem ft9:(Tryz.checked.prog.mayEnter&&((Rows.incPrefixRow.lifted == Tryz.checked.prog.liftsFinal)&&(Tryz.checked.prog.make == some Rows.incPrefixRow.make)))=true:=by kernel_rfl
theorem ft5:(Rows.incPrefixRow.recurses == Tryz.checked.prog.recurses 16)=true:=by
 have h:Tryz.checked.prog.unfollowed 16=true:=by have:=ft3;rw[beq_iff_eq] at this;exact this.symm
 unfold Program.recurses;rw[h];rfl
theorem facts:joinedFacts Tryz.checked.prog 16 Tryz.f16 Rows.incPrefixSpec Rows.incPrefixRow=true:=by
 obtain⟨h1,h2⟩:=Bool.and_eq_true_iff.1 ft1
 obtain⟨h3,h4⟩:=Bool.and_eq_true_iff.1 ft6
 obtain⟨h5,h6⟩:=Bool.and_eq_true_iff.1 ft9
 obtain⟨h7,h8⟩:=Bool.and_eq_true_iff.1 h6
 unfold joinedFacts
 rw[h1,h2,ft2,ft3,ft4,ft5,h3,h4,ft7,ft8,h5,h7,h8]
 kernel_rfl
theorem over:Rows.incPrefixRow.holds Tryz.pinned (OpenSpec.ofChange Rows.incPrefixSpec):=
 OpenClaim.holds_of_wide 16 Tryz.f16 rfl rfl rfl rfl rfl rfl rfl ⟨rfl,rfl,rfl,rfl,rfl⟩ rfl rfl rfl rfl rfl (by kernel_rfl) Tryz.func16 facts
  (of_decide_eq_true (by kernel_rfl)) (by unfold Func.isWrapper;first|(rw[if_pos (by decide+kernel)];kernel_rfl)|(rw[if_neg (by decide+kernel)];exact⟨rfl,rfl⟩))
  (fun os started H enc _=>lifted os started H enc)
theorem proved:Rows.IncPrefixSaid:=
 over
#print axioms proved
end Go.Proofs.YtlpgdngcgbeegaaGreat.incPrefix
