/- gimmallaw16.RsgBack returns true for all arguments, and leaves what was there as it was. No condition beyond the statement. -/
/- Merged by pack.py: RefG, RefH, IntE, GxOP, RsgK, GxOQ, CloN, OrdN, RsgI, RgBack. -/
import Derived.Test.YtlpgdngcgbeegaaGreatRb1
import Derived.Test.YtlpgdngcgbeegaaGreatRb2
import Derived.Test.YtlpgdngcgbeegaaGreatRb3
import Derived.Test.YtlpgdngcgbeegaaGreatRb4
import Derived.Test.YtlpgdngcgbeegaaGreatRb5
import Derived.Test.YtlpgdngcgbeegaaGreatRb6
import Derived.Test.YtlpgdngcgbeegaaGreatRows
import Derived.WalkKit
import Derived.ProofKit
import Derived.OpenShut
import Derived.ShutString
import Derived.Below
import Derived.Carry
import Derived.SizedLaws
namespace Go.Proofs.YtlpgdngcgbeegaaGreat.Gx
open Go
set_option linter.unusedSimpArgs false
set_option linter.unusedVariables false
structure FwE(E:Nat->Nat->Prop)(n m i k:Nat)(rows:List MxR):Prop where
 lo:∀a b,Fw E m a b->gM rows a b=true
 hi:∀a b,gM rows a b=true->TC E a b
 done:∀a b,b<n->(a<i\/(a=i/\b<k))->Fw E (m+1) a b->gM rows a b=true
theorem FwE.next{E:Nat->Nat->Prop}{n m i k:Nat}{rows rows':List MxR}(h:FwE E n m i k rows)(hle:∀a b,gM rows a b=true->gM rows' a b=true)(hup:∀a b,gM rows' a b=true->TC E a b)
  (hik:Fw E (m+1) i k->gM rows' i k=true):FwE E n m i (k+1) rows':=
 ⟨fun a b hab=>hle a b (h.lo a b hab),hup,fun a b hb hab hF=>by
  by_cases he:a=i/\b=k
  ·obtain⟨rfl,rfl⟩:=he;exact hik hF
  ·exact hle a b (h.done a b hb (by omega) hF)⟩
theorem FwE.row{E:Nat->Nat->Prop}{n m i:Nat}{rows:List MxR}(h:FwE E n m i n rows):FwE E n m (i+1) 0 rows:=
 ⟨h.lo,h.hi,fun a b hb hab hF=>h.done a b hb (by omega) hF⟩
theorem tc_lt{E:Nat->Nat->Prop}{n:Nat}(hE:∀a b,E a b->a<n/\b<n){a b:Nat}(h:TC E a b):a<n/\b<n:=by
 induction h with
 | one e=>exact hE _ _ e
 | more _ e ih=>exact⟨ih.1,(hE _ _ e).2⟩
theorem FwE.stage{E:Nat->Nat->Prop}{n m:Nat}{rows:List MxR}(hE:∀a b,E a b->a<n/\b<n)(h:FwE E n m n 0 rows):FwE E n (m+1) 0 0 rows:=
 ⟨fun a b hab=>h.done a b (tc_lt hE (Fw_tc hab)).2 (.inl (tc_lt hE (Fw_tc hab)).1) hab,h.hi,fun a b _ hab=>by omega⟩
theorem c100{w:World}{v:CatV}{x:CatD}{t:Sl}{hs:List Nd}(h:CatM w v x)(hH:Hst w t hs)(hY:HMay x hs):
  Cw 100 #[cxV v,slV t] w fun r w'=>∃t' rows ys,r=slV t'/\ArcsP x hs ys/\Sqr hs.length rows/\(∀i k,gM rows i k=true↔TC (ArcE x hs) i k)/\Mx w' w.heap.size t' rows/\Ext w w':=by
 have hn:=hH.n
 have hl100:=hY.len
 refine F100_ok v t w _ fun b1 w2 a2=>⟨⟨by omega,by omega,by omega,by omega⟩,fun b3 w4 a4=>?_⟩
 have e2:Ext w w2:=a2.ch _
 have e4:Ext w2 w4:=a4.ch _
 have p2:=a2.here;have z2:=a2.size;have p4:=a4.here;have z4:=a4.size
 rw[Int.toNat_natCast,zc_all (v:=Value.slice none 0 0) (by intro x hx;simpa using hx),hn] at a4
 obtain⟨ts,hts⟩:∃ts:Sl,ts=⟨some ⟨b3,0,none⟩,hs.length,hs.length⟩:=⟨_,rfl⟩
 have hM0:Mx w4 w.heap.size ts (List.replicate hs.length (⟨none,0,0⟩,[])):=by
  have hmem:∀r∈List.replicate hs.length ((⟨none,0,0⟩,[]):MxR),r=(⟨none,0,0⟩,[]):=fun r hr=>(List.mem_replicate.1 hr).2
  refine⟨?_,fun r hr=>?_,fun r hr=>?_,fun a b r s _ hr _=>?_,fun j hj=>?_,fun r hr=>?_⟩
  ·rw[hts]
   refine OwS.new (w:=w2) (T:=70) ?_ (by simp)
   rw[List.map_replicate]
   simpa using a4
  ·rw[hmem r hr];exact .nil _ _
  ·rw[hmem r hr];simp[blk]
  ·rw[hmem r (List.mem_of_getElem? hr)];simp[blk]
  ·rw[hts] at hj;simp[blk] at hj;omega
  ·rw[hmem r hr];simp[blk]
 have hslot:∀ {i:Nat},i<hs.length->(0:Int)<=(i:Int)/\(i:Int)<((((t.2:Int)).toNat:Nat):Int):=fun{i} h=>⟨by omega,by omega⟩
 have w1:∀ {i:Nat},i<hs.length->IntKind.i64.wrap ((i:Int)+1)=((i+1:Nat):Int):=fun{i} h=>by rw[wrap_of (by omega) (by omega)];rfl
 have hb1:ts.p=some ⟨b3,0,none⟩:=by rw[hts]
 have slot:∀ {W:World}{rows:List MxR}{i:Nat}{r:MxR},Mx W w.heap.size ts rows->rows[i]? =some r->W.cell? ⟨b3,0+(i:Int).toNat,none⟩=some (slV r.1):=fun{W rows i r} hM hr=>by
  obtain⟨b,hp,hc⟩:=hM.slot hr
  rw[hb1] at hp;cases hp
  rw[Int.toNat_natCast,Nat.zero_add];exact hc
 refine⟨fun m z W=>∃(i:Nat)(rows:List MxR),i<=hs.length/\m+i=hs.length/\z=(i:Int)/\rows.length=hs.length/\(∀a r,rows[a]? =some r->r.2.length=if a<i then hs.length else 0)/\(∀a b,gM rows a b=false)/\Mx W w.heap.size ts rows/\Ext w2 W,
  ⟨hs.length,0,List.replicate hs.length (⟨none,0,0⟩,[]),Nat.zero_le _,rfl,rfl,by simp,fun a r hr=>?_,fun a b=>?_,hM0,e4⟩,?_⟩
 ·rw[(List.mem_replicate.1 (List.mem_of_getElem? hr)).2];rfl
 ·unfold gM
  rw[List.getElem?_replicate]
  split
  ·rename_i r hr
   split at hr
   ·cases hr;simp
   ·cases hr
  ·rfl
 rintro m _ W g ⟨i,rows,hi,hmi,rfl,hrl,hrw,hg,hM,hE⟩
 unfold F100j1
 have zE:=(e2.trans hE).size
 refine IfB.dec (fun hlt=>?_) fun hge=>?_
 ·have hi':i<hs.length:=by omega
  refine⟨⟨by omega,by omega,by omega,by omega⟩,fun b12 w13 a12=>?_⟩
  have p12:=a12.here;have z12:=a12.size
  have e12:Ext W w13:=a12.ch _
  rw[Int.toNat_natCast,zc_all (v:=Value.bool false) (by intro x hx;simpa using hx),hn] at a12
  have hrow:OwS w13 ⟨some ⟨b12,0,none⟩,hs.length,hs.length⟩ 1 (bvs (List.replicate hs.length false)):=by
   refine OwS.new (w:=W) (T:=4) ?_ (by simp)
   rw[show bvs (List.replicate hs.length false)=List.replicate hs.length (Value.bool false) from List.map_replicate]
   simpa using a12
  refine⟨b3,0,rfl,hslot hi',rfl,?_⟩
  rw[Int.toNat_natCast,Int.toNat_natCast,hn]
  have hM13:=hM.ext e12
  have hbk:∀j∈blk (⟨some ⟨b12,0,none⟩,hs.length,hs.length⟩:Sl),j=b12:=fun j hj=>by simpa [blk] using hj
  refine hM13.row' (by omega) hrow (fun j hj=>by have:=hbk j hj;omega) (fun j hj h=>by have:=hbk j hj;have:=hM.own.lt j h;omega) (fun r hr j hj h=>by have:=hbk j hj;have:=(hM.row r hr).lt j h;omega) hb1 fun w16 hM16 hC16=>?_
  refine⟨rfl,m-1,by omega,i+1,_,hi',by omega,w1 hi',by rw[List.length_set];exact hrl,fun a r hr=>?_,fun a b=>?_,hM16,(hE.trans e12).chN hC16 fun j e=>by omega⟩
  ·rw[List.getElem?_set] at hr
   by_cases hia:i=a
   ·subst hia
    rw[if_pos rfl,if_pos (by omega)] at hr
    cases hr
    rw[if_pos (by omega)];exact List.length_replicate
   ·rw[if_neg hia] at hr
    rw[hrw a r hr]
    by_cases h:a<i
    ·rw[if_pos h,if_pos (by omega)]
    ·rw[if_neg h,if_neg (by omega)]
  ·rw[gM_row (by omega)]
   split
   ·rfl
   ·exact hg a b
 ·have hi':i=hs.length:=by omega
  subst hi'
  have hsq:Sqr hs.length rows:=⟨hrl,fun r hr=>by
   obtain⟨a,ha,e⟩:=List.getElem_of_mem hr
   have:=hrw a r (by rw[List.getElem?_eq_getElem ha,e])
   rwa [if_pos (by omega)] at this⟩
  refine⟨v,cxN h a2.new hE,(c32 (h.ext (e2.trans hE)) (hH.ext (e2.trans hE)) hY).use ?_⟩
  rintro _ w22 ⟨s23,ys,rfl,hA,ho,hyl,e22,hbs⟩
  have hsn:=owsN aC_len (by omega) ho
  have E22:Ext w w22:=(e2.trans hE).trans e22
  have z22:=E22.size
  have hold:∀r∈rows,∀j∈blk r.1,j<W.heap.size:=fun r hr j hj=>(hM.row r hr).lt j hj
  refine⟨s23,rfl,fun m z V=>∃(q:Nat)(rows:List MxR),q<=ys.length/\m+q=ys.length/\z=(q:Int)/\Sqr hs.length rows/\(∀a b,gM rows a b=true↔ArE (ys.take q) a b)/\(∀r∈rows,∀j∈blk r.1,j<W.heap.size)/\Mx V w.heap.size ts rows/\Ch (fun j=>w.heap.size<=j/\j<W.heap.size) w22 V,
   ⟨ys.length,0,rows,Nat.zero_le _,rfl,rfl,hsq,fun a b=>⟨fun h=>(by rw[hg] at h;cases h),fun⟨c,h⟩=>(by simp at h)⟩,hold,hM.ext e22,Ch.refl _ _⟩,?_⟩
  rintro m _ V g ⟨q,rows2,hq,hmq,rfl,hsq2,hg2,hold2,hM2,hC2⟩
  have hE2:Ext w V:=E22.chN hC2 fun j hj=>hj.1
  unfold F100j2
  refine IfB.dec (fun hlt=>?_) fun hge=>?_
  ·have hq':q<ys.length:=by omega
   have hx:ys[q]? =some ys[q]:=List.getElem?_eq_getElem hq'
   have hxm:ys[q]∈ys:=List.getElem_mem hq'
   have htk:=take_succ_get hx
   generalize ys[q]=e at hx hxm htk
   obtain⟨a,b,h1,h2,ha,hb,_⟩:=arc_of hY hA hxm
   obtain⟨e1,f1,c⟩:=e
   dsimp only at h1 h2
   subst h1;subst h2
   have ed:=extDrew V
   have hMd:=hM2.ext ed
   have hRd:=(ho.rd.ch hC2 fun j hj hF=>by have:=hbs j hj;omega).ext ed
   obtain⟨pb,po,hpp,hcc⟩:=hRd.elem (i:=q) (by omega) (by omega) (flatGet aC_len hx)
   obtain⟨ra,hra,hral,hram⟩:=hsq2.at ha
   obtain⟨bb,hpb,_⟩:=hMd.cell hram (gM_get hra (k:=b) (by omega))
   have hrn:=hMd.rn hram
   have hbq:(0:Int)<=(q:Int)/\(q:Int)<(s23.n:Int):=⟨by omega,hlt⟩
   refine⟨pb,po,hpp,hbq,(a:Int),by rw[Int.toNat_natCast];exact hcc 0 _ rfl,b3,0,rfl,hslot ha,ra.1,slot hMd hra,pb,po,hpp,hbq,(b:Int),by rw[Int.toNat_natCast];exact hcc 1 _ rfl,bb,0,hpb,⟨by omega,by omega⟩,rfl,?_⟩
   rw[Int.toNat_natCast]
   refine hMd.put hra (by omega) hpb fun w' hM' hC'=>⟨rfl,m-1,by omega,q+1,_,hq',by omega,by rw[wrap_of (by omega) (by omega)];rfl,hsq2.set hra _,fun i k=>?_,fun r hr j hj=>?_,hM',(hC2.trans (ed.mono fun _ _ h=>h.elim)).trans (hC'.mono fun j _ e=>⟨hMd.rnew ra hram j (by simp[blk,hpb,e]),hold2 ra hram j (by simp[blk,hpb,e])⟩)⟩
   ·rw[gM_set hra (by omega),htk]
    unfold ArE at hg2 ⊢
    constructor
    ·intro h
     split at h
     ·rename_i hab
      obtain⟨rfl,rfl⟩:=hab
      exact⟨c,by simp⟩
     ·obtain⟨c',hc'⟩:=(hg2 i k).1 h
      exact⟨c',List.mem_append.2 (.inl hc')⟩
    ·rintro⟨c',hc'⟩
     split
     ·rfl
     ·rename_i hab
      rcases List.mem_append.1 hc' with h'|h'
      ·exact(hg2 i k).2 ⟨c',h'⟩
      ·have:=List.mem_singleton.1 h'
       simp only[Prod.mk.injEq] at this
       exact absurd ⟨by omega,by omega⟩ hab
   ·rcases mem_set hr with rfl|⟨a',_,ha'⟩
    ·exact hold2 ra hram j hj
    ·exact hold2 r (List.mem_of_getElem? ha') j hj
  ·have hq':q=ys.length:=by omega
   subst hq'
   rw[List.take_length] at hg2
   have hEE:∀a b,ArcE x hs a b->a<hs.length/\b<hs.length:=fun a b h=>h.lt
   have hF0:FwE (ArcE x hs) hs.length 0 0 0 rows2:=⟨fun a b h=>(hg2 a b).2 ((hA.are hY a b).2 h),fun a b h=>.one ((hA.are hY a b).1 ((hg2 a b).1 h)),fun a b _ hab=>by omega⟩
   refine⟨fun n z W'=>∃(m:Nat)(rows:List MxR),m<=hs.length/\n+m=hs.length/\z=(m:Int)/\Sqr hs.length rows/\FwE (ArcE x hs) hs.length m 0 0 rows/\Mx W' w.heap.size ts rows/\Ext w W',⟨hs.length,0,rows2,Nat.zero_le _,rfl,rfl,hsq2,hF0,hM2,hE2⟩,?_⟩
   rintro n _ w53 g ⟨m,rows3,hm,hnm,rfl,hsq3,hF3,hM3,hE3⟩
   unfold F100j3
   have hst:∀ {i:Nat},i<hs.length->(0:Int)<=(i:Int)/\(i:Int)<(t.n:Int):=fun{i} h=>⟨by omega,by omega⟩
   refine IfB.dec (fun hlt=>?_) fun hge=>?_
   ·have hm':m<hs.length:=by omega
    refine⟨fun q z W'=>∃(i:Nat)(rows:List MxR),i<=hs.length/\q+i=hs.length/\z=(i:Int)/\Sqr hs.length rows/\FwE (ArcE x hs) hs.length m i 0 rows/\Mx W' w.heap.size ts rows/\Ext w W',⟨hs.length,0,rows3,Nat.zero_le _,rfl,rfl,hsq3,hF3,hM3,hE3⟩,?_⟩
    rintro q _ w60 g ⟨i,rows4,hi,hqi,rfl,hsq4,hF4,hM4,hE4⟩
    refine IfB.dec (fun hlt2=>?_) fun hge2=>?_
    ·have hi':i<hs.length:=by omega
     refine⟨fun s z W'=>∃(k:Nat)(rows:List MxR),k<=hs.length/\s+k=hs.length/\z=(k:Int)/\Sqr hs.length rows/\FwE (ArcE x hs) hs.length m i k rows/\Mx W' w.heap.size ts rows/\Ext w W',⟨hs.length,0,rows4,Nat.zero_le _,rfl,rfl,hsq4,hF4,hM4,hE4⟩,?_⟩
     rintro s _ w67 g ⟨k,rows5,hk,hsk,rfl,hsq5,hF5,hM5,hE5⟩
     unfold F100j5
     refine IfB.dec (fun hlt3=>?_) fun hge3=>?_
     ·have hk':k<hs.length:=by omega
      obtain⟨ri,hri,hril,hrim⟩:=hsq5.at hi'
      obtain⟨rm,hrm,hrml,hrmm⟩:=hsq5.at hm'
      have hin:=hM5.rn hrim
      have hmn:=hM5.rn hrmm
      obtain⟨c1,hp1,hc1⟩:=hM5.cell hrim (gM_get hri (k:=m) (by omega))
      obtain⟨c2,hp2,hc2⟩:=hM5.cell hrmm (gM_get hrm (k:=k) (by omega))
      have stay:(Fw (ArcE x hs) (m+1) i k->gM rows5 i k=true)->∃b90,b90<s/\∃(k':Nat)(rows:List MxR),k'<=hs.length/\b90+k'=hs.length/\IntKind.i64.wrap ((k:Int)+1)=(k':Int)/\Sqr hs.length rows/\FwE (ArcE x hs) hs.length m i k' rows/\Mx w67 w.heap.size ts rows/\Ext w w67:=fun h=>
       ⟨s-1,by omega,k+1,rows5,hk',by omega,w1 hk',hsq5,hF5.next (fun _ _ h=>h) hF5.hi h,hM5,hE5⟩
      refine⟨b3,0,rfl,hslot hi',ri.1,slot hM5 hri,c1,0,hp1,⟨by omega,by show (m:Int)<(ri.1.n:Int);omega⟩,gM rows5 i m,by rw[Int.toNat_natCast,Nat.zero_add];exact hc1,IfB.intro (fun h1=>?_) fun h1=>⟨rfl,stay fun hF=>?_⟩⟩
      ·refine⟨b3,0,rfl,hslot hm',rm.1,slot hM5 hrm,c2,0,hp2,⟨by omega,by show (k:Int)<(rm.1.n:Int);omega⟩,gM rows5 m k,by rw[Int.toNat_natCast,Nat.zero_add];exact hc2,IfB.intro (fun h2=>?_) fun h2=>⟨rfl,stay fun hF=>?_⟩⟩
       ·refine⟨b3,0,rfl,hslot hi',ri.1,slot hM5 hri,c1,0,hp1,⟨by omega,by show (k:Int)<(ri.1.n:Int);omega⟩,rfl,?_⟩
        rw[Int.toNat_natCast]
        have hup:=(hF5.hi _ _ h1).trans (hF5.hi _ _ h2)
        have hset:=gM_set hri (k:=k) (by omega) true
        refine hM5.put hri (by omega) hp1 fun w' hM' hC'=>⟨rfl,s-1,by omega,k+1,_,hk',by omega,w1 hk',hsq5.set hri _,hF5.next (fun a b h=>?_) (fun a b h=>?_) (fun _=>?_),hM',hE5.chN hC' fun j e=>hM5.rnew ri hrim j (by simp[blk,hp1,e])⟩
        ·rw[hset];split
         ·rfl
         ·exact h
        ·rw[hset] at h
         split at h
         ·rename_i hab;rw[hab.1,hab.2];exact hup
         ·exact hF5.hi a b h
        ·rw[hset,if_pos ⟨rfl,rfl⟩]
       ·rcases hF with hF|hF
        ·exact hF5.lo _ _ hF
        ·rw[hF5.lo _ _ hF.2] at h2;cases h2
      ·rcases hF with hF|hF
       ·exact hF5.lo _ _ hF
       ·rw[hF5.lo _ _ hF.1] at h1;cases h1
     ·have hk':k=hs.length:=by omega
      subst hk'
      exact⟨rfl,q-1,by omega,i+1,rows5,hi',by omega,w1 hi',hsq5,hF5.row,hM5,hE5⟩
    ·have hi':i=hs.length:=by omega
     subst hi'
     exact⟨rfl,n-1,by omega,m+1,rows4,hm',by omega,w1 hm',hsq4,hF4.stage hEE,hM4,hE4⟩
   ·have hm':m=hs.length:=by omega
    subst hm'
    refine⟨ts,rows3,ys,?_,hA,hsq3,fun a b=>⟨hF3.hi a b,fun h=>hF3.lo a b ((Fw_iff fun a b h=>(hEE a b h).2).2 h)⟩,hM3,hE3⟩
    rw[hts,Int.toNat_natCast,hn]
theorem c39{w:World}{v:CatV}{x:CatD}{t:Sl}{hs:List Nd}(h:CatM w v x)(hH:Hst w t hs)(hY:HMay x hs):
  Cw 39 #[cxV v,slV t] w fun r w'=>∃(t':Sl)(ys:List ArcD)(os:List Nat),r=slV t'/\ArcsP x hs ys/\os.Pairwise (· < ·)/\(∀i,i∈os↔i<hs.length/\TC (ArcE x hs) i i)/\OwS w' t' 1 (os.map fun k:Nat=>iv (k:Int))/\Ext w w':=by
 have htn:=hH.n
 have hl100:=hY.len
 refine F39_ok v t w _ fun b1 w2 a2=>?_
 have e2:Ext w w2:=a2.ch _
 refine⟨v,cxN h a2.new (Ch.refl _ _),(c100 (h.ext e2) (hH.ext e2) hY).use ?_⟩
 rintro _ w7 ⟨s8,rows,ys,rfl,hA,hsq,hg,hMx,e7⟩
 have E7:=e2.trans e7
 have hsn:=hMx.n
 have hsq1:=hsq.1
 refine⟨s8,rfl,fun m z W=>∃(i:Nat)(os:List Nat)(so:Sl),i<=hs.length/\m+i=hs.length/\z=(so,(i:Int))/\os.Pairwise (· < ·)/\(∀k,k∈os↔k<i/\TC (ArcE x hs) k k)/\OwS W so 1 (os.map fun k:Nat=>iv (k:Int))/\(∀j∈blk so,w7.heap.size<=j)/\Ext w7 W,
  ⟨hs.length,0,[],⟨none,0,0⟩,Nat.zero_le _,rfl,rfl,.nil,by simp,.nil _ _,by simp[blk],Ch.refl _ _⟩,?_⟩
 rintro m _ W g ⟨i,os,so,hi,hm,rfl,hsr,hmem,hos,hbk,eW⟩
 unfold F39j1
 have hosn:=hos.len
 rw[List.length_map,Nat.mul_one] at hosn
 have hol:os.length<=i:=by
  have:=nodup_le (a:=os) (b:=List.range i) (hsr.imp fun h e=>by omega) fun k hk=>List.mem_range.2 ((hmem k).1 hk).1
  simpa using this
 refine IfB.dec (fun hlt=>?_) fun hge=>?_
 ·dsimp only at hlt
  have hi':i<hs.length:=by omega
  have hw:IntKind.i64.wrap ((i:Int)+1)=((i+1:Nat):Int):=by rw[wrap_of (by omega) (by omega)];rfl
  obtain⟨ra,hra,hral,hram⟩:=hsq.at hi'
  have hMd:=hMx.ext eW
  obtain⟨b1',hp1,hc1⟩:=hMd.slot hra
  obtain⟨b2',hp2,hc2⟩:=hMd.cell hram (gM_get hra (k:=i) (by omega))
  have hrn:=hMd.rn hram
  have up:∀ {os':List Nat},(∀k,k∈os'↔k∈os\/(k=i/\gM rows i i=true))->∀k,k∈os'↔k<i+1/\TC (ArcE x hs) k k:=fun h k=>by
   rw[h,hmem]
   constructor
   ·rintro(⟨h1,h2⟩|⟨rfl,h2⟩)
    ·exact⟨by omega,h2⟩
    ·exact⟨by omega,(hg k k).1 h2⟩
   ·rintro⟨h1,h2⟩
    rcases Nat.lt_or_ge k i with h'|h'
    ·exact .inl ⟨h',h2⟩
    ·have:k=i:=by omega
     subst this
     exact .inr ⟨rfl,(hg k k).2 h2⟩
  refine⟨b1',0,hp1,⟨by dsimp only;omega,by dsimp only;omega⟩,ra.1,by dsimp only;rw[Int.toNat_natCast,Nat.zero_add];exact hc1,b2',0,hp2,⟨by dsimp only;omega,by dsimp only;omega⟩,gM rows i i,by dsimp only;rw[Int.toNat_natCast,Nat.zero_add];exact hc2,IfB.intro (fun hin=>⟨by decide,fun b22 w23 a23=>?_⟩) fun hin=>⟨rfl,m-1,by omega,i+1,os,so,hi',by omega,by dsimp only;rw[hw],hsr,up fun k=>?_,hos,hbk,eW⟩⟩
  ·have e23:Ext W w23:=a23.ch _
   have z23:=a23.size;have p23:=a23.here;have zW:=eW.size
   refine(hos.ext e23).lit (new:=[iv (i:Int)]) a23.new rfl (by intro v hv;rw[List.mem_singleton.1 hv];rfl) rfl rfl (by omega) (by decide) fun s25 w26 ho26 hn26 hC26 hb26=>⟨rfl,m-1,by omega,i+1,os++[i],s25,hi',by omega,by dsimp only;rw[hw],?_,up fun k=>?_,by rw[List.map_append];exact ho26,fun j hj=>?_,(eW.trans e23).chN hC26 fun j hj=>hbk j hj⟩
   ·exact List.pairwise_append.2 ⟨hsr,List.pairwise_singleton _ _,fun a ha b hb=>by rw[List.mem_singleton.1 hb];exact((hmem a).1 ha).1⟩
   ·rw[List.mem_append,List.mem_singleton]
    exact⟨fun h=>h.imp id fun h=>⟨h,hin⟩,fun h=>h.imp id fun h=>h.1⟩
   ·rcases hb26 j hj with h'|h'
    ·exact hbk j h'
    ·omega
  ·have hin:gM rows i i=false:=hin
   exact⟨.inl,fun h=>h.elim id fun h=>(by rw[hin] at h;cases h.2)⟩
 ·dsimp only at hge
  have hi':i=hs.length:=by omega
  subst hi'
  exact⟨so,ys,os,rfl,hA,hsr,hmem,hos,E7.trans eW⟩
def GoodP(x:CatD)(hs:List Nd):Prop:=HMay x hs/\∃r,FairR x hs r
theorem c33{w:World}{v:CatV}{x:CatD}{t:Sl}{hs:List Nd}(h:CatM w v x)(hH:Hst w t hs):
  Cw 33 #[cxV v,slV t] w fun r w'=>∃b,r=.bool b/\(b=true↔GoodP x hs)/\Ext w w':=by
 refine F33_ok v t w _ fun b1 w2 a2=>?_
 have e2:Ext w w2:=a2.ch _
 refine⟨v,cxN h a2.new (Ch.refl _ _),(c31 (h.ext e2) (hH.ext e2)).use ?_⟩
 rintro _ w7 ⟨r,rfl,hr,e7⟩
 have E7:=e2.trans e7
 refine⟨r,rfl,IfB.intro (fun h1=>⟨v,cxN h a2.new e7,(c39 (h.ext E7) (hH.ext E7) (hr.1 h1)).use ?_⟩) fun h1=>⟨false,rfl,⟨fun h=>(by cases h),fun h'=>?_⟩,E7⟩⟩
 ·rintro _ w13 ⟨s14,ys,os,rfl,hA,hsr,hmem,ho,e13⟩
  have hn:=ho.len
  rw[List.length_map,Nat.mul_one] at hn
  refine⟨s14,rfl,_,rfl,?_,E7.trans e13⟩
  rw[beq_iff_eq]
  have hM:=hr.1 h1
  unfold GoodP
  rw[<-acyc_iff hM hA]
  constructor
  ·intro h0
   refine⟨hM,fun i hi=>?_⟩
   have hos:os=[]:=List.eq_nil_of_length_eq_zero (by omega)
   have:=(hmem i).2 ⟨(TC.lt hi).1,hi⟩
   rw[hos] at this;cases this
  ·rintro⟨_,h0⟩
   have hos:os=[]:=by
    cases os with
    | nil=>rfl
    | cons a os=>exact absurd ((hmem a).1 (by simp)).2 (h0 a)
   have hn:s14.n=0:=by rw[<-hn,hos];rfl
   rw[hn];rfl
 ·have h1:r=false:=h1
  rw[hr.2 h'.1] at h1;cases h1
set_option maxRecDepth 100000
def F8k2(x172:Bool×Int)(t1:Sl)(w173:World)(b3:Nat)(b171:Nat)(y169:Nat->Bool×Int->World->Prop):Prop:=IfB x172.1 (Qx t1.1 x172.2 (t1.2:Int) fun b176 b177=>∃(x178:Int×Int×Int×Bool×Sl×Sl),CellsAt w173.drew b176 (b177+x172.2.toNat*6) (lC53 x178)/\∃(x179:Int×Int×Int×Bool×Sl×Sl),CellsAt w173.drew b3 0 (lC53 x179)/\Qv' 36 #[Value.agg (lC53 x178).toArray,Value.agg (lC53 x179).toArray] w173.drew fun t182 w181=>Qn y169 b171 (!t182,IntKind.i64.wrap (x172.2+1)) w181) (Qn y169 b171 (false,IntKind.i64.wrap (x172.2+1)) w173.drew)
def F8k3(w173:World)(b1:Nat)(b3:Nat)(t1:Sl)(R:RV):Prop:=∃(x201:Sl×List Value),CellsN w173 b1 0 17 (Qy x201.fst::x201.2)/\∃(x204:Int×Int×Int×Bool×Sl×Sl),CellsAt w173 b3 0 (lC53 x204)/\Qv' 35 #[Value.agg { toList:=Qy x201.fst::x201.2 },Qy t1,Value.agg (lC53 x204).toArray] w173 fun t207 w206=>R (Value.bool t207) w206
def F8k1(w173:World)(b3:Nat)(x172:Bool×Int)(R:RV)(b1:Nat)(t1:Sl):Prop:=Qb w173 b3 (0+3) fun t185=>IfB (!t185) (IfB x172.1 (Qi w173 b3 (0+2) fun n186=>IfB (!n186 == 0) (R (Value.bool true) w173) (F8k3 w173 b1 b3 t1 R)) (IfB (!false) (R (Value.bool true) w173) (F8k3 w173 b1 b3 t1 R))) (F8k3 w173 b1 b3 t1 R)
def F8j1(t1:Sl)(R:RV)(b1:Nat)(b3:Nat)(y37:Nat->Bool×Int->World->Prop)(b39:Nat)(x40:Bool×Int)(w41:World):Prop:=IfB (decide (x40.snd<(t1.n:Int))) (F8k2 x40 t1 w41 b3 b39 y37) (F8k1 w41 b3 x40 R b1 t1)
def F8j2(t1:Sl)(R:RV)(b1:Nat)(b3:Nat)(y102:Nat->Bool×Int->World->Prop)(b104:Nat)(x105:Bool×Int)(w106:World):Prop:=IfB (decide (x105.snd<(t1.n:Int))) (F8k2 x105 t1 w106 b3 b104 y102) (F8k1 w106 b3 x105 R b1 t1)
def F8j3(t1:Sl)(R:RV)(b1:Nat)(b3:Nat)(y169:Nat->Bool×Int->World->Prop)(b171:Nat)(x172:Bool×Int)(w173:World):Prop:=IfB (decide (x172.snd<(t1.n:Int))) (F8k2 x172 t1 w173 b3 b171 y169) (F8k1 w173 b3 x172 R b1 t1)
def F8k4(w6:World)(b3:Nat)(t1:Sl)(b1:Nat)(R:RV):Prop:=∃(x8:Int×Int×Int×Bool×Sl×Sl),CellsAt w6.drew b3 0 (lC53 x8)/\(0*6<=16777216/\AllocP w6.drew (Obj.cells #[] 53) fun b9 w10=>CellsAt w10 b3 0 (lC53 x8)/\(∃(l11:List Value),ReadC w10 t1.1 (t1.2*6) l11/\AppendP tt53 53 w10 (some ⟨b9,0,none⟩) 0 0 t1.2 l11 fun s12 w13=>CellsAt w13 b3 0 (lC53 x8)/\1*6<=16777216/\AllocP w13 (Obj.cells (lC53 x8).toArray 53) fun b14 w15=>∃(l16:List Value),ReadC w15 (some ⟨b14,0,none⟩) (1*6) l16/\AppendP tt53 53 w15 s12.1 s12.2 s12.3 1 l16 fun s17 w18=>∃(x19:Sl×List Value),CellsN w18 b1 0 17 (Qy x19.fst::x19.2)/\Qv' 29 #[Value.agg { toList:=Qy x19.fst::x19.2 },Qy s17] w18 fun t24 w23=>IfB t24 (R (Value.bool true) w23) (∃(x25:Sl×List Value),CellsN w23 b1 0 17 (Qy x25.fst::x25.2)/\Qv' 31 #[Value.agg { toList:=Qy x25.fst::x25.2 },Qy s17] w23 fun t30 w29=>IfB (!t30) (R (Value.bool true) w29) (∃(x31:Sl×List Value),CellsN w29 b1 0 17 (Qy x31.fst::x31.2)/\Qv' 33 #[Value.agg { toList:=Qy x31.fst::x31.2 },Qy t1] w29 fun t36 w35=>IfB (!t36) (R (Value.bool true) w35) (Ql (α:=Bool×Int) (true,0) w35 fun y37 b39 x40 w41=>(F8j1 t1 R b1 b3 y37 b39 x40 w41)))))/\1*6<=16777216/\AllocP w10 (Obj.cells (lC53 x8).toArray 53) fun b76 w77=>∃(l78:List Value),ReadC w77 t1.1 (t1.2*6) l78/\AppendP tt53 53 w77 (some ⟨b9,0,none⟩) 0 0 t1.2 l78 fun s79 w80=>∃(l81:List Value),ReadC w80 (some ⟨b76,0,none⟩) (1*6) l81/\AppendP tt53 53 w80 s79.1 s79.2 s79.3 1 l81 fun s82 w83=>∃(x84:Sl×List Value),CellsN w83 b1 0 17 (Qy x84.fst::x84.2)/\Qv' 29 #[Value.agg { toList:=Qy x84.fst::x84.2 },Qy s82] w83 fun t89 w88=>IfB t89 (R (Value.bool true) w88) (∃(x90:Sl×List Value),CellsN w88 b1 0 17 (Qy x90.fst::x90.2)/\Qv' 31 #[Value.agg { toList:=Qy x90.fst::x90.2 },Qy s82] w88 fun t95 w94=>IfB (!t95) (R (Value.bool true) w94) (∃(x96:Sl×List Value),CellsN w94 b1 0 17 (Qy x96.fst::x96.2)/\Qv' 33 #[Value.agg { toList:=Qy x96.fst::x96.2 },Qy t1] w94 fun t101 w100=>IfB (!t101) (R (Value.bool true) w100) (Ql (α:=Bool×Int) (true,0) w100 fun y102 b104 x105 w106=>(F8j2 t1 R b1 b3 y102 b104 x105 w106)))))/\1*6<=16777216/\AllocP w6.drew (Obj.cells (lC53 x8).toArray 53) fun b141 w142=>0*6<=16777216/\AllocP w142 (Obj.cells #[] 53) fun b143 w144=>∃(l145:List Value),ReadC w144 t1.1 (t1.2*6) l145/\AppendP tt53 53 w144 (some ⟨b143,0,none⟩) 0 0 t1.2 l145 fun s146 w147=>∃(l148:List Value),ReadC w147 (some ⟨b141,0,none⟩) (1*6) l148/\AppendP tt53 53 w147 s146.1 s146.2 s146.3 1 l148 fun s149 w150=>∃(x151:Sl×List Value),CellsN w150 b1 0 17 (Qy x151.fst::x151.2)/\Qv' 29 #[Value.agg { toList:=Qy x151.fst::x151.2 },Qy s149] w150 fun t156 w155=>IfB t156 (R (Value.bool true) w155) (∃(x157:Sl×List Value),CellsN w155 b1 0 17 (Qy x157.fst::x157.2)/\Qv' 31 #[Value.agg { toList:=Qy x157.fst::x157.2 },Qy s149] w155 fun t162 w161=>IfB (!t162) (R (Value.bool true) w161) (∃(x163:Sl×List Value),CellsN w161 b1 0 17 (Qy x163.fst::x163.2)/\Qv' 33 #[Value.agg { toList:=Qy x163.fst::x163.2 },Qy t1] w161 fun t168 w167=>IfB (!t168) (R (Value.bool true) w167) (Ql (α:=Bool×Int) (true,0) w167 fun y169 b171 x172 w173=>(F8j3 t1 R b1 b3 y169 b171 x172 w173))))
theorem F8_ok(t0:Sl×List Value)(t1:Sl)(t2:Int×Int×Int×Bool×Sl×Sl)(w:World)(R:RV)(h:AllocP w (Obj.cells { toList:=Qy t0.fst::t0.2 } 26) fun b1 w2=>AllocP w2 (Obj.cells (lC53 t2).toArray 53) fun b3 w4=>Qv' 28 #[] w4 fun t7 w6=>IfB (!t7) (R (Value.bool false) w6) (F8k4 w6 b3 t1 b1 R)):Cw 8 #[Value.agg { toList:=Qy t0.fst::t0.2 },Qy t1,(.agg (lC53 t2).toArray)] w R:=
 ckF Tryz.func8 (nd (nd (.node (.draw (sts [1,3] (.ac 0 [3,1] (.ac 2 [3] (.ac 4 [] (.ac 5 [] (.st 6 .fin) .non) .non) (.ac 4 [1] (.ac 2 [] (.ac 5 [] (.st 6 .fin) .non) .non) .non)) (.ac 4 [1] (.ac 0 [1] (.ac 2 [] (.ac 5 [] (.st 6 .fin) .non) .non) .non) .non)))) (nd (nd (.node (nd (.loop [(8,ob),(9,oi)] (rg [8,9,33,48]) (nd (.node (.draw (sts [0,1,2,3,4,5,6] (.ac 7 [] (sts [8,9,10] .fin) .non))) .nil)))) .nil)))))) h (by kernel_rfl) (by kernel_rfl)
theorem arr_plain{A:Nat->Prop}{w:World}{e:Ty}{n:Nat}{f:e.den->List Value}{Q:e.den->Prop}{l:List e.den}{cs:List Value}(h:rep A w (.arr n e) l cs)(hp:∀x c,rep A w e x c->c=f x/\Q x):l.length=n/\cs=l.flatMap f/\∀x∈l,Q x:=by
 obtain⟨hn,css,hl,hr,rfl⟩:=h
 have hi:∀(i:Nat)(hi:i<l.length),css[i]? =some (f l[i])/\Q l[i]:=fun i hi=>by
  have hc:css[i]? =some (css[i]'(by omega)):=List.getElem?_eq_getElem (by omega)
  obtain⟨h1,h2⟩:=hp _ _ (hr i _ _ hc (List.getElem?_eq_getElem hi))
  exact⟨by rw[hc,h1],h2⟩
 have hcs:css=l.map f:=by
  apply List.ext_getElem?
  intro i
  by_cases h:i<l.length
  ·rw[(hi i h).1,List.getElem?_map,List.getElem?_eq_getElem h];rfl
  ·rw[List.getElem?_eq_none (by omega),List.getElem?_eq_none (by rw[List.length_map];omega)]
 refine⟨hn,by rw[hcs,List.flatMap_def],fun x hx=>?_⟩
 obtain⟨i,h,rfl⟩:=List.getElem_of_mem hx
 exact(hi i h).2
abbrev catOf(x:tyCat.den):CatD:=(x.1,x.2.flatten)
theorem rep_cat{A:Nat->Prop}{w:World}{x:tyCat.den}{cs:List Value}(h:rep A w tyCat x cs):∃v:CatV,cs=cxC v/\CatM w v (catOf x):=by
 obtain⟨c,d,rfl,h1,h2⟩:=h
 have h1:=rep_mono (B:=fun _=>True) (fun _ _=>trivial) h1
 obtain⟨s,rfl,_⟩:=id h1
 obtain⟨k1,k2,k3⟩:=arr_plain (n:=4) (e:=.arr 4 tyI) (f:=fun r=>r.map fun n=>Value.int .i64 n) (Q:=fun r=>r.length=4/\∀n∈r, -9223372036854775808<=n/\n<=9223372036854775807) (l:=x.2) h2 fun r c hr=>by
  obtain⟨g1,g2,g3⟩:=arr_plain (n:=4) (e:=tyI) (f:=fun n=>[Value.int .i64 n]) (Q:=fun n=> -9223372036854775808<=n/\n<=9223372036854775807) (l:=r) hr fun n c hc=>⟨hc.1,hc.2.1,hc.2.2⟩
  refine⟨by rw[g2,List.map_eq_flatMap],g1,g3⟩
 refine⟨(s,d),rfl,h1,?_,?_,fun n hn=>?_⟩
 ·rw[k2]
  show List.flatMap _ x.2=x.2.flatten.map _
  rw[List.map_flatten,List.flatMap_def]
 ·show x.2.flatten.length=16
  rw[List.length_flatten]
  have:∀l:List (List Int),(∀r∈l,r.length=4)->(l.map List.length).sum=l.length*4:=fun l=>by
   induction l with
   | nil=>intro _;rfl
   | cons r l ih=>
    intro h
    rw[List.map_cons,List.sum_cons,ih fun q hq=>h q (List.mem_cons_of_mem _ hq),h r (by simp),List.length_cons];omega
  rw[this _ fun r hr=>(k3 r hr).1]
  have k1:x.2.length=4:=k1
  omega
 ·obtain⟨r,hr,hn⟩:=List.mem_flatten.1 hn
  exact(k3 r hr).2 n hn
theorem arr_eq{cs:Array Value}{l:List Value}(h:cs.toList=l):cs=l.toArray:=by rw[<-h]
def F96(t0:Sl)(w:World)(R:RV):Prop:=IfB t0.1.isNone (R (Value.slice none 0 0) w) (0*6<=16777216/\AllocP w (Obj.cells #[] 53) fun b1 w2=>∃(l3:List Value),ReadC w2 t0.1 (t0.2*6) l3/\AppendP tt53 53 w2 (some ⟨b1,0,none⟩) 0 0 t0.2 l3 fun s4 w5=>R (Qy s4) w5)
theorem F96_ok(t0:Sl)(w:World)(R:RV)(h:F96 t0 w R):Cw 96 #[Qy t0] w R:=
 ckF Tryz.func96 .nil h (by kernel_rfl) (by kernel_rfl)
theorem c96{w:World}{t:Sl}{xs:List NdV}(h:Rd w t 6 (xs.flatMap nC))(hl:xs.length<=1000000):Cw 96 #[slV t] w fun v w'=>∃t',v=slV t'/\OwS w' t' 6 (xs.flatMap nC)/\Ext w w'/\∀i∈blk t',w.heap.size<=i:=by
 have hn:=rdN nC_len (by omega) h
 refine F96_ok t w _ ?_
 have e:∀R,F96 t w R=CloneF tt53 53 6 t w R:=fun _=>rfl
 rw[e]
 refine CloneF_of h rfl rfl (flatOne nC_one _) ⟨by omega,?_⟩ (fun s' w' h1 h2 h3 h4=>⟨s',rfl,h1,h3,h4⟩) fun hp=>?_
 ·show 2*t.n*80<=_
  omega
 ·have h2:=h.2
  rw[hp] at h2
  have:xs.flatMap nC=[]:=h2
  have h3:=h.1
  rw[this] at h3
  simp at h3;omega
theorem app1{W:World}{s t:Sl}{hs:List Nd}(ho:OwS W s 6 [])(hn:s.n=0)(hH:HIn W t hs)(hr:t.n*80<=140737488351232){K:Sl->World->Prop}
  (hK:∀s' W',OwS W' s' 6 (hs.flatMap nL)->s'.n=hs.length->Ch (fun i=>i∈blk s) W W'->(∀i∈blk s',i∈blk s\/W.heap.size<=i)->K s' W'):
  ∃l,ReadC W t.1 (t.2*6) l/\AppendP tt53 53 W s.1 s.2 s.3 t.2 l K:=by
 refine⟨_,hH.rd.2,ho.append (cnt:=t.n) rfl rfl hH.rd.1 (flatOne nL_one _) ⟨by omega,?_⟩ fun s' W' h1 h2 h3 h4 _=>hK s' W' h1 (by have:=hH.n;omega) h3 h4⟩
 show 2*(s.n+t.n)*80<=_
 omega
theorem app2{W:World}{s:Sl}{cs:List Value}{x:NdV}{b:Nat}{T:TypeId}(ho:OwS W s 6 cs)(hr:s.n*80<=140737488351232)(hb:W.heap[b]? =some (.cells (nC x).toArray T (0,0))){K:Sl->World->Prop}
  (hK:∀s' W',OwS W' s' 6 (cs++nC x)->Ch (fun i=>i∈blk s) W W'->K s' W'):
  ∃l,ReadC W (some ⟨b,0,none⟩) (1*6) l/\AppendP tt53 53 W s.1 s.2 s.3 1 l K:=by
 refine⟨nC x,⟨rfl,cellsAt_of hb fun i v hv=>by simpa using hv⟩,ho.append (cnt:=1) rfl rfl rfl (nC_one x) ⟨by omega,?_⟩ fun s' W' h1 h2 h3 h4 _=>hK s' W' h1 h3⟩
 show 2*(s.n+1)*80<=_
 omega
theorem orders{w:World}{t:Sl}{hs:List Nd}{n:Nd}{b1:Nat}{T1:TypeId}(hH:HIn w t hs)(hN:NdIn w n)(hr:t.n*80<=140737488351232)(hb1:w.heap[b1]? =some (.cells (nC n.v).toArray T1 (0,0))){K:Sl->World->Prop}
  (hK:∀s w',HIn w' s (hs++[n])->Ext w w'->K s w'):
  (0*6<=16777216/\AllocP w (.cells #[] 53) fun b7 w8=>CellsAt w8 b1 0 (nC n.v)/\
   (∃l9,ReadC w8 t.1 (t.2*6) l9/\AppendP tt53 53 w8 (some ⟨b7,0,none⟩) 0 0 t.2 l9 fun s10 w11=>CellsAt w11 b1 0 (nC n.v)/\1*6<=16777216/\AllocP w11 (.cells (nC n.v).toArray 53) fun b12 w13=>
    ∃l14,ReadC w13 (some ⟨b12,0,none⟩) (1*6) l14/\AppendP tt53 53 w13 s10.1 s10.2 s10.3 1 l14 fun s15 w16=>K s15 w16)/\
   1*6<=16777216/\AllocP w8 (.cells (nC n.v).toArray 53) fun b92 w93=>∃l94,ReadC w93 t.1 (t.2*6) l94/\AppendP tt53 53 w93 (some ⟨b7,0,none⟩) 0 0 t.2 l94 fun s95 w96=>
    ∃l97,ReadC w96 (some ⟨b92,0,none⟩) (1*6) l97/\AppendP tt53 53 w96 s95.1 s95.2 s95.3 1 l97 fun s98 w99=>K s98 w99)/\
  1*6<=16777216/\AllocP w (.cells (nC n.v).toArray 53) fun b175 w176=>0*6<=16777216/\AllocP w176 (.cells #[] 53) fun b177 w178=>
   ∃l179,ReadC w178 t.1 (t.2*6) l179/\AppendP tt53 53 w178 (some ⟨b177,0,none⟩) 0 0 t.2 l179 fun s180 w181=>
    ∃l182,ReadC w181 (some ⟨b175,0,none⟩) (1*6) l182/\AppendP tt53 53 w181 s180.1 s180.2 s180.3 1 l182 fun s183 w184=>K s183 w184:=by
 have at1:∀ {W:World},Ext w W->CellsAt W b1 0 (nC n.v):=fun e=>cellsAt_of (e.at hb1) fun i v hv=>by simpa using hv
 have htn:=hH.n
 have emp:∀ {W W':World}{b:Nat},IsAlloc W (.cells #[] 53 (0,0)) b W'->OwS W' ⟨some ⟨b,0,none⟩,0,0⟩ 6 []:=fun a=>OwS.new (cs:=[]) (n:=0) a rfl
 have bkE:∀ {b:Nat},∀i∈blk (⟨some ⟨b,0,none⟩,0,0⟩:Sl),i=b:=fun i hi=>by simpa [blk] using hi
 have fin:∀ {s:Sl}{W W':World},OwS W' s 6 (hs.flatMap nL++nC n.v)->Ext w W'->K s W':=fun{s W W'} ho e=>by
  have hlist:hs.flatMap nL++nC n.v=(hs++[n]).flatMap nL:=by rw[List.flatMap_append];simp
  rw[hlist] at ho
  refine hK s W' ⟨ho.rd,fun m hm=>?_,ho.cap,?_⟩ e
  ·rcases List.mem_append.1 hm with h|h
   ·exact(hH.nd m h).ext e
   ·rw[List.mem_singleton.1 h];exact hN.ext e
  ·rw[List.length_append,List.length_singleton]
   have:maxLen=9223372036854775807:=by decide+kernel
   omega
 refine⟨⟨by decide,fun b7 w8 a8=>?_⟩,by decide,fun b175 w176 a176=>⟨by decide,fun b177 w178 a178=>?_⟩⟩
 ·have e8:Ext w w8:=a8.ch _
  have p8:=a8.here
  refine⟨at1 e8,?_,by decide,fun b92 w93 a93=>?_⟩
  ·refine app1 (s:=⟨some ⟨b7,0,none⟩,0,0⟩) (emp a8) rfl (hH.ext e8) hr fun s10 w11 ho hn hC hb=>?_
   have e11:Ext w w11:=e8.chN hC fun i hi=>by have:=bkE i hi;omega
   refine⟨at1 e11,by decide,fun b12 w13 a13=>?_⟩
   have e13:Ext w11 w13:=a13.ch _
   refine app2 (ho.ext e13) (by omega) a13.new fun s15 w16 ho' hC'=>fin (W:=w) ho' ((e11.trans e13).chN hC' fun i hi=>?_)
   rcases hb i hi with h|h
   ·have:=bkE i h;omega
   ·have:=e8.size;omega
  ·have e93:Ext w8 w93:=a93.ch _
   refine app1 (s:=⟨some ⟨b7,0,none⟩,0,0⟩) ((emp a8).ext e93) rfl (hH.ext (e8.trans e93)) hr fun s95 w96 ho hn hC hb=>?_
   have e96:Ext w w96:=(e8.trans e93).chN hC fun i hi=>by have:=bkE i hi;omega
   have hb92:=hC.at a93.new fun hi=>by have:=bkE _ hi;have:=a93.here;have:=a8.size;omega
   refine app2 ho (by omega) hb92 fun s98 w99 ho' hC'=>fin (W:=w) ho' (e96.chN hC' fun i hi=>?_)
   rcases hb i hi with h|h
   ·have:=bkE i h;omega
   ·have:=e8.size;have:=e93.size;omega
 ·have e176:Ext w w176:=a176.ch _
  have e178:Ext w176 w178:=a178.ch _
  have p178:=a178.here
  have z176:=a176.size
  have p176:=a176.here
  refine app1 (s:=⟨some ⟨b177,0,none⟩,0,0⟩) (emp a178) rfl (hH.ext (e176.trans e178)) hr fun s180 w181 ho hn hC hb=>?_
  have e181:Ext w w181:=(e176.trans e178).chN hC fun i hi=>by have:=bkE i hi;omega
  have hb175:=hC.at (e178.at a176.new) fun hi=>by have:=bkE _ hi;omega
  refine app2 ho (by omega) hb175 fun s183 w184 ho' hC'=>fin (W:=w) ho' (e181.chN hC' fun i hi=>?_)
  rcases hb i hi with h|h
  ·have:=bkE i h;omega
  ·have:=e178.size;omega
theorem arg_reach{P:Program}{H:Type}{enc:TypeId×Value->H}{w:World}{base:Nat}{sp:Nat->Bool}{held:Bool}{t e:TypeId}{v:Value}{x:DataW H}{ps:List MemPlace}{B:Nat}{s:Sl}(hu:P.underlying t=some (.slice e))(h:DataW.Trod enc P w base sp held t v x ps)(hv:v.cells.toList=[slV s])
  (hx:∀elems spare,x=.slice elems spare->(elems.length+spare.length)*P.bytesOf e<=B):s.n*P.bytesOf e<=B:=by
 obtain⟨fuel,h⟩:=h
 rcases DataW.trod_slice hu h with ⟨hc,_⟩|⟨a,len,cap,elems,rest,n,_,hc,hd,_,_,_,hlen,_⟩
 ·rw[hv] at hc
  have:s.n=0:=by simp at hc;exact hc.2.1
  rw[this];simp
 ·rw[hv] at hc
  have:s.n=len:=by simp at hc;exact hc.2.1
  have hd:=congrArg Prod.fst hd
  have:=hx _ _ hd
  rw[List.length_map,List.length_map] at this
  refine Nat.le_trans (Nat.mul_le_mul_right _ ?_) this
  omega
theorem goodB{x:CatD}{hs:List Nd}{b:Bool}(h1:b=true->HMay x hs)(h2:HMay x hs->∃ys out,ArcsP x hs ys/\ToldP ys hs.length out/\(b=true↔out.length=hs.length)):b=true↔GoodP x hs:=by
 constructor
 ·intro h
  have hM:=h1 h
  obtain⟨ys,out,hA,hT,ho⟩:=h2 hM
  exact⟨hM,(told_iff hM hA hT).1 (ho.1 h)⟩
 ·rintro⟨hM,hF⟩
  obtain⟨ys,out,hA,hT,ho⟩:=h2 hM
  exact ho.2 ((told_iff hM hA hT).2 hF)
theorem c35{w:World}{v:CatV}{x:CatD}{t:Sl}{hs:List Nd}{n:Nd}(h:CatM w v x)(hH:Hst w t hs)(hN:NdOk w n)(hl:hs.length<=500):
  Cw 35 #[cxV v,slV t,ndV n.v] w fun r w'=>∃b,r=.bool b/\(b=true↔GoodP x (hs++[n]))/\Ext w w':=by
 have hflat:∀l:List Nd,l.flatMap nL=(l.map (·.v)).flatMap nC:=fun l=>by rw[List.flatMap_map]
 refine F35_ok v t n.v w _ fun b1 w2 a2 b3 w4 a4=>?_
 have e2:Ext w w2:=a2.ch _
 have e4:Ext w2 w4:=a4.ch _
 have ed:=extDrew w4
 have x4:Ext w2 w4.drew:=e4.trans ed
 have E4:Ext w w4.drew:=e2.trans x4
 have hcx:∀ {W:World},Ext w4 W->CellsN W b1 0 17 (cxC v):=fun e=>cxN h a2.new (e4.trans e)
 have hnd:∀ {W:World},Ext w4 W->CellsAt W b3 0 (nC n.v):=fun e=>cellsAt_of (Ext.at e a4.new) fun i v hv=>by simpa using hv
 have fin:∀ {W:World}{s:Sl},Ext w4 W->OwS W s 6 (hs.flatMap nL++nC n.v)->CellsN W b1 0 17 (cxC v)/\Cx 34 #[cxV v,slV s] W fun v23 w24=>∃t25:Bool,v23=Value.bool t25/\∃b,Value.bool t25=.bool b/\(b=true↔GoodP x (hs++[n]))/\Ext w w24:=fun{W s} e ho=>by
  have EW:Ext w W:=(e2.trans e4).trans e
  have hlist:hs.flatMap nL++nC n.v=(hs++[n]).flatMap nL:=by rw[List.flatMap_append];simp
  rw[hlist] at ho
  have hS:Hst W s (hs++[n]):=⟨ho.rd,fun m hm=>by
   rcases List.mem_append.1 hm with h'|h'
   ·exact(hH.ok m h').ext EW
   ·rw[List.mem_singleton.1 h'];exact hN.ext EW,by rw[List.length_append,List.length_singleton];omega,ho.cap⟩
  refine⟨hcx e,(c34 (h.ext EW) hS (by rw[List.length_append,List.length_singleton];omega)).use ?_⟩
  rintro _ w24 ⟨b,rfl,g1,g2,e24⟩
  exact⟨b,rfl,b,rfl,goodB g1 g2,EW.trans e24⟩
 have roomy:∀ {s:Sl}{W:World},OwS W s 6 (hs.flatMap nL)->Roomy (s.n+1) 80:=fun{s W} ho=>by
  have:=owsN nL_len (by omega) ho
  exact⟨by omega,by omega⟩
 refine⟨v,hcx ed,n.v,hnd ed,?_,by decide,fun b26 w27 a26=>?_⟩
 ·have r1:=(hH.ext E4).rd
  rw[hflat] at r1
  refine(c96 r1 (by rw[List.length_map];omega)).use ?_
  rintro _ w10 ⟨s11,rfl,ho,e10,hb⟩
  rw[<-hflat] at ho
  have x10:Ext w4 w10:=ed.trans e10
  refine⟨s11,rfl,hnd x10,hcx x10,by decide,fun b14 w15 a14=>?_⟩
  have e15:Ext w10 w15:=a14.ch _
  have z15:=a14.size
  have z4:=ed.size
  refine⟨hcx (x10.trans e15),nC n.v,⟨rfl,cellsAt_of a14.new fun i v hv=>by simpa using hv⟩,(ho.ext e15).append (cnt:=1) rfl rfl rfl (nC_one n.v) (roomy ho) fun s19 w20 ho20 hn20 hC20 hb20 _=>fin ((x10.trans e15).chN hC20 fun j hj=>?_) ho20⟩
  have:=hb j hj;omega
 ·have e27:Ext w4.drew w27:=a26.ch _
  have x27:Ext w4 w27:=ed.trans e27
  have r1:=(hH.ext (E4.trans e27)).rd
  rw[hflat] at r1
  refine⟨hcx x27,(c96 r1 (by rw[List.length_map];omega)).use ?_⟩
  rintro _ w31 ⟨s32,rfl,ho,e31,hb⟩
  rw[<-hflat] at ho
  have x31:Ext w4 w31:=x27.trans e31
  have z27:=x27.size
  refine⟨s32,rfl,hcx x31,nC n.v,⟨rfl,cellsAt_of (Ext.at e31 a26.new) fun i v hv=>by simpa using hv⟩,ho.append (cnt:=1) rfl rfl rfl (nC_one n.v) (roomy ho) fun s36 w37 ho37 hn37 hC37 hb37 _=>fin (x31.chN hC37 fun j hj=>?_) ho37⟩
  have:=hb j hj;omega
theorem HMay.fresh{x:CatD}{hs:List Nd}{n:Nd}(h:HMay x (hs++[n]))(hb:n.v.2.2.2.1=false)(hs0:n.v.2.2.1=0):∀m∈hs,m.v.1≠n.v.1:=by
 have hlast:(hs++[n])[hs.length]? =some n:=by simp
 have hnx:=(h.ok _ n hlast).nx
 have hoc:=own_class h n.v.1 hs.length (by simp)
 cases hl:lastOwn (hs++[n]) hs.length n.v.1 with
 | none=>
  rw[hl] at hoc
  intro m hm
  obtain⟨k,hk,rfl⟩:=List.getElem_of_mem hm
  exact hoc k _ hk (by rw[List.getElem?_append_left hk];exact List.getElem?_eq_getElem hk)
 | some m=>
  exfalso
  rw[hl] at hnx
  obtain⟨j,hj,hjm,_⟩:=lastOwn_at hl
  have:=(h.ok j m hjm).st0
  unfold nextP at hnx
  dsimp only at hnx
  rw[hb] at hnx
  cases hmb:m.v.2.2.2.1 with
  | true=>rw[hmb] at hnx;exact hnx.2
  | false=>rw[hmb] at hnx;have:=hnx.2.1;omega
theorem rsgBack(w:World){x:tyCat.den}{cx:Array Value}(h0:rep (fun _=>True) w tyCat x cx.toList){l:List tyNd.den}{c1:Value}(h1:rep (fun _=>True) w (.sl tyNd) l [c1]){y:tyNd.den}{cs:Array Value}(h2:rep (fun _=>True) w tyNd y cs.toList)(hreach:∀s:Sl,c1=slV s->s.n*80<=140737488351232):
  Cw 8 #[.agg cx,c1,.agg cs] w fun v w'=>v=.bool true/\Ext w w':=by
 obtain⟨v,e0,hC⟩:=rep_cat h0
 obtain⟨t,hs,e1,hH⟩:=rep_hist h1
 obtain⟨n,e3,hN⟩:=rep_nd h2
 simp only[List.cons.injEq,and_true] at e1
 subst e1
 rw[arr_eq e0,arr_eq e3]
 have hr:=hreach t rfl
 refine F8_ok v t n.v w _ fun b1 w2 a2 b3 w4 a4=>(c28 w4).use ?_
 rintro _ w6 ⟨rfl,e6⟩
 have e2:Ext w w2:=a2.ch _
 have e4:Ext w2 w4:=a4.ch _
 have ed:=extDrew w6
 have x6:Ext w4 w6.drew:=e6.trans ed
 have E6:Ext w w6.drew:=(e2.trans e4).trans x6
 have hcx:∀ {W:World},Ext w4 W->CellsN W b1 0 17 (cxC v):=fun e=>cxN hC a2.new (e4.trans e)
 have hnd:∀ {W:World},Ext w4 W->CellsAt W b3 0 (nC n.v):=fun e=>cellsAt_of (Ext.at e a4.new) fun i v hv=>by simpa using hv
 refine⟨true,rfl,IfB.no rfl ?_⟩
 unfold F8k4
 refine⟨n.v,hnd x6,orders (hH.ext E6) (hN.ext E6) hr (Ext.at x6 a4.new) fun s W hS eW=>?_⟩
 have xW:Ext w4 W:=x6.trans eW
 have EW:Ext w W:=E6.trans eW
 refine⟨v,hcx xW,(c29 (hC.ext EW) hS).use ?_⟩
 rintro _ w23 ⟨g,rfl,hg,e23⟩
 have x23:=xW.trans e23
 have E23:=EW.trans e23
 refine⟨g,rfl,IfB.intro (fun _=>⟨rfl,E23⟩) fun hg1=>?_⟩
 obtain⟨hSt,hl⟩:=hg hg1
 rw[List.length_append,List.length_singleton] at hl
 have hHt:Hst w23 t hs:=⟨(hH.ext E23).rd,fun m hm=>hSt.ok m (List.mem_append.2 (.inl hm)),by omega,hH.cap⟩
 have hNk:NdOk w23 n:=hSt.ok n (by simp)
 refine⟨v,hcx x23,(c31 (hC.ext E23) hSt).use ?_⟩
 rintro _ w29 ⟨m,rfl,hm,e29⟩
 have x29:=x23.trans e29
 have E29:=E23.trans e29
 refine⟨m,rfl,IfB.intro (fun _=>⟨rfl,E29⟩) fun hm1=>?_⟩
 have hM:=hm.1 (by simpa using hm1)
 refine⟨v,hcx x29,(c33 (hC.ext E29) (hHt.ext e29)).use ?_⟩
 rintro _ w35 ⟨q,rfl,hq,e35⟩
 have x35:=x29.trans e35
 have E35:=E29.trans e35
 refine⟨q,rfl,IfB.intro (fun _=>⟨rfl,E35⟩) fun hq1=>?_⟩
 obtain⟨_,r,hF⟩:=hq.1 (by simpa using hq1)
 have htn:=hHt.n
 have hH35:=(hHt.ext e29).ext e35
 have hN35:=(hNk.ext e29).ext e35
 refine⟨fun m z V=>∃(i:Nat)(al:Bool),i<=hs.length/\m+i=hs.length/\z=(al,(i:Int))/\Ext w35 V,⟨hs.length,0,true,Nat.zero_le _,rfl,rfl,Ch.refl _ _⟩,?_⟩
 rintro m' _ V g' ⟨i,al,hi,hmi,rfl,eV⟩
 have xV:=x35.trans eV
 have EV:=E35.trans eV
 refine IfB.dec (fun hlt=>?_) fun hge=>?_
 ·unfold F8k2
  dsimp only at hlt
  have hi':i<hs.length:=by omega
  have hw:IntKind.i64.wrap ((i:Int)+1)=((i+1:Nat):Int):=by rw[wrap_of (by omega) (by omega)];rfl
  have gi:hs[i]? =some hs[i]:=List.getElem?_eq_getElem hi'
  generalize hs[i]=ni at gi
  have edV:=extDrew V
  refine IfB.intro (fun hal=>?_) fun hal=>⟨rfl,m'-1,by omega,i+1,false,hi',by omega,by dsimp only;rw[hw],eV.trans edV⟩
  obtain⟨pa,oa,hpa,hca⟩:=(hH35.ext (eV.trans edV)).at gi
  refine⟨pa,oa,hpa,⟨by dsimp only;omega,by dsimp only;omega⟩,ni.v,by dsimp only;rw[Int.toNat_natCast];exact hca,n.v,hnd (xV.trans edV),(c36 ((hH35.ext (eV.trans edV)).get gi) (hN35.ext (eV.trans edV))).use ?_⟩
  rintro _ w181 ⟨b,rfl,_,e181⟩
  exact⟨b,rfl,rfl,m'-1,by omega,i+1, !b,hi',by omega,by dsimp only;rw[hw],(eV.trans edV).trans e181⟩
 ·have next:(n.v.2.2.2.1=true\/∀m∈hs,m.v.1≠n.v.1)->F8k3 V b1 b3 t (fun v w'=>v=.bool true/\Ext w w'):=fun hn=>by
   obtain⟨r',hF'⟩:=hF.snoc hn
   unfold F8k3
   refine⟨v,hcx xV,n.v,hnd xV,(c35 (hC.ext EV) (hH35.ext eV) (hN35.ext eV) (by omega)).use ?_⟩
   rintro _ w206 ⟨b,rfl,hb,e206⟩
   exact⟨b,rfl,by rw[hb.2 ⟨hM,r',hF'⟩],EV.trans e206⟩
  unfold F8k1
  have c:=hnd xV
  refine⟨_,c 3 _ rfl,IfB.intro (fun hb=>?_) fun hb=>next (.inl (by simpa using hb))⟩
  have hb:n.v.2.2.2.1=false:=by simpa using hb
  refine IfB.intro (fun hal=>⟨_,c 2 _ rfl,IfB.intro (fun _=>⟨rfl,EV⟩) fun hs0=>next (.inr (hM.fresh hb (by simpa using hs0)))⟩) fun hal=>IfB.yes rfl ⟨rfl,EV⟩
end Go.Proofs.YtlpgdngcgbeegaaGreat.Gx
namespace Go.Proofs.YtlpgdngcgbeegaaGreat.rsgBack
open Go.ChangeShapes Go.WideShapes Go.ChangeAt Go.RowKit
open Go.ChangeMaps (open_string shut_string)
set_option linter.unusedVariables false
theorem own:ownKnob Tryz.prog.godebug=none:=by kernel_rfl
set_option maxRecDepth 100000 in
theorem lifted(os:Os)(started:os.Started)(H:Type)(enc:TypeId×Value->H):
  ReturnsInHanded {} Tryz.checked os 8 .any (Rows.rsgBackSpec.pre6 enc Tryz.prog Tryz.f8 Rows.rsgBackRow.domain false) (Rows.rsgBackSpec.post enc Tryz.prog Tryz.f8 false true false false):=by
 refine returnsInHanded_of_change_sized (C:=Tryz.checked) own started (by kernel_rfl) Tryz.func8
  (ChangeSpec.witness6 (enc:=enc) (C:=Tryz.checked) false ⟨#[],#[.agg #[.slice none 0 0,.int .i64 0,.int .i64 0,.int .i64 0,.int .i64 0,.int .i64 0,.int .i64 0,.int .i64 0,.int .i64 0,.int .i64 0,.int .i64 0,.int .i64 0,.int .i64 0,.int .i64 0,.int .i64 0,.int .i64 0,.int .i64 0],.slice none 0 0,.agg #[.int .i64 0,.int .i64 0,.int .i64 0,.bool false,.slice none 0 0,.slice none 0 0]],[]⟩ 8 (by kernel_rfl) (by kernel_rfl) (by kernel_rfl) (by kernel_rfl)) ?_
 intro W base args ds gs before hval0 hW hcnd hsz _
 have hval:∀(j:Nat) t v,Tryz.f8.params[j]? =some t->args[j]? =some v->Value.okWide Tryz.prog W .any base t v:=hval0
 have hW':=hW
 have hlt:=hW.lt
 obtain⟨p,q,hA0,hV,rfl,hfz,hnd⟩:=hW
 have hA:DataW.TrodAll enc Tryz.prog W 0 (fun _=>true) true Tryz.f8.params.toList args.toList ds p:=hA0
 have hpar:Tryz.f8.params=#[26,39,53]:=rfl
 rw[hpar] at hA hval
 obtain⟨v0,vs0,d0,ds0,p0,q0,hargs,rfl,rfl,h0,r0⟩:=trodAll_cons hA
 obtain⟨v1,vs1,d1,ds1,p1,q1,rfl,rfl,rfl,h1,r1⟩:=trodAll_cons r0
 obtain⟨v2,vs2,d2,ds2,p2,q2,rfl,rfl,rfl,h2,r2⟩:=trodAll_cons r1
 obtain⟨rfl,rfl,rfl⟩:=trodAll_nil r2
 obtain rfl:args=#[v0,v1,v2]:=by cases args;simp_all
 obtain⟨rfl,rfl⟩:=trodVars_none hV
 clear hA0 hval0
 obtain⟨x0,e0⟩:=Gx.open_arg (d:=12) (ty:=(.pair (.sl (.pair .str (.pair (.int .i64) (.pair (.sl (.pair (.sl (.pair (.int .i64) (.pair (.int .i64) (.pair (.int .i64) (.pair (.int .i64) (.pair (.pair (.int .i64) (.int .i64)) (.pair (.pair (.int .i64) (.int .i64)) (.int .i64)))))))) (.sl (.pair (.pair (.int .i64) (.int .i64)) (.pair (.pair (.int .i64) (.int .i64)) .bool))))) (.pair (.sl (.pair (.sl (.pair (.int .i64) (.pair (.int .i64) (.pair (.int .i64) (.pair (.int .i64) (.pair (.pair (.int .i64) (.int .i64)) (.pair (.pair (.int .i64) (.int .i64)) (.int .i64)))))))) (.sl (.pair (.pair (.int .i64) (.int .i64)) (.pair (.pair (.int .i64) (.int .i64)) .bool))))) .bool))))) (.arr 4 (.arr 4 (.int .i64))))) (by kernel_rfl) h0
 have f0:v0=.agg v0.cells:=Gx.val_agg (hval 0 26 v0 rfl rfl) (.inl ⟨_,Tryz.underlying26⟩)
 obtain⟨x1,e1⟩:=Gx.open_arg (d:=12) (ty:=(.sl (.pair (.int .i64) (.pair (.int .i64) (.pair (.int .i64) (.pair .bool (.pair (.sl (.pair (.int .i64) (.int .i64))) (.sl (.pair (.int .i64) (.int .i64)))))))))) (by kernel_rfl) h1
 obtain⟨c1,g1⟩:∃c,v1.cells.toList=[c]:=List.length_eq_one_iff.1 (Gx.rep_len e1)
 have f1:v1=c1:=Gx.val_of_cells (hval 1 39 v1 rfl rfl) (fun fs n e=>by rw[Tryz.underlying39];exact⟨by simp,by simp⟩) g1
 rw[g1] at e1
 obtain⟨x2,e2⟩:=Gx.open_arg (d:=12) (ty:=(.pair (.int .i64) (.pair (.int .i64) (.pair (.int .i64) (.pair .bool (.pair (.sl (.pair (.int .i64) (.int .i64))) (.sl (.pair (.int .i64) (.int .i64))))))))) (by kernel_rfl) h2
 have f2:v2=.agg v2.cells:=Gx.val_agg (hval 2 53 v2 rfl rfl) (.inl ⟨_,Tryz.underlying53⟩)
 have r_1:∀s:Gx.Sl,c1=Gx.slV s->s.n*Tryz.prog.bytesOf 53<=140737488351232:=fun s hs=>Gx.arg_reach (B:=140737488351232) Tryz.underlying39 h1 (by rw[g1,hs]) fun elems spare hd=>sized_slice hsz (j:=1) (t:=39) (e:=53) rfl (by rw[hd];rfl) Tryz.underlying39
 have by_1:Tryz.prog.bytesOf 53=80:=by kernel_rfl
 rw[by_1] at r_1
 have call:Calls Tryz.prog 8 #[v0,v1,v2] W fun e w'=>e=.returned (.bool true)/\Below W.heap.size W w':=by
  rw[f0,f1,f2]
  refine(Gx.rsgBack W e0 e1 e2 r_1).calls.mono ?_
  rintro e w' ⟨v,rfl,rfl,hx⟩
  exact⟨rfl,hx.below⟩
 refine call.mono fun e W' ⟨he,hg⟩=>?_
 subst he
 have b2:∀sp:Nat->Bool,(∀x∈p2,sp x.block=true)->DataW.Trod enc Tryz.prog W' 0 sp true 53 v2 d2 p2:=fun sp hsp=>Gx.trod_keep (by kernel_rfl) (by kernel_rfl) (by decide+kernel) h2 hg (fun x hx=>hlt x (by simp[hx])) hsp
 have b1:∀sp:Nat->Bool,(∀x∈p1,sp x.block=true)->DataW.Trod enc Tryz.prog W' 0 sp true 39 v1 d1 p1:=fun sp hsp=>Gx.trod_keep (by kernel_rfl) (by kernel_rfl) (by decide+kernel) h1 hg (fun x hx=>hlt x (by simp[hx])) hsp
 have b0:∀sp:Nat->Bool,(∀x∈p0,sp x.block=true)->DataW.Trod enc Tryz.prog W' 0 sp true 26 v0 d0 p0:=fun sp hsp=>Gx.trod_keep (by kernel_rfl) (by kernel_rfl) (by decide+kernel) h0 hg (fun x hx=>hlt x (by simp[hx])) hsp
 exact⟨_,rfl,Gx.post_of_below (pa:=(p0++(p1++(p2++[])))) (pv:=[]) hW' hg (fun _ _ _=>(trodAll_cons_mk (shut_bool Tryz.underlying4 _) trodAll_mk0)) (fun sp hsp=>by rw[hpar];exact(trodAll_cons_mk (b0 sp fun x hx=>hsp x (by simp[hx])) (trodAll_cons_mk (b1 sp fun x hx=>hsp x (by simp[hx])) (trodAll_cons_mk (b2 sp fun x hx=>hsp x (by simp[hx])) trodAll_mk0)))) (fun _ _=>rfl) (by simp)
  (ok_one (by kernel_rfl) rfl (okWide_bool_mk Tryz.underlying4 _))⟩
set_option maxRecDepth 100000
theorem ft1:(laidOutB Tryz.checked.prog&&mapsRowed Tryz.checked.prog)=true:=by kernel_rfl
theorem ft2:(Rows.rsgBackRow.inPlace == Tryz.checked.prog.inPlace 8)=true:=by kernel_rfl
theorem ft3:(Rows.rsgBackRow.unfollowed == Tryz.checked.prog.unfollowed 8)=true:=by kernel_rfl
theorem ft4:(Rows.rsgBackRow.named == Tryz.checked.prog.varsNamed 8)=true:=by kernel_rfl
theorem ft6:((Tryz.checked.prog.stops == [])&&(Tryz.checked.prog.stopKnobs == []))=true:=by kernel_rfl
theorem ft7:(Rows.rsgBackRow.plainKeys == Tryz.checked.prog.plainKeys)=true:=by kernel_rfl
theorem ft8:Tryz.checked.prog.stopsHeard=true:=by kernel_rfl
theorem ft9:(Tryz.checked.prog.mayEnter&&((Rows.rsgBackRow.lifted == Tryz.checked.prog.liftsFinal)&&(Tryz.checked.prog.make == some Rows.rsgBackRow.make)))=true:=by kernel_rfl
theorem ft5:(Rows.rsgBackRow.recurses == Tryz.checked.prog.recurses 8)=true:=by
 have h:Tryz.checked.prog.unfollowed 8=true:=by have:=ft3;rw[beq_iff_eq] at this;exact this.symm
 unfold Program.recurses;rw[h];rfl
theorem facts:joinedFacts Tryz.checked.prog 8 Tryz.f8 Rows.rsgBackSpec Rows.rsgBackRow=true:=by
 obtain⟨h1,h2⟩:=Bool.and_eq_true_iff.1 ft1
 obtain⟨h3,h4⟩:=Bool.and_eq_true_iff.1 ft6
 obtain⟨h5,h6⟩:=Bool.and_eq_true_iff.1 ft9
 obtain⟨h7,h8⟩:=Bool.and_eq_true_iff.1 h6
 unfold joinedFacts
 rw[h1,h2,ft2,ft3,ft4,ft5,h3,h4,ft7,ft8,h5,h7,h8]
 kernel_rfl
theorem over:Rows.rsgBackRow.holds Tryz.pinned (OpenSpec.ofChange Rows.rsgBackSpec):=
 OpenClaim.holds_of_wide 8 Tryz.f8 rfl rfl rfl rfl rfl rfl rfl ⟨rfl,rfl,rfl,rfl,rfl⟩ rfl rfl rfl rfl rfl (by kernel_rfl) Tryz.func8 facts
  (of_decide_eq_true (by kernel_rfl)) (by unfold Func.isWrapper;first|(rw[if_pos (by decide+kernel)];kernel_rfl)|(rw[if_neg (by decide+kernel)];exact⟨rfl,rfl⟩))
  (fun os started H enc _=>lifted os started H enc)
theorem proved:Rows.RsgBackSaid:=
 over
#print axioms proved
end Go.Proofs.YtlpgdngcgbeegaaGreat.rsgBack
