/- Merged by pack.py: PagesB, PagesC, PagesD, StpP, GxNQ, GxLK, IntK, GxN, DepA, GxNR, DepD, ClsA, GxOG, RefA, CatB, RefB, KeyE, GxPF, GxP, GxPG, GxPI, StpA, StpB, StpC, DepB, StpD, StpE, PagesE, PagesF, PagesL. -/
import Derived.Test.YtoahfpabpdjkkaaGreatSw1
import Derived.Test.YtoahfpabpdjkkaaGreatSw2
import Derived.Test.YtoahfpabpdjkkaaGreatSw3
import Derived.Test.YtoahfpabpdjkkaaGreatSw4
import Derived.RecoverIn
namespace Go.Proofs.YtoahfpabpdjkkaaGreat.Gx
open Go
set_option linter.unusedSimpArgs false
set_option linter.unusedVariables false
theorem c35(p:Option Addr)(k:Int)(w:World):Cw 35 #[.pointer p,.int .i64 k] w fun v w'=>v=.bool (decide (p≠none/\0<=k/\k<=999))/\w=w':=by
 refine F35_ok _ _ _ _ ?_
 cases p with
 | none=>exact⟨by simp,rfl⟩
 | some a=>
  refine IfB.yes rfl (IfB.dec (fun h=>⟨?_,rfl⟩) (fun h=>⟨?_,rfl⟩))
  ·congr 1;simp[h]
  ·congr 1;simp[h]
theorem c66{w:World}{t:Sl}{p:List Pr}{b:Nat}{k:Int}(ho:OwS w t 2 (prs p))(hne:p≠[])(hk:w.cell? ⟨b,0,none⟩=some (.int .i64 k)):
  Cw 66 #[slV t,.pointer (some ⟨b,0,none⟩)] w fun v w'=>v=.bool (decide (k<hd0 p))/\Ext w w':=by
 cases p with
 | nil=>exact absurd rfl hne
 | cons x p=>
  obtain⟨a,ha,hc⟩:=pageE ho (i:=0) (x:=x) rfl
  have hn:t.n=p.length+1:=by have:=ho.len;rw[prs_len,List.length_cons] at this;omega
  refine F66_ok _ _ _ _ ⟨a,0,ha,⟨by decide,by rw[show t.2=t.n from rfl,hn];omega⟩,x.1,?_,k,hk,rfl,extDrew w⟩
  exact hc.fst
theorem c69(x:Pr)(k:Int)(w:World):Cw 69 #[.agg #[.int .i64 x.1,.int .i64 x.2],.int .i64 k] w fun v w'=>v=.int .i64 (IntKind.i64.wrap (x.1-k))/\Ext w w':=by
 refine F69_ok x k w _ ?_
 intro b1 w2 h2
 exact⟨x.1,by rw[cell_of h2.new];rfl,rfl,h2.ch _⟩
def findV(P:List (List Pr))(k:Int):Value:=match P with
 | []=>.tuple #[.int .i64 0,.int .i64 0,.bool false]
 | _=>.tuple #[.int .i64 (atP P k),.int .i64 (posP (P.getD (atP P k) []) k),.bool (hasP P k)]
theorem posP_lo{p:List Pr}{k:Int}{j:Nat}{x:Pr}(hj:j<posP p k)(hx:p[j]? =some x):x.1<k:=by
 have:x∈p.take (posP p k):=List.mem_of_getElem? (i:=j) (by rw[List.getElem?_take,if_pos hj];exact hx)
 rw[take_posP] at this
 exact tw_lt this
theorem posP_hi{p:List Pr}{k:Int}(hs:Srt p){j:Nat}{x:Pr}(hj:posP p k<=j)(hx:p[j]? =some x):k<=x.1:=by
 have:x∈p.drop (posP p k):=List.mem_of_getElem? (i:=j-posP p k) (by rw[List.getElem?_drop,show posP p k+(j-posP p k)=j by omega];exact hx)
 rw[drop_posP] at this
 exact srt_drop_lt hs x this
theorem c36{w:World}{b:Nat}{s:Sl}{ps:List Pg}(h:St w b s ps){P:List (List Pr)}(hP:ps.map (·.2)=P)(hI:Inv P){k:Int}(hk:0<=k/\k<=999):
  Cw 36 #[.pointer (some ⟨b,0,none⟩),.int .i64 k] w fun v w'=>v=findV P k/\Ext w w':=by
 refine F36_ok _ _ _ _ ?_
 intro b1 w2 h2
 have e2:Ext w w2:=h2.ch _
 have H2:=h.ext e2
 have hpl:=hI.plen
 have hlen:ps.length=P.length:=by rw[<-hP,List.length_map]
 have hn:s.n=P.length:=by rw[h.n,hlen]
 refine⟨b,0,rfl,s,H2.cell,.inl (F67_ok s (66,#[.pointer (some ⟨b1,0,none⟩)]) w2 _ ?_)⟩
 rw[F67_eq]
 refine IndexF_of ps (·.1) (fun x=>decide (k<hd0 x.2)) h.n (by omega) ?_ ?_ ?_
 ·intro i x w5 hx hw
  obtain⟨a,ha,hc,_⟩:=(H2.ext hw).page hx
  exact⟨a,0,ha,by show w5.cell? ⟨a,0+i,none⟩=_;rw[Nat.zero_add];exact hc⟩
 ·intro i x w5 hx hw R' hR
  obtain⟨a,ha,hc,ho,hl⟩:=(H2.ext hw).page hx
  have hne:x.2≠[]:=hI.ne _ (by rw[<-hP];exact List.mem_map_of_mem (List.mem_of_getElem? hx))
  exact(c66 ho hne (by rw[cell_of (hw.at h2.new)];rfl)).use fun v w' ⟨hv,he⟩=>hv ▸ hR w' he
 ·intro w7 e7
  have H7:=H2.ext e7
  have hk7:w7.cell? ⟨b1,0,none⟩=some (.int .i64 k):=by rw[cell_of (e7.at h2.new)];rfl
  have hidx:ps.findIdx? (fun x=>decide (k<hd0 x.2))=P.findIdx? (fun p=>decide (k<hd0 p)):=by
   rw[<-hP,List.findIdx?_map];rfl
  rw[hidx]
  refine⟨_,rfl,?_⟩
  have hat:atP P k=(match P.findIdx? (fun p=>decide (k<hd0 p)) with|some i=>i|none=>P.length)-1:=rfl
  have e1:s.1=s.p:=rfl
  have en:s.2=P.length:=hn
  by_cases hne:P=[]
  ·subst hne
   refine IfB.yes (by simp[idxV]) ⟨b,0,rfl,s,H7.cell,b,0,rfl,s,H7.cell,IfB.yes ?_ ⟨rfl,e2.trans e7⟩⟩
   rw[en];decide
  have hA:=atP_is hI hne k
  have hlt:=hA.lt
  have hx:ps[atP P k]? =some (ps[atP P k]'(by omega)):=List.getElem?_eq_getElem (by omega)
  generalize ps[atP P k]'(by omega)=x at hx
  have hx2:x.2=P.getD (atP P k) []:=by
   have:=congrArg (fun l=>l[atP P k]?) hP
   simp only[List.getElem?_map,hx] at this
   rw[List.getD_eq_getElem?_getD,<-this];rfl
  have H8:=H7.ext (extDrew w7)
  obtain⟨a,ha,hc,ho,hxn⟩:=H8.page hx
  have hpos:=posP_le x.2 k
  have hfew:=hI.few _ hA.mem
  rw[<-hx2] at hfew
  have hsr:=hA.srt
  rw[<-hx2] at hsr
  have hrng:∀y∈x.2,0<=y.1/\y.1<=999:=fun y hy=>hI.rng y (List.mem_flatten.2 ⟨_,hA.mem,hx2 ▸ hy⟩)
  have hfv:findV P k=.tuple #[.int .i64 (atP P k),.int .i64 (posP x.2 k),.bool (isP x.2 k)]:=by
   rw[hx2];cases P with
   | nil=>exact absurd rfl hne
   | cons p P=>rfl
  have tail:∀R:RV,(∀v w',v=findV P k/\Ext w w'->R v w')->∃b15 b16,some (Addr.mk b 0 none)=some ({ block:=b15,off:=b16 }:Addr)/\∃s17:Sl,w7.drew.cell? ({ block:=b15,off:=b16+0 }:Addr)=some (Value.slice s17.1 s17.2 s17.3)/\
    ∃b18 b19,s17.1=some ({ block:=b18,off:=b19 }:Addr)/\((0:Int)<=(atP P k:Int)/\(atP P k:Int)<(s17.2:Int))/\∃s20:Sl,w7.drew.cell? ({ block:=b18,off:=b19+(atP P k:Int).toNat }:Addr)=some (Value.slice s20.1 s20.2 s20.3)/\
    ∃n21:Int,w7.drew.cell? ({ block:=b1,off:=0 }:Addr)=some (Value.int IntKind.i64 n21)/\
    Cx 68 #[Value.slice s20.1 s20.2 s20.3,Value.int IntKind.i64 n21,Value.func (Fn.func 69) #[] #[]] w7.drew fun(v22:Value) (w23:World)=>
    ∃(x24:Int×Bool),v22=Value.tuple #[Value.int IntKind.i64 x24.1,Value.bool x24.2]/\R (Value.tuple #[Value.int IntKind.i64 (atP P k),Value.int IntKind.i64 x24.1,Value.bool x24.2]) w23:=by
   intro R hR
   refine⟨b,0,rfl,s,H8.cell,a,0,ha,⟨by omega,by rw[en];omega⟩,x.1,by rw[Int.toNat_natCast,Nat.zero_add];exact hc,k,hk7,.inl (F68_ok x.1 k (69,#[]) w7.drew _ ?_)⟩
   rw[F68_eq]
   refine BinF_of x.2 (fun y=>y.1-k) hxn (by omega) ?_ ?_ (posP x.2 k) hpos ?_ ?_ ?_
   ·intro j y w5 hy hw
    obtain⟨bb,hbb,hcc⟩:=pageE (ho.ext hw) hy
    exact⟨bb,0,hbb,by show CellsAt _ _ (0+j*2) _;rw[Nat.zero_add];exact hcc⟩
   ·intro j y w5 hy hw R' hR'
    refine(c69 y k w5).use fun v w' ⟨hv,he⟩=>?_
    have:=hrng y (List.mem_of_getElem? hy)
    rw[wrap_of (by omega) (by omega)] at hv
    exact hv ▸ hR' w' he
   ·intro j y hj hy
    have:=posP_lo hj hy;omega
   ·intro j y hj hy
    have:=posP_hi hsr hj hy;omega
   ·intro w9 e9
    refine⟨(_,_),rfl,hR _ _ ⟨?_,(e2.trans e7).trans ((extDrew w7).trans e9)⟩⟩
    rw[hfv]
    unfold isP
    cases x.2[posP x.2 k]? with
    | none=>rfl
    | some y=>
     have:(y.1-k == 0)=(y.1 == k):=Bool.eq_iff_iff.2 (by simp only[beq_iff_eq];omega)
     dsimp only
     rw[this]
  cases hf:P.findIdx? (fun p=>decide (k<hd0 p)) with
  | none=>
   rw[hf] at hat
   refine IfB.yes (by simp[idxV]) ⟨b,0,rfl,s,H7.cell,b,0,rfl,s,H7.cell,?_⟩
   (try dsimp only)
   rw[en,maxOne (by omega),show P.length-1=atP P k from hat.symm]
   exact IfB.no (by simp;omega) (tail _ fun _ _ h=>h)
  | some i=>
   rw[hf] at hat
   have hil:i<P.length:=by
    rw[List.findIdx?_eq_some_iff_getElem] at hf
    exact hf.1
   refine IfB.no (decide_eq_false (by show ¬(i:Int)<0;omega)) ⟨b,0,rfl,s,H7.cell,?_⟩
   (try dsimp only)
   rw[show idxV (some i)=(i:Int) from rfl,maxOne (by omega),show i-1=atP P k from hat.symm,en]
   exact IfB.no (by simp;omega) (tail _ fun _ _ h=>h)
theorem F38_eq(t0:Sl)(w:World)(R:RV):F38 t0 w R=CloneF tt40 40 2 t0 w R:=by kernel_rfl
theorem F78_eq(t0:Sl)(t1 t2:Int)(w:World)(R:RV):F78 t0 t1 t2 w R=DelF tt40 40 2 t0 t1 t2 w R:=by kernel_rfl
theorem F79_eq(t0:Sl)(t1 t2:Int)(w:World)(R:RV):F79 t0 t1 t2 w R=DelF tt94 94 1 t0 t1 t2 w R:=by kernel_rfl
theorem F37_eq(t0:Sl)(t1:Int)(t2:Sl)(w:World)(R:RV):F37 t0 t1 t2 w R=InsF Tryz.prog tt40 40 2 70 71 t0 t1 t2 w R:=by kernel_rfl
theorem F39_eq(t0:Sl)(t1:Int)(t2:Sl)(w:World)(R:RV):F39 t0 t1 t2 w R=InsF Tryz.prog tt94 94 1 72 73 t0 t1 t2 w R:=by kernel_rfl
theorem prV_own{w:World}{bn:Nat}{x:Pr}{T:TypeId}(h:w.heap[bn]? =some (.cells #[.int .i64 x.1,.int .i64 x.2] T (0,0))):OwS w ⟨some ⟨bn,0,none⟩,1,1⟩ 2 (prV x):=
 .inr ⟨bn,_,T,rfl,h,rfl,Nat.le_refl _,rfl⟩
theorem c37{w:World}{t:Sl}{p:List Pr}{i bn:Nat}{x:Pr}{T:TypeId}(h:OwS w t 2 (prs p))(hl:p.length<=1000)(hi:i<=p.length)(hbn:w.heap[bn]? =some (.cells #[.int .i64 x.1,.int .i64 x.2] T (0,0)))(hd:bn∉blk t):
  Cw 37 #[slV t,.int .i64 i,.slice (some ⟨bn,0,none⟩) 1 1] w fun v w'=>∃t',v=slV t'/\OwS w' t' 2 (prs (p.take i++x::p.drop i))/\Ch (fun j=>j∈blk t) w w'/\(∀j∈blk t',j∈blk t\/w.heap.size<=j)/\t'.n=p.length+1:=by
 have hn:t.n=p.length:=by have:=h.len;rw[prs_len] at this;omega
 refine F37_ok t i ⟨some ⟨bn,0,none⟩,1,1⟩ w _ ?_
 rw[F37_eq]
 refine InsF_of (i:=i) (new:=prV x) h (prV_own hbn).rd rfl rfl (prs_one _) (by intro y hy;simp[prV] at hy;rcases hy with rfl|rfl<;>rfl) (by intro y hy;simp[Value.cells] at hy;subst hy;rfl) (by omega) (by show 0<1;omega) ⟨by dsimp only;omega,by dsimp only;omega⟩ (by decide) (by dsimp only;omega) ?_ ?_ ?_
 ·intro b hb;simp[blk] at hb;subst hb;exact hd
 ·exact ovW tbOk Tryz.func70 (by kernel_rfl) (by kernel_rfl) (by kernel_rfl) (by kernel_rfl) rfl rfl rfl rfl rfl rfl hbn h (by decide) hd
 ·intro s' w' ho hn' hc hb
  refine⟨s',rfl,?_,hc,hb,by rw[hn',hn]⟩
  rw[prs_append,prs_cons,<-List.append_assoc,<-prs_take,<-prs_drop];exact ho
theorem c39{w:World}{t u:Sl}{hs:List Sl}{i bn:Nat}{T:TypeId}(h:OwS w t 1 (hs.map slV))(hl:hs.length<=2000)(hi:i<=hs.length)(hbn:w.heap[bn]? =some (.cells #[slV u] T (0,0)))(hd:bn∉blk t):
  Cw 39 #[slV t,.int .i64 i,.slice (some ⟨bn,0,none⟩) 1 1] w fun v w'=>∃t',v=slV t'/\OwS w' t' 1 ((hs.take i++u::hs.drop i).map slV)/\Ch (fun j=>j∈blk t) w w'/\(∀j∈blk t',j∈blk t\/w.heap.size<=j):=by
 have hn:t.n=hs.length:=by have:=h.len;rw[List.length_map] at this;omega
 refine F39_ok t i ⟨some ⟨bn,0,none⟩,1,1⟩ w _ ?_
 have hu:OwS w ⟨some ⟨bn,0,none⟩,1,1⟩ 1 [slV u]:=.inr ⟨bn,_,T,rfl,hbn,rfl,Nat.le_refl _,rfl⟩
 rw[F39_eq]
 refine InsF_of (i:=i) (new:=[slV u]) h hu.rd rfl rfl (slVs_one _) (by intro y hy;simp at hy;subst hy;rfl) (by intro y hy;simp[Value.cells] at hy;subst hy;rfl) (by omega) (by show 0<1;omega) ⟨by dsimp only;omega,by dsimp only;omega⟩ (by decide) (by dsimp only;omega) ?_ ?_ ?_
 ·intro b hb;simp[blk] at hb;subst hb;exact hd
 ·exact ovW tbOk Tryz.func72 (by kernel_rfl) (by kernel_rfl) (by kernel_rfl) (by kernel_rfl) rfl rfl rfl rfl rfl rfl hbn h (by decide) hd
 ·intro s' w' ho hn' hc hb
  refine⟨s',rfl,?_,hc,hb⟩
  rw[List.map_append,List.map_cons,List.map_take,List.map_drop]
  simpa using ho
theorem c78{w:World}{t:Sl}{p:List Pr}{i:Nat}(h:OwS w t 2 (prs p))(hl:p.length<=1000)(hi:i<p.length):
  Cw 78 #[slV t,.int .i64 i,.int .i64 ((i+1:Nat):Int)] w fun v w'=>∃t',v=slV t'/\OwS w' t' 2 (prs (p.take i++p.drop (i+1)))/\Ch (fun j=>j∈blk t) w w'/\blk t'=blk t/\t'.n=p.length-1:=by
 have hn:t.n=p.length:=by have:=h.len;rw[prs_len] at this;omega
 refine F78_ok t i ((i+1:Nat):Int) w _ ?_
 rw[F78_eq]
 refine DelF_of h rfl rfl (prs_one _) (by intro y hy;simp[Value.cells] at hy;subst hy;rfl) (by omega) (by omega) ⟨by omega,by dsimp only;omega⟩ ?_
 intro s' w' ho hn' hc hp
 refine⟨s',rfl,?_,hc,by simp[blk,hp],by omega⟩
 rw[prs_append,<-prs_take,<-prs_drop];exact ho
theorem c79{w:World}{t:Sl}{hs:List Sl}{i:Nat}(h:OwS w t 1 (hs.map slV))(hl:hs.length<=2000)(hi:i<hs.length):
  Cw 79 #[slV t,.int .i64 i,.int .i64 ((i+1:Nat):Int)] w fun v w'=>∃t',v=slV t'/\OwS w' t' 1 ((hs.take i++hs.drop (i+1)).map slV)/\Ch (fun j=>j∈blk t) w w'/\blk t'=blk t:=by
 have hn:t.n=hs.length:=by have:=h.len;rw[List.length_map] at this;omega
 refine F79_ok t i ((i+1:Nat):Int) w _ ?_
 rw[F79_eq]
 refine DelF_of h rfl rfl (slVs_one _) (by intro y hy;simp[Value.cells] at hy;subst hy;rfl) (by omega) (by omega) ⟨by omega,by dsimp only;omega⟩ ?_
 intro s' w' ho hn' hc hp
 refine⟨s',rfl,?_,hc,by simp[blk,hp]⟩
 rw[List.map_append,List.map_take,List.map_drop]
 simpa using ho
theorem c38{w:World}{t:Sl}{p:List Pr}(h:Rd w t 2 (prs p))(hl:p.length<=1000):
  Cw 38 #[slV t] w fun v w'=>∃t',v=slV t'/\OwS w' t' 2 (prs p)/\Ext w w'/\(∀j∈blk t',w.heap.size<=j)/\t'.n=p.length:=by
 have hn:t.n=p.length:=by have:=h.1;rw[prs_len] at this;omega
 refine F38_ok t w _ ?_
 rw[F38_eq]
 refine CloneF_of h rfl rfl (prs_one _) ⟨by omega,by dsimp only;omega⟩ ?_ ?_
 ·intro s' w' ho hn' he hb
  exact⟨s',rfl,ho,he,hb,by omega⟩
 ·intro hp
  have:=h.2
  rw[hp] at this
  have h0:prs p=[]:=this
  have:=congrArg List.length h0
  rw[prs_len] at this
  simp at this
  omega
theorem stSet{w w':World}{b:Nat}{s s':Sl}{ps':List Pg}{K:World->Prop}(hbox:∃T v,w.heap[b]? =some (.cells #[v] T (0,0)))(hself:b∉blk s)(hpg:∀x∈ps',OwS w x.1 2 (prs x.2))(hnd:ps'.Pairwise Dis)
  (hsep:∀x∈ps',∀i∈blk x.1,i≠b/\i∉blk s)(ho:OwS w' s' 1 (ps'.map hV))(hc:Ch (fun i=>i∈blk s) w w')(hb:∀j∈blk s',j∈blk s\/w.heap.size<=j)
  (hK:∀w'',St w'' b s' ps'->Ch (fun i=>i=b) w' w''->K w''):StoreP w' b 0 [slV s'] K:=by
 obtain⟨T,v,hT⟩:=hbox
 have hT':=hc.at hT hself
 have hbl:=heap_lt hT
 refine St.setBox ⟨T,hT'⟩ ho (fun x hx=>(hpg x hx).ch hc fun i hi=>(hsep x hx i hi).2) hnd (fun x hx i hi=>⟨(hsep x hx i hi).1,fun h=>?_⟩) (fun h=>?_) hK
 ·rcases hb i h with h|h
  ·exact(hsep x hx i hi).2 h
  ·have:=(hpg x hx).lt i hi;omega
 ·rcases hb b h with h|h
  ·exact hself h
  ·omega
theorem prs_setv{p:List Pr}{i:Nat}{k u:Int}(h:p[i]? =some (k,u))(v:Int):(prs p).take (i*2+1)++[.int .i64 v]++(prs p).drop (i*2+1+1)=prs (p.set i (k,v)):=by
 obtain⟨hi,he⟩:=List.getElem?_eq_some_iff.1 h
 rw[List.set_eq_take_append_cons_drop,if_pos hi,prs_append,prs_cons,<-prs_take,<-prs_drop]
 have h1:prs p=(prs p).take (i*2)++(prV (k,u)++(prs p).drop ((i+1)*2)):=by
  conv=>lhs;rw[<-List.take_append_drop (i*2) (prs p)]
  congr 1
  rw[prs_drop,List.drop_eq_getElem_cons hi,he,prs_cons,prs_drop]
 have hl:((prs p).take (i*2)).length=i*2:=by rw[List.length_take,prs_len];omega
 have h2:(prs p).take (i*2+1)=(prs p).take (i*2)++[.int .i64 k]:=by
  conv=>lhs;rw[h1]
  rw[List.take_append,hl,List.take_of_length_le (by rw[hl];omega),Nat.add_sub_cancel_left];rfl
 rw[h2,show i*2+1+1=(i+1)*2 by omega]
 simp[prV]
theorem findV_some{P:List (List Pr)}(h:P≠[])(k:Int):findV P k=.tuple #[.int .i64 (atP P k),.int .i64 (posP (P.getD (atP P k) []) k),.bool (hasP P k)]:=by
 cases P with
 | nil=>exact absurd rfl h
 | cons p P=>rfl
theorem split_at{ps:List Pg}{P:List (List Pr)}(hP:ps.map (·.2)=P){k:Int}(h:AtP P k):∃L x R,ps=L++x::R/\L.length=atP P k/\x.2=P.getD (atP P k) []/\L.map (·.2)=P.take (atP P k)/\R.map (·.2)=P.drop (atP P k+1):=by
 have hlen:ps.length=P.length:=by rw[<-hP,List.length_map]
 have hlt:=h.lt
 have hi:atP P k<ps.length:=by omega
 refine⟨ps.take (atP P k),ps[atP P k],ps.drop (atP P k+1),?_,by rw[List.length_take];omega,?_,by rw[<-hP,List.map_take],by rw[<-hP,List.map_drop]⟩
 ·rw[<-List.drop_eq_getElem_cons hi,List.take_append_drop]
 ·have:=congrArg (fun l=>l[atP P k]?) hP
  simp only[List.getElem?_map,List.getElem?_eq_getElem hi] at this
  rw[List.getD_eq_getElem?_getD,<-this];rfl
theorem StH.pageCell{w:World}{b:Nat}{s:Sl}{L R:List Pg}{c:Value}(h:StH w b s L c R):∃a,s.p=some ⟨a,0,none⟩/\w.cell? ⟨a,L.length,none⟩=some c:=by
 refine h.arr.elem1 (i:=L.length) (v:=c) ?_
 rw[List.getElem?_append_right (by simp),List.length_map,Nat.sub_self];rfl
theorem inSt_hole{b:Nat}{s:Sl}{L R:List Pg}{x:Pg}{i:Nat}(h:inSt b s (L++x::R) i):inSt b s (L++R) i\/i∈blk x.1:=by
 rcases h with h|h|⟨y,hy,hi⟩
 ·exact .inl (.inl h)
 ·exact .inl (.inr (.inl h))
 ·rcases List.mem_append.1 hy with hy|hy
  ·exact .inl (.inr (.inr ⟨y,List.mem_append_left _ hy,hi⟩))
  ·rcases List.mem_cons.1 hy with rfl|hy
   ·exact .inr hi
   ·exact .inl (.inr (.inr ⟨y,List.mem_append_right _ hy,hi⟩))
theorem inSt_of{b:Nat}{s:Sl}{L R:List Pg}{x:Pg}{i:Nat}(h:inSt b s (L++R) i):inSt b s (L++x::R) i:=by
 rcases h with h|h|⟨y,hy,hi⟩
 ·exact .inl h
 ·exact .inr (.inl h)
 ·rcases List.mem_append.1 hy with hy|hy
  ·exact .inr (.inr ⟨y,List.mem_append_left _ hy,hi⟩)
  ·exact .inr (.inr ⟨y,List.mem_append_right _ (List.mem_cons_of_mem _ hy),hi⟩)
theorem inSt_at{b:Nat}{s:Sl}{L R:List Pg}{x:Pg}{i:Nat}(h:i∈blk x.1):inSt b s (L++x::R) i:=.inr (.inr ⟨x,List.mem_append_right _ (List.mem_cons_self ..),h⟩)
set_option maxHeartbeats 1000000 in
theorem c28j1{A:Nat->Prop}{w w26:World}{b:Nat}{P:List (List Pr)}{k v:Int}{i:Nat}{L:List Pg}{x:Pg}{R:List Pg}{s:Sl}{q:List Pr}(hS:St w26 b s (L++x::R))(hi:i<=x.2.length)(h8:x.2.length<=8)(hq:q=x.2.take i++(k,v)::x.2.drop i)
  (hput:putP P k v=(if 8<q.length then L.map (·.2)++[q.take 4,q.drop 4]++R.map (·.2) else L.map (·.2)++q::R.map (·.2)))(hLR:L.length+R.length<=1000)(hC:Ch A w w26)(hA:∀i,inSt b s (L++x::R) i->New A w i)
  {Q:RV}(hQ:∀w',StA (New A w) w' b (putP P k v)->Ch A w w'->Q (.int .i64 0) w'):F17j1 (some ⟨b,0,none⟩) k v Q ((L.length:Int),(i:Int),false) w26:=by
 unfold F17j1
 obtain⟨hH,ho,hf⟩:=hS.hole
 obtain⟨a,ha,hca⟩:=hH.pageCell
 have hsn:s.n=L.length+R.length+1:=hH.n
 have en:s.2=s.n:=rfl
 have hlt:(0:Int)<=(L.length:Int)/\(L.length:Int)<(s.2:Int):=by omega
 refine⟨b,0,rfl,s,hS.cell,a,0,ha,hlt,x.1,by rw[Int.toNat_natCast,Nat.zero_add];exact hca,by decide,fun b35 w36 h36=>?_⟩
 have e36:Ext w26 w36:=h36.ch _
 have hd:b35∉blk x.1:=fun h=>by have:=ho.lt _ h;have:=h36.here;omega
 refine(c37 (x:=(k,v)) (ho.ext e36) (by omega) hi h36.new hd).use ?_
 rintro _ w38 ⟨t',rfl,ho',hc',hb',htn⟩
 rw[<-hq] at ho'
 have hH36:=hH.ext e36
 have hH38:=hH36.ch hc' fun j hj hjx=>hf j hjx hj
 have hf':FreeOf b s (L++R) t':=fun j hj hin=>by
  rcases hb' j hj with h|h
  ·exact hf j h hin
  ·have:=hH36.lt hin;omega
 have hq9:q.length=x.2.length+1:=by rw[hq];simp;omega
 have hC36:Ch A w w36:=hC.thenExt e36
 have hC38:Ch A w w38:=hC36.thenNew hc' fun j hj=>hA j (inSt_at hj)
 have ht'A:∀j∈blk t',New A w j:=fun j hj=>(hb' j hj).elim (fun h=>hA j (inSt_at h)) fun h=>.inr (by have:=hC36.size;omega)
 refine⟨t',rfl,b,0,rfl,s,hH38.cell,a,0,ha,hlt,rfl,?_⟩
 rw[Int.toNat_natCast,Nat.zero_add]
 refine hH38.store ha rfl fun w45 hH45 hc45=>?_
 have ho45:=ho'.ch hc45 fun j hj hjs=>hf' j hj (.inr (.inl hjs))
 have hC45:Ch A w w45:=hC38.thenNew hc45 fun j hj=>hA j (.inr (.inl hj))
 have hS45:St w45 b s (L++(t',q)::R):=StH.fill (x:=(t',q)) hH45 ho45 hf'
 refine IfB.dec (fun hgt=>?_) (fun hgt=>?_)
 ·have hgt8:8<q.length:=by omega
  have hcap:=ho45.cap
  have e46:=extDrew w45
  have hH46:=hH45.ext e46
  have ho46:=ho45.ext e46
  have hrd1:Rd w45.drew ⟨slAddr t'.p 4 0 2,4,4⟩ 2 (prs (q.take 4)):=by
   have h4:=ho46.cut (k:=4) (by omega)
   rw[slAddr_own ho46,<-prs_take]
   exact⟨by rw[List.length_take,prs_len];dsimp only;omega,h4.readAll⟩
  refine⟨b,0,rfl,s,hH46.cell,by omega,(c38 hrd1 (by rw[List.length_take];omega)).use ?_⟩
  rintro _ w50 ⟨s51,rfl,ho51,e51,hb51,hn51⟩
  have hH50:=hH46.ext e51
  refine⟨s51,rfl,hH50.cell,a,0,ha,hlt,rfl,?_⟩
  rw[Nat.zero_add]
  refine hH50.store ha rfl fun w54 hH54 hc54=>?_
  have sz46:w45.drew.heap.size=w45.heap.size:=rfl
  have ho51':=ho51.ch hc54 fun j hj hjs=>by have:=hH46.lt (.inr (.inl hjs));have:=hb51 j hj;omega
  have hf51:FreeOf b s (L++R) s51:=fun j hj hin=>by have:=hH46.lt hin;have:=hb51 j hj;omega
  have ho54:=(ho46.ext e51).ch hc54 fun j hj hjs=>hf' j hj (.inr (.inl hjs))
  have hC50:Ch A w w50:=(hC45.thenExt e46).thenExt e51
  have hC54:Ch A w w54:=hC50.thenNew hc54 fun j hj=>hA j (.inr (.inl hj))
  have e55:=extDrew w54
  have hH55:=hH54.ext e55
  have ho55:=ho54.ext e55
  have hrd2:Rd w54.drew ⟨slAddr t'.p t'.c 4 2,t'.n-4,t'.c-4⟩ 2 (prs (q.drop 4)):=by
   have h4:=ho55.read 4 (t'.n-4) (by omega)
   rw[prs_drop,List.take_of_length_le (by rw[prs_len,List.length_drop];omega)] at h4
   exact⟨by rw[prs_len,List.length_drop];dsimp only;omega,h4⟩
  refine⟨b,0,rfl,s,hH55.cell,by omega,(c38 hrd2 (by rw[List.length_drop];omega)).use ?_⟩
  rintro _ w59 ⟨s60,rfl,ho60,e60,hb60,hn60⟩
  have hH59:=hH55.ext e60
  refine⟨s60,rfl,hH59.cell,by decide,fun b61 w62 h62=>?_⟩
  have e62:Ext w59 w62:=h62.ch _
  have hH62:=hH59.ext e62
  have sz54:w54.drew.heap.size=w54.heap.size:=rfl
  have hw62:w54.heap.size<=w62.heap.size:=by have:=e60.size;have:=e62.size;omega
  have ho51'':OwS w62 s51 2 (prs (q.take 4)):=((ho51'.ext e55).ext e60).ext e62
  have ho60':OwS w62 s60 2 (prs (q.drop 4)):=ho60.ext e62
  have hS62:St w62 b s (L++(s51,q.take 4)::R):=StH.fill (x:=(s51,q.take 4)) hH62 ho51'' hf51
  have hb61:b61∉blk s:=fun h=>by have:=hH59.lt (.inr (.inl h));have:=h62.here;omega
  have harr:OwS w62 s 1 (((L++(s51,q.take 4)::R).map (·.1)).map slV):=by rw[List.map_map];exact hS62.arr
  refine⟨hH62.cell,?_⟩
  rw[show IntKind.i64.wrap ((L.length:Int)+(1:Int))=((L.length+1:Nat):Int) from by rw[wrap_of (by omega) (by omega)];rfl]
  refine(c39 (u:=s60) harr (by simp<;>omega) (by simp<;>omega) h62.new hb61).use ?_
  rintro _ w64 ⟨s65,rfl,ho65,hc65,hb65⟩
  refine⟨s65,rfl,b,0,rfl,rfl,?_⟩
  have hf60:∀j∈blk s60,w54.heap.size<=j:=fun j hj=>hb60 j hj
  have hS54l:∀j,inSt b s (L++(s51,q.take 4)::R) j->j<w54.heap.size:=fun j hj=>by
   rcases inSt_hole hj with h|h
   ·exact hH54.lt h
   ·exact ho51'.lt j h
  have hlist:((L++(s51,q.take 4)::R).map (·.1)).take (L.length+1)++s60::((L++(s51,q.take 4)::R).map (·.1)).drop (L.length+1)=(L++(s51,q.take 4)::(s60,q.drop 4)::R).map (·.1):=by
   rw[<-List.map_take,<-List.map_drop,List.take_append,List.drop_append,List.take_of_length_le (by omega),List.drop_of_length_le (by omega),Nat.add_sub_cancel_left]
   simp
  rw[hlist,List.map_map] at ho65
  have hmem:∀y∈L++(s51,q.take 4)::(s60,q.drop 4)::R,y=(s60,q.drop 4)\/y∈L++(s51,q.take 4)::R:=fun y hy=>by
   simp only[List.mem_append,List.mem_cons] at hy ⊢
   rcases hy with h|h|h|h<;>simp[h]
  have hnd:=hS62.nd
  rw[List.pairwise_append,List.pairwise_cons] at hnd
  obtain⟨n1,⟨n2,n3⟩,n4⟩:=hnd
  have hdis:∀y∈L++(s51,q.take 4)::R,Dis y (s60,q.drop 4):=fun y hy j hj hj2=>by
   have:=hS54l j (.inr (.inr ⟨y,hy,hj⟩));have:=hf60 j hj2;omega
  refine stSet (w:=w62) (s:=s) (by obtain⟨T,hT⟩:=hS62.box;exact⟨T,_,hT⟩) hS62.self ?_ ?_ ?_ ho65 hc65 hb65 ?_
  ·intro y hy
   rcases hmem y hy with rfl|hy
   ·exact ho60'
   ·exact hS62.pg y hy
  ·rw[List.pairwise_append,List.pairwise_cons,List.pairwise_cons]
   refine⟨n1,⟨fun y hy=>?_,fun y hy=>(hdis y (List.mem_append_right _ (List.mem_cons_of_mem _ hy))).symm,n3⟩,fun y hy z hz=>?_⟩
   ·rcases List.mem_cons.1 hy with rfl|hy
    ·exact hdis _ (List.mem_append_right _ (List.mem_cons_self ..))
    ·exact n2 y hy
   ·rcases List.mem_cons.1 hz with rfl|hz
    ·exact n4 y hy _ (List.mem_cons_self ..)
    ·rcases List.mem_cons.1 hz with rfl|hz
     ·exact hdis y (List.mem_append_left _ hy)
     ·exact n4 y hy z (List.mem_cons_of_mem _ hz)
  ·intro y hy j hj
   rcases hmem y hy with rfl|hy
   ·have h1:=hf60 j hj
    exact⟨fun e=>by have:=hS54l j (.inl e);omega,fun e=>by have:=hS54l j (.inr (.inl e));omega⟩
   ·exact hS62.sep y hy j hj
  ·intro w68 hS68 hc68
   have hAll:∀j,inSt b s65 (L++(s51,q.take 4)::(s60,q.drop 4)::R) j->New A w j:=by
    have hwl:w.heap.size<=w54.heap.size:=hC54.size
    have hwl2:w.heap.size<=w45.heap.size:=hC45.size
    rintro j (rfl|h|⟨y,hy,h⟩)
    ·exact hA _ (.inl rfl)
    ·rcases hb65 j h with h|h
     ·exact hA j (.inr (.inl h))
     ·exact .inr (by omega)
    ·rcases hmem y hy with rfl|hy
     ·exact .inr (by have:=hf60 j h;omega)
     ·rcases List.mem_append.1 hy with hy|hy
      ·exact hA j (.inr (.inr ⟨y,List.mem_append_left _ hy,h⟩))
      ·rcases List.mem_cons.1 hy with rfl|hy
       ·exact .inr (by have:=hb51 j h;omega)
       ·exact hA j (.inr (.inr ⟨y,List.mem_append_right _ (List.mem_cons_of_mem _ hy),h⟩))
   refine hQ w68 ⟨s65,_,hS68,?_,hAll⟩ ?_
   ·rw[hput,if_pos hgt8];simp
   ·refine(((hC54.thenExt e55).thenExt e60).thenExt e62).thenNew hc65 (fun j hj=>hA j (.inr (.inl hj))) |>.thenNew hc68 fun j hj=>hA j (.inl hj)
 ·have hle:¬8<q.length:=by omega
  refine hQ w45 ⟨s,_,hS45,?_,fun j hj=>?_⟩ hC45
  ·rw[hput,if_neg hle];simp
  ·rcases inSt_hole hj with h|h
   ·exact hA j (inSt_of h)
   ·exact ht'A j h
set_option maxHeartbeats 1000000 in
theorem c17{A:Nat->Prop}{w:World}{b:Nat}{P:List (List Pr)}(h:StA A w b P)(hI:Inv P)(k v:Int):
  Cw 17 #[.pointer (some ⟨b,0,none⟩),.int .i64 k,.int .i64 v] w fun r w'=>
   r=.int .i64 (if 0<=k/\k<=999 then 0 else 3)/\StA (New A w) w' b (if 0<=k/\k<=999 then putP P k v else P)/\Ch A w w':=by
 obtain⟨s,ps,hS,hP,hA⟩:=h
 refine F17_ok _ _ _ _ _ ((c35 _ _ _).use ?_)
 rintro _ _ ⟨rfl,rfl⟩
 refine⟨_,rfl,IfB.intro (fun hr=>?_) (fun hr=>?_)⟩
 ·have hk:¬(0<=k/\k<=999):=fun h=>by simp[h] at hr
  rw[if_neg hk,if_neg hk]
  exact⟨rfl,⟨s,ps,hS,hP,fun i hi=>.inl (hA i hi)⟩,Ch.refl _ _⟩
 have hk:0<=k/\k<=999:=by simpa using hr
 rw[if_pos hk,if_pos hk]
 refine(c36 hS hP hI hk).use ?_
 rintro _ w5 ⟨rfl,e5⟩
 have hS5:=hS.ext e5
 have hC5:Ch A w w5:=e5.mono fun _ _ h=>h.elim
 by_cases hne:P=[]
 ·subst hne
  refine⟨(((0:Nat):Int),((0:Nat):Int),false),rfl,?_⟩
  have hps:ps=[]:=List.map_eq_nil_iff.1 hP
  subst hps
  refine⟨fun _ w26=>∃s',St w26 b s' [(⟨none,0,0⟩,[])]/\Ch A w w26/\∀i,inSt b s' [(⟨none,0,0⟩,[])] i->New A w i,?_,?_⟩
  ·refine IfB.no rfl ⟨b,0,rfl,s,hS5.cell,IfB.yes (by rw[show s.2=s.n from rfl,hS.n];rfl) ⟨by decide,fun b20 w21 h21=>⟨b,0,rfl,rfl,?_⟩⟩⟩
   have e21:Ext w5 w21:=h21.ch _
   have hS21:=hS5.ext e21
   obtain⟨T,hT⟩:=hS21.box
   have hb20:b20≠b:=fun e=>by have:=hS5.lt (.inl rfl);have:=h21.here;omega
   refine St.setBox (s':=⟨some ⟨b20,0,none⟩,1,1⟩) (ps:=[(⟨none,0,0⟩,[])]) ⟨T,hT⟩ (.inr ⟨b20,_,_,rfl,h21.new,rfl,Nat.le_refl _,rfl⟩) ?_ (by simp) ?_ ?_ ?_
   ·intro x hx;simp at hx;subst hx;exact .inl ⟨rfl,rfl⟩
   ·intro x hx i hi;simp at hx;subst hx;simp[blk] at hi
   ·simp[blk];exact fun e=>hb20 e.symm
   ·intro w24 hS24 hc24
    refine⟨rfl,_,hS24,(hC5.thenExt e21).thenNew hc24 fun i hi=>.inl (hA i (.inl hi)),?_⟩
    rintro i (rfl|hi|⟨y,hy,hi⟩)
    ·exact .inl (hA _ (.inl rfl))
    ·have:i=b20:=by simpa [blk] using hi
     exact .inr (by have:=h21.here;have:=e5.size;omega)
    ·simp at hy;subst hy;simp[blk] at hi
  ·rintro _ w26 _ ⟨s',hS26,hC26,hA26⟩
   exact c28j1 (i:=0) (L:=[]) (R:=[]) (x:=(⟨none,0,0⟩,[])) (q:=[(k,v)]) hS26 (Nat.le_refl _) (by simp) rfl (by simp[putP]) (by simp) hC26 hA26 fun w' h1 h2=>⟨rfl,h1,h2⟩
 ·have hAt:=atP_is hI hne k
  rw[findV_some hne]
  refine⟨(_,_,_),rfl,?_⟩
  obtain⟨L,x,R,rfl,hL,hx,hLm,hRm⟩:=split_at hP hAt
  have h8:=hI.few _ hAt.mem
  have hsr:=hAt.srt
  have hpl:=hI.plen
  have hhas:hasP P k=isP x.2 k:=by rw[hx];rfl
  have hLR:L.length+R.length<=1000:=by
   have:=congrArg List.length hP;simp at this;omega
  rw[<-hx] at h8 hsr ⊢
  refine⟨fun _ w26=>w26=w5/\isP x.2 k=false,?_,?_⟩
  ·refine IfB.intro (fun hi=>?_) (fun hi=>?_)
   ·-- it is there: its value is put
    have hi':isP x.2 k=true:=hi
    obtain⟨u,hu⟩:=isP_iff.1 hi'
    obtain⟨hH,ho,hf⟩:=hS5.hole
    obtain⟨a,ha,hca⟩:=hH.pageCell
    obtain⟨b2,hb2,hcb⟩:=pageE ho hu
    have hsn:s.n=L.length+R.length+1:=hH.n
    have hxn:x.1.n=x.2.length:=by have:=ho.len;rw[prs_len] at this;omega
    have hpl:=(List.getElem?_eq_some_iff.1 hu).1
    refine⟨b,0,rfl,s,hS5.cell,a,0,ha,?_,x.1,?_,b2,0,hb2,?_,rfl,?_⟩
    ·exact(⟨by omega,by omega⟩:(0:Int)<=(atP P k:Int)/\(atP P k:Int)<(s.n:Int))
    ·rw[Int.toNat_natCast,Nat.zero_add,<-hL];exact hca
    ·exact(⟨by omega,by omega⟩:(0:Int)<=(posP x.2 k:Int)/\(posP x.2 k:Int)<(x.1.n:Int))
    ·rw[Int.toNat_natCast,Nat.zero_add]
     refine ho.store (vs:=[.int .i64 v]) hb2 (by simp;omega) (by intro y hy;simp at hy;subst hy;rfl) fun w' ho' hc'=>?_
     have hbk:blk x.1=[b2]:=by simp[blk,hb2]
     have hH':=hH.ch hc' fun j hj e=>hf j (by rw[hbk,e];simp) hj
     rw[List.length_singleton,prs_setv hu] at ho'
     have hS':St w' b s (L++(x.1,x.2.set (posP x.2 k) (k,v))::R):=StH.fill (x:=(x.1,_)) hH' ho' hf
     refine⟨rfl,⟨s,_,hS',?_,fun j hj=>.inl ?_⟩,hC5.thenNew hc' fun j hj=>.inl (hA j (inSt_at (by rw[hbk,hj];simp)))⟩
     ·rw[putP_eq hne,<-hx,insS_is hsr hi',if_neg (by rw[List.length_set];omega)]
      simp[hLm,hRm]
     ·rcases inSt_hole hj with h|h
      ·exact hA j (inSt_of h)
      ·exact hA j (inSt_at h)
   ·refine⟨b,0,rfl,s,hS5.cell,IfB.no ?_ ⟨rfl,rfl,hi⟩⟩
    have:=hS5.n
    rw[show s.2=s.n from rfl,this]
    simp;omega
  ·rintro _ w26 _ ⟨rfl,hi⟩
   have:=c28j1 (Q:=fun r w'=>r=.int .i64 0/\StA (New A w) w' b (putP P k v)/\Ch A w w') (i:=posP x.2 k) hS5 (posP_le _ _) h8 rfl (by rw[putP_eq hne,<-hx,insS_not hsr hi,hLm,hRm]) hLR hC5 (fun j hj=>.inl (hA j hj)) fun w' h1 h2=>⟨rfl,h1,h2⟩
   rw[hL] at this
   exact this
def valP(P:List (List Pr))(k:Int):Int:=match (P.getD (atP P k) [])[posP (P.getD (atP P k) []) k]? with
 | some x=>x.2
 | none=>0
def getP(P:List (List Pr))(k:Int):Int×Int:=if 0<=k/\k<=999 then (if hasP P k then (valP P k,0) else (0,5)) else (0,3)
theorem hasP_nil(k:Int):hasP [] k=false:=rfl
theorem c26{w:World}{b:Nat}{P:List (List Pr)}{s:Sl}{ps:List Pg}(hS:St w b s ps)(hP:ps.map (·.2)=P)(hI:Inv P)(k:Int):
  Cw 26 #[.pointer (some ⟨b,0,none⟩),.int .i64 k] w fun r w'=>r=.tuple #[.int .i64 (getP P k).1,.int .i64 (getP P k).2]/\Ext w w':=by
 refine F26_ok _ _ _ _ ((c35 _ _ _).use ?_)
 rintro _ _ ⟨rfl,rfl⟩
 refine⟨_,rfl,IfB.intro (fun hr=>?_) (fun hr=>?_)⟩
 ·have hk:¬(0<=k/\k<=999):=fun h=>by simp[h] at hr
  unfold getP
  rw[if_neg hk]
  exact⟨rfl,Ch.refl _ _⟩
 have hk:0<=k/\k<=999:=by simpa using hr
 refine(c36 hS hP hI hk).use ?_
 rintro _ w5 ⟨rfl,e5⟩
 have hS5:=hS.ext e5
 unfold getP
 rw[if_pos hk]
 by_cases hne:P=[]
 ·subst hne
  exact⟨(0,0,false),rfl,IfB.yes rfl ⟨rfl,e5⟩⟩
 ·have hAt:=atP_is hI hne k
  rw[findV_some hne]
  refine⟨(_,_,_),rfl,?_⟩
  cases hh:hasP P k with
  | false=>exact IfB.yes (by show (!(hasP P k))=true;rw[hh];rfl) ⟨rfl,e5⟩
  | true=>
   obtain⟨L,x,R,rfl,hL,hx,hLm,hRm⟩:=split_at hP hAt
   have hi':isP x.2 k=true:=by rw[hx];exact hh
   obtain⟨u,hu⟩:=isP_iff.1 hi'
   obtain⟨hH,ho,hf⟩:=hS5.hole
   obtain⟨a,ha,hca⟩:=hH.pageCell
   obtain⟨b2,hb2,hcb⟩:=pageE ho hu
   have hsn:s.n=L.length+R.length+1:=hH.n
   have hxn:x.1.n=x.2.length:=by have:=ho.len;rw[prs_len] at this;omega
   have hpl:=(List.getElem?_eq_some_iff.1 hu).1
   have hv:valP P k=u:=by unfold valP;rw[<-hx,hu]
   rw[<-hx]
   refine IfB.no (by show (!(isP x.2 k))=false;rw[hi'];rfl) ⟨b,0,rfl,s,hS5.cell,a,0,ha,(⟨by omega,by omega⟩:(0:Int)<=(atP P k:Int)/\(atP P k:Int)<(s.n:Int)),x.1,?_,b2,0,hb2,(⟨by omega,by omega⟩:(0:Int)<=(posP x.2 k:Int)/\(posP x.2 k:Int)<(x.1.n:Int)),u,?_,?_,e5⟩
   ·rw[Int.toNat_natCast,Nat.zero_add,<-hL];exact hca
   ·rw[Int.toNat_natCast,Nat.zero_add];exact hcb.snd
   ·rw[hv];rfl
theorem F139_eq(t0:Sl)(t1:Int)(w:World)(R:RV):F139 t0 t1 w R=GrowF tt40 40 2 t0 t1 w R:=by kernel_rfl
theorem c139{k:Nat}(hk:k<=1000)(w:World):Cw 139 #[.slice none 0 0,.int .i64 k] w fun v w'=>∃t',v=slV t'/\OwS w' t' 2 []/\t'.n=0/\Ext w w'/\∀j∈blk t',w.heap.size<=j:=by
 refine F139_ok ⟨none,0,0⟩ k w _ ?_
 rw[F139_eq]
 refine GrowF_nil rfl rfl (by intro y hy;simp[Value.cells] at hy;subst hy;rfl) ⟨by omega,by dsimp only;omega⟩ (by decide) (by omega) ?_
 intro s' w' ho hn he hb
 exact⟨s',rfl,ho,hn,he,hb⟩
def sumL(xs:List Pg):Nat:=(xs.flatMap (·.2)).length
theorem sumL_take{xs:List Pg}{i:Nat}{x:Pg}(h:xs[i]? =some x):sumL (xs.take (i+1))=sumL (xs.take i)+x.2.length:=by
 unfold sumL;rw[take_succ_get h];simp
theorem sumL_le(xs:List Pg)(i:Nat):sumL (xs.take i)<=sumL xs:=by
 unfold sumL
 conv=>rhs;rw[<-List.take_append_drop i xs]
 rw[List.flatMap_append,List.length_append];omega
theorem c118{w:World}{t:Sl}{xs:List Pg}(h:OwS w t 1 (xs.map hV))(hx:∀x∈xs,OwS w x.1 2 (prs x.2))(hl:sumL xs<=1000)(hn:xs.length<=1000):
  Cw 118 #[slV t] w fun v w'=>∃t',v=slV t'/\OwS w' t' 2 (prs (xs.flatMap (·.2)))/\Ext w w'/\∀j∈blk t',w.heap.size<=j:=by
 have htn:t.n=xs.length:=by rw[h.len1,List.length_map]
 have elem:∀(i:Nat)(w5:World),Ext w w5->i<xs.length->∃x a,xs[i]? =some x/\t.p=some ⟨a,0,none⟩/\w5.cell? ⟨a,i,none⟩=some (slV x.1)/\OwS w5 x.1 2 (prs x.2)/\x.1.n=x.2.length:=by
  intro i w5 e hi
  have hxi:xs[i]? =some xs[i]:=List.getElem?_eq_getElem hi
  obtain⟨a,ha,hc⟩:=(h.ext e).elem1 (i:=i) (v:=hV xs[i]) (by rw[List.getElem?_map,hxi];rfl)
  have ho:=(hx xs[i] (List.getElem_mem hi)).ext e
  exact⟨xs[i],a,hxi,ha,hc,ho,by have:=ho.len;rw[prs_len] at this;omega⟩
 refine F118_ok t w _ ?_
 refine⟨fun n x w5=>∃i:Nat,i<=xs.length/\n+i=xs.length/\x=((sumL (xs.take i):Int),(i:Int))/\w5=w,⟨xs.length,0,Nat.zero_le _,rfl,rfl,rfl⟩,?_⟩
 rintro n x w5 g ⟨i,hi,hni,rfl,rfl⟩
 unfold F118j1
 refine IfB.dec (fun hlt=>?_) (fun hge=>?_)
 ·have hi':i<xs.length:=by
   have:(i:Int)<(t.n:Int):=hlt
   omega
  obtain⟨y,a,hy,ha,hc,ho,hyn⟩:=elem i w5 (Ch.refl _ _) hi'
  have h1:=sumL_take hy
  have h2:=sumL_le xs (i+1)
  have e1:IntKind.i64.wrap ((sumL (xs.take i):Int)+(y.1.n:Int))=(sumL (xs.take (i+1)):Int):=by rw[wrap_of (by omega) (by omega)];omega
  refine⟨a,0,ha,(⟨by omega,by omega⟩:(0:Int)<=(i:Int)/\(i:Int)<(t.n:Int)),y.1,by rw[Int.toNat_natCast,Nat.zero_add];exact hc,?_⟩
  dsimp only
  rw[e1]
  refine IfB.no (by simp) ⟨rfl,n-1,by omega,i+1,hi',by omega,?_,rfl⟩
  rw[wrap_of (by omega) (by omega)];rfl
 ·have hi':i=xs.length:=by
   have:¬(i:Int)<(t.n:Int):=hge
   omega
  subst hi'
  have hT:sumL (xs.take xs.length)=sumL xs:=by rw[List.take_length]
  dsimp only
  rw[hT]
  refine(c139 hl w5).use ?_
  rintro _ w13 ⟨t1,rfl,ho1,hn1,e13,hb1⟩
  refine⟨t1,rfl,fun n x w19=>∃i t2,i<=xs.length/\n+i=xs.length/\x=(t2,(i:Int))/\OwS w19 t2 2 (prs ((xs.take i).flatMap (·.2)))/\Ext w5 w19/\∀j∈blk t2,w5.heap.size<=j,⟨xs.length,0,t1,Nat.zero_le _,rfl,rfl,ho1,e13,hb1⟩,?_⟩
  rintro n x w19 g ⟨i,t2,hi,hni,rfl,ho2,e19,hb2⟩
  unfold F118j2
  refine IfB.dec (fun hlt=>?_) (fun hge=>?_)
  ·have hi':i<xs.length:=by
    have:(i:Int)<(t.n:Int):=hlt
    omega
   obtain⟨y,a,hy,ha,hc,ho,hyn⟩:=elem i w19 e19 hi'
   have h1:=sumL_take hy
   have h2:=sumL_le xs (i+1)
   have ht2:t2.n=sumL (xs.take i):=by have:=ho2.len;rw[prs_len] at this;unfold sumL;omega
   refine⟨a,0,ha,(⟨by omega,by omega⟩:(0:Int)<=(i:Int)/\(i:Int)<(t.n:Int)),y.1,by rw[Int.toNat_natCast,Nat.zero_add];exact hc,prs y.2,ho.readAll,?_⟩
   refine ho2.append (cnt:=y.1.n) rfl rfl ho.len (prs_one _) ⟨by omega,by dsimp only;omega⟩ ?_
   intro s' w' ho' hn' hc' hb' _
   refine⟨rfl,n-1,by omega,i+1,s',hi',by omega,?_,?_,?_,?_⟩
   ·rw[wrap_of (by dsimp only;omega) (by dsimp only;omega)];rfl
   ·rw[take_succ_get hy,List.flatMap_append,prs_append]
    simpa using ho'
   ·exact e19.then hc' fun j hj hjb=>by have:=hb2 j hjb;omega
   ·intro j hj
    rcases hb' j hj with h|h
    ·exact hb2 j h
    ·have:=e19.size;omega
  ·have hi':i=xs.length:=by
    have:¬(i:Int)<(t.n:Int):=hge
    omega
   subst hi'
   rw[List.take_length] at ho2
   exact⟨t2,rfl,ho2,e19,hb2⟩
theorem setBox2{w w':World}{b:Nat}{s s':Sl}{L R:List Pg}{x:Pg}{c:Value}{K:World->Prop}(hH:StH w b s L c R)(ho:OwS w' s' 1 ((L++R).map hV))(hc:Ch (fun i=>i∈blk s) w w')(hb:blk s'=blk s)
  (hK:∀w'',St w'' b s' (L++R)->Ch (fun i=>i=b) w' w''->K w''):StoreP w' b 0 [slV s'] K:=
 stSet (w:=w) (s:=s) (by obtain⟨T,hT⟩:=hH.box;exact⟨T,_,hT⟩) hH.self hH.pg hH.nd hH.sep ho hc (fun j hj=>.inl (hb ▸ hj)) hK
theorem c80{A:Nat->Prop}{w0 w:World}{b:Nat}{P:List (List Pr)}{s:Sl}{ps:List Pg}(hS:St w b s ps)(hP:ps.map (·.2)=P)(hC:Ch A w0 w)(hA:∀i,inSt b s ps i->New A w0 i)(hl:P.flatten.length<=1000)(hl2:P.length<=1000)(i:Nat)(hi:i<=1000):
  Cw 80 #[.pointer (some ⟨b,0,none⟩),.int .i64 i] w fun r w'=>r=.bool (canJ P i)/\Ch A w0 w'/\∃s' ps',St w' b s' ps'/\ps'.map (·.2)=(if canJ P i then joinP P i else P)/\∀i,inSt b s' ps' i->New A w0 i:=by
 have hlen:ps.length=P.length:=by rw[<-hP,List.length_map]
 have hsn:s.n=ps.length:=hS.n
 have ed:=extDrew w
 have hSd:=hS.ext ed
 have hCd:Ch A w0 w.drew:=hC.thenExt ed
 have e1:IntKind.i64.wrap ((i:Int)+(1:Int))=((i+1:Nat):Int):=by rw[wrap_of (by omega) (by omega)];rfl
 have e2:IntKind.i64.wrap ((i:Int)+(2:Int))=((i+1+1:Nat):Int):=by rw[wrap_of (by omega) (by omega)];omega
 refine F80_ok _ _ _ _ (IfB.no (decide_eq_false (by omega)) ?_)
 unfold F80k1
 rw[e1,e2]
 refine⟨b,0,rfl,s,hSd.cell,IfB.dec (fun hge=>?_) (fun hlt=>?_)⟩
 ·have:canJ P i=false:=by unfold canJ;rw[decide_eq_false (show ¬i+1<P.length by omega)];rfl
  rw[this]
  exact⟨rfl,hCd,s,ps,hSd,hP,hA⟩
 have hi1:i+1<ps.length:=by omega
 obtain⟨L,x,y,R,rfl,hL⟩:∃L x y R,ps=L++x::y::R/\L.length=i:=by
  refine⟨ps.take i,ps[i],ps[i+1],ps.drop (i+2),?_,by rw[List.length_take];omega⟩
  rw[<-List.drop_eq_getElem_cons hi1,<-List.drop_eq_getElem_cons (show i<ps.length by omega),List.take_append_drop]
 subst hL
 have hpx:(L++x::y::R)[L.length]? =some x:=by simp
 have hpy:(L++x::y::R)[L.length+1]? =some y:=by simp
 obtain⟨a,ha,hcx,hox,hxn⟩:=hSd.page hpx
 obtain⟨a',ha',hcy,hoy,hyn⟩:=hSd.page hpy
 rw[ha] at ha'
 cases ha'
 have hPx:P.getD L.length []=x.2:=by rw[<-hP,List.getD_eq_getElem?_getD,List.getElem?_map,hpx];rfl
 have hPy:P.getD (L.length+1) []=y.2:=by rw[<-hP,List.getD_eq_getElem?_getD,List.getElem?_map,hpy];rfl
 have hbx:(0:Int)<=(L.length:Int)/\(L.length:Int)<(s.n:Int):=by omega
 have hby:(0:Int)<=((L.length+1:Nat):Int)/\((L.length+1:Nat):Int)<(s.n:Int):=by omega
 have hx8:x.2.length+y.2.length<=1000:=by
  have:x.2.length+y.2.length<=P.flatten.length:=by rw[<-hP];simp;omega
  omega
 refine⟨b,0,rfl,s,hSd.cell,a,0,ha,hbx,x.1,by rw[Int.toNat_natCast,Nat.zero_add];exact hcx,b,0,rfl,s,hSd.cell,a,0,ha,hby,y.1,by rw[Int.toNat_natCast,Nat.zero_add];exact hcy,?_⟩
 refine IfB.dec (fun hgt=>?_) (fun hle=>?_)
 ·rw[wrap_of (by omega) (by omega)] at hgt
  have:canJ P L.length=false:=by unfold canJ;rw[hPx,hPy,decide_eq_false (show ¬x.2.length+y.2.length<=4 by omega)];simp
  rw[this]
  exact⟨rfl,hCd,s,_,hSd,hP,hA⟩
 rw[wrap_of (by omega) (by omega)] at hle
 have hcan:canJ P L.length=true:=by unfold canJ;rw[hPx,hPy,decide_eq_true (show x.2.length+y.2.length<=4 by omega),decide_eq_true (show L.length+1<P.length by omega)];rfl
 rw[hcan]
 have edd:=extDrew w.drew
 have hS2:=hSd.ext edd
 refine⟨b,0,rfl,s,hS2.cell,b,0,rfl,s,hS2.cell,a,0,ha,hbx,x.1,by rw[Int.toNat_natCast,Nat.zero_add];exact hcx,b,0,rfl,s,hS2.cell,a,0,ha,hby,y.1,by rw[Int.toNat_natCast,Nat.zero_add];exact hcy,by decide,fun b31 w32 h32=>?_⟩
 have e32:Ext w.drew.drew w32:=h32.ch _
 have hS32:=hS2.ext e32
 refine⟨hS32.cell,?_⟩
 have hlit:OwS w32 ⟨some ⟨b31,0,none⟩,2,2⟩ 1 ([x,y].map hV):=.inr ⟨b31,_,_,rfl,h32.new,rfl,Nat.le_refl _,rfl⟩
 refine(c118 hlit (fun z hz=>hS32.pg z (by simp at hz;rcases hz with rfl|rfl<;>simp)) (by simp[sumL];omega) (by simp)).use ?_
 rintro _ w34 ⟨t',rfl,ho',e34,hb'⟩
 have hS34:=hS32.ext e34
 obtain⟨hH, -,hf⟩:=hS34.hole
 have hq:[x,y].flatMap (·.2)=x.2++y.2:=by simp
 rw[hq] at ho'
 refine⟨t',rfl,hS34.cell,a,0,ha,hbx,rfl,?_⟩
 rw[Int.toNat_natCast,Nat.zero_add]
 refine hH.store ha rfl fun w38 hH38 hc38=>?_
 have hfree:∀j,inSt b s (L++x::y::R) j->∀k∈blk t',k≠j:=fun j hj k hk e=>by have:=hS32.lt hj;have:=hb' k hk;omega
 have ho38:=ho'.ch hc38 fun j hj hjs=>hfree j (.inr (.inl hjs)) j hj rfl
 have hS38:St w38 b s (L++(t',x.2++y.2)::y::R):=StH.fill (x:=(t',x.2++y.2)) hH38 ho38 fun j hj hin=>hfree j (inSt_of hin) j hj rfl
 have hC38:Ch A w0 w38:=(((hCd.thenExt edd).thenExt e32).thenExt e34).thenNew hc38 fun j hj=>hA j (.inr (.inl hj))
 have hreas:L++(t',x.2++y.2)::y::R=(L++[(t',x.2++y.2)])++y::R:=by simp
 have hS38':=hS38
 rw[hreas] at hS38'
 obtain⟨hH2, -, -⟩:=hS38'.hole
 have harr:OwS w38 s 1 (((L++(t',x.2++y.2)::y::R).map (·.1)).map slV):=by rw[List.map_map];exact hS38.arr
 refine⟨b,0,rfl,s,hS38.cell,?_⟩
 refine(c79 harr (by simp only[List.length_append,List.length_cons,List.length_map] at hlen ⊢;omega) (by simp)).use ?_
 rintro _ w43 ⟨s44,rfl,ho44,hc44,hb44⟩
 have hlist:((L++(t',x.2++y.2)::y::R).map (·.1)).take (L.length+1)++((L++(t',x.2++y.2)::y::R).map (·.1)).drop (L.length+1+1)=((L++[(t',x.2++y.2)])++R).map (·.1):=by
  rw[<-List.map_take,<-List.map_drop,List.take_append,List.drop_append,List.take_of_length_le (by omega),List.drop_of_length_le (by omega),Nat.add_sub_cancel_left,show L.length+1+1-L.length=2 by omega]
  simp
 rw[hlist,List.map_map] at ho44
 refine⟨s44,rfl,b,0,rfl,rfl,setBox2 (x:=y) hH2 ho44 hc44 hb44 fun w47 hS47 hc47=>?_⟩
 refine⟨rfl,(hC38.thenNew hc44 fun j hj=>hA j (.inr (.inl hj))).thenNew hc47 fun j hj=>hA j (.inl hj),s44,_,hS47,?_,?_⟩
 ·simp only[if_true]
  unfold joinP
  rw[hPx,hPy,<-hP]
  simp[List.take_append,List.drop_append,show L.length+2-L.length=2 by omega]
 ·rintro j (rfl|h|⟨z,hz,h⟩)
  ·exact hA _ (.inl rfl)
  ·exact hA j (.inr (.inl (hb44 ▸ h)))
  ·rcases List.mem_append.1 hz with hz|hz
   ·rcases List.mem_append.1 hz with hz|hz
    ·exact hA j (.inr (.inr ⟨z,by simp[hz],h⟩))
    ·simp at hz;subst hz
     have h0:=hb' j h
     have h1:w0.heap.size<=w32.heap.size:=((hCd.thenExt edd).thenExt e32).size
     exact .inr (by omega)
   ·exact hA j (.inr (.inr ⟨z,by simp[hz],h⟩))
abbrev Rg:=Int×Int×Int×Int
abbrev rgL(r:Rg):List Value:=[.int .i64 r.1,.int .i64 r.2.1,.int .i64 r.2.2.1,.int .i64 r.2.2.2]
def rgG(r:Rg)(a:Int):Int:=if a=0 then r.1 else if a=1 then r.2.1 else if a=2 then r.2.2.1 else r.2.2.2
def rgS(r:Rg)(a v:Int):Rg:=if a=0 then (v,r.2) else if a=1 then (r.1,v,r.2.2) else if a=2 then (r.1,r.2.1,v,r.2.2.2) else (r.1,r.2.1,r.2.2.1,v)
theorem in4{a:Int}(h:0<=a/\a<=3):a=0\/a=1\/a=2\/a=3:=by omega
def I64(n:Int):Prop:= -9223372036854775808<=n/\n<=9223372036854775807
def RgOk(r:Rg):Prop:=I64 r.1/\I64 r.2.1/\I64 r.2.2.1/\I64 r.2.2.2
theorem RgOk.get{r:Rg}(h:RgOk r)(a:Int):I64 (rgG r a):=by
 unfold rgG
 split
 ·exact h.1
 split
 ·exact h.2.1
 split
 ·exact h.2.2.1
 ·exact h.2.2.2
theorem RgOk.set{r:Rg}{a v:Int}(h:RgOk r)(hv:I64 v):RgOk (rgS r a v):=by
 obtain⟨h1,h2,h3,h4⟩:=h
 unfold rgS
 split
 ·exact⟨hv,h2,h3,h4⟩
 split
 ·exact⟨h1,hv,h3,h4⟩
 split
 ·exact⟨h1,h2,hv,h4⟩
 ·exact⟨h1,h2,h3,hv⟩
abbrev ChV:=Bool×Int
structure PS where
 r:Rg
 rd:Int->Prop
 wr:Int->Prop
 ch:Int->Option ChV
def nowV(st:Int->Option Int)(ch:Int->Option ChV)(k:Int):Option Int:=match ch k with
 | some (true,_)=>none
 | some (false,v)=>some v
 | none=>st k
def cntV(st:Int->Option Int)(ch:Int->Option ChV)(lo hi:Int):Int:=(((ranI lo (hi+1-lo).toNat).filter fun q=>(nowV st ch q).isSome).length:Nat)
noncomputable def stepI(st:Int->Option Int)(mr mw:Int->Prop)(args:List Int)(x:InsD)(s:PS):Int ⊕ PS:=
 if x.1=1 then (if bq (mr (keyAt x.K args))=true then .inr { s with r:=rgS s.r x.a ((nowV st s.ch (keyAt x.K args)).getD 0),rd:=fun j=>s.rd j\/j=keyAt x.K args } else .inl 9)
 else if x.1=2 then (if bq (mw (keyAt x.K args))=true then .inr { s with wr:=fun j=>s.wr j\/j=keyAt x.K args,ch:=fun j=>if j=keyAt x.K args then some (false,rgG s.r x.a) else s.ch j } else .inl 9)
 else if x.1=3 then (if bq (mw (keyAt x.K args))=true then .inr { s with wr:=fun j=>s.wr j\/j=keyAt x.K args,ch:=fun j=>if j=keyAt x.K args then some (true,0) else s.ch j } else .inl 9)
 else if x.1=4 then (if bq (∀q,keyAt x.K args<=q->q<=keyAt x.L args->mr q)=true then .inr { s with r:=rgS s.r x.a (cntV st s.ch (keyAt x.K args) (keyAt x.L args)),rd:=fun j=>s.rd j\/(keyAt x.K args<=j/\j<=keyAt x.L args) } else .inl 9)
 else if x.1=5 then .inr { s with r:=rgS s.r x.a x.X }
 else if x.1=6 then (if -9223372036854775808<=rgG s.r x.b+rgG s.r x.c/\rgG s.r x.b+rgG s.r x.c<=9223372036854775807 then .inr { s with r:=rgS s.r x.a (rgG s.r x.b+rgG s.r x.c) } else .inl 8)
 else if x.1=7 then (if -9223372036854775808<=rgG s.r x.b-rgG s.r x.c/\rgG s.r x.b-rgG s.r x.c<=9223372036854775807 then .inr { s with r:=rgS s.r x.a (rgG s.r x.b-rgG s.r x.c) } else .inl 8)
 else (if rgG s.r x.a<x.X then .inl 7 else .inr s)
noncomputable def runI(st:Int->Option Int)(mr mw:Int->Prop)(args:List Int):List InsD->Nat->PS->(Int×Nat) ⊕ PS
 | [],_,s=>.inr s
 | x::l,i,s=>match stepI st mr mw args x s with
  | .inl e=>.inl (e,i)
  | .inr s'=>runI st mr mw args l (i+1) s'
section
variable {st:Int->Option Int} {mr mw:Int->Prop} {args:List Int}
theorem runI_app:∀(l m:List InsD)(i:Nat)(s:PS),runI st mr mw args (l++m) i s=match runI st mr mw args l i s with
  | .inl e=>.inl e
  | .inr s'=>runI st mr mw args m (i+l.length) s'
 | [],m,i,s=>by simp[runI]
 | x::l,m,i,s=>by
  simp only[List.cons_append,runI]
  cases stepI st mr mw args x s with
  | inl e=>rfl
  | inr s'=>
   simp only
   rw[runI_app l m (i+1) s',List.length_cons,show i+1+l.length=i+(l.length+1) by omega]
theorem runI_next{l:List InsD}{i:Nat}{x:InsD}{s0 s s':PS}(hx:l[i]? =some x)(h:runI st mr mw args (l.take i) 0 s0=.inr s)(hs:stepI st mr mw args x s=.inr s'):runI st mr mw args (l.take (i+1)) 0 s0=.inr s':=by
 rw[take_succ_get hx,runI_app,h]
 simp[runI,hs]
theorem runI_fail{l:List InsD}{i:Nat}{x:InsD}{s0 s:PS}{e:Int}(hx:l[i]? =some x)(h:runI st mr mw args (l.take i) 0 s0=.inr s)(hs:stepI st mr mw args x s=.inl e):runI st mr mw args l 0 s0=.inl (e,i):=by
 have hl:=(List.getElem?_eq_some_iff.1 hx).1
 have e1:l=l.take (i+1)++l.drop (i+1):=(List.take_append_drop _ _).symm
 rw[e1,runI_app,take_succ_get hx,runI_app,h]
 simp[runI,hs,Nat.min_eq_left (Nat.le_of_lt hl)]
end
abbrev ChD:=Int×Bool×Int
structure OutD where
 code:Int
 at':Int
 r:Rg
 rds:List Spn
 wrs:List Spn
 chs:List ChD
structure Done(s:PS)(o:OutD):Prop where
 code:o.code=0
 at0:o.at'=0
 r:o.r=s.r
 nr:NormS o.rds
 hr:∀k,hasS o.rds k↔s.rd k
 nw:NormS o.wrs
 hw:∀k,hasS o.wrs k↔s.wr k
 srt:(o.chs.map (·.1)).Pairwise (· < ·)
 mem:∀c:ChD,c∈o.chs↔s.ch c.1=some c.2
def ps0(r:Rg):PS:=⟨r,fun _=>False,fun _=>False,fun _=>none⟩
def IsOut(ok:Prop)(st:Int->Option Int)(mr mw:Int->Prop)(args:List Int)(code:List InsD)(r:Rg)(o:OutD):Prop:=
 (¬ok->o=⟨1,0,r,[],[],[]⟩)/\(ok->match runI st mr mw args code 0 (ps0 r) with
  | .inl e=>o=⟨e.1,e.2,r,[],[],[]⟩
  | .inr s=>Done s o)
theorem srt1_ext:∀ {a b:List ChD},(a.map (·.1)).Pairwise (· < ·)->(b.map (·.1)).Pairwise (· < ·)->(∀c,c∈a↔c∈b)->a=b
 | [],[],_,_,_=>rfl
 | [],y::b,_,_,h=>by have:=(h y).2 (List.mem_cons_self ..);simp at this
 | x::a,[],_,_,h=>by have:=(h x).1 (List.mem_cons_self ..);simp at this
 | x::a,y::b,ha,hb,h=>by
  simp only[List.map_cons,List.pairwise_cons,List.mem_map] at ha hb
  have lt1:∀z∈a,x.1<z.1:=fun z hz=>ha.1 _ ⟨z,hz,rfl⟩
  have lt2:∀z∈b,y.1<z.1:=fun z hz=>hb.1 _ ⟨z,hz,rfl⟩
  have e:x=y:=by
   rcases List.mem_cons.1 ((h x).1 (List.mem_cons_self ..)) with e|e
   ·exact e
   ·rcases List.mem_cons.1 ((h y).2 (List.mem_cons_self ..)) with e'|e'
    ·exact e'.symm
    ·have:=lt1 _ e';have:=lt2 _ e;omega
  subst e
  congr 1
  refine srt1_ext ha.2 hb.2 fun c=>⟨fun hc=>?_,fun hc=>?_⟩
  ·rcases List.mem_cons.1 ((h c).1 (List.mem_cons_of_mem _ hc)) with e|e
   ·subst e;have:=lt1 _ hc;omega
   ·exact e
  ·rcases List.mem_cons.1 ((h c).2 (List.mem_cons_of_mem _ hc)) with e|e
   ·subst e;have:=lt2 _ hc;omega
   ·exact e
theorem Done.uniq{s:PS}{o p:OutD}(h:Done s o)(k:Done s p):o=p:=by
 have e1:=normS_ext h.nr k.nr fun j=>(h.hr j).trans (k.hr j).symm
 have e2:=normS_ext h.nw k.nw fun j=>(h.hw j).trans (k.hw j).symm
 have e3:=srt1_ext h.srt k.srt fun c=>(h.mem c).trans (k.mem c).symm
 obtain⟨a1,a2,a3,a4,a5,a6⟩:=o
 obtain⟨b1,b2,b3,b4,b5,b6⟩:=p
 have h1:=h.code;have h2:=h.at0;have h3:=h.r;have k1:=k.code;have k2:=k.at0;have k3:=k.r
 simp only at*
 subst h1 h2 h3 k1 k2 k3 e1 e2 e3
 rfl
structure PsOk(s:PS):Prop where
 r:RgOk s.r
 rd:∀k,s.rd k->0<=k/\k<=999
 wr:∀k,s.wr k↔s.ch k≠none
 wk:∀k,s.wr k->0<=k/\k<=999
 gone:∀k v,s.ch k=some (true,v)->v=0
 val:∀k v,s.ch k=some (false,v)->I64 v
theorem ps0_ok{r:Rg}(h:RgOk r):PsOk (ps0 r):=⟨h,fun _ h=>h.elim,fun k=>⟨fun h=>h.elim,fun h=>absurd rfl h⟩,fun _ h=>h.elim,fun _ _ h=>(by cases h),fun _ _ h=>(by cases h)⟩
theorem stepI_ok{st:Int->Option Int}{mr mw:Int->Prop}{args:List Int}{x:InsD}{s s':PS}(hs:PsOk s)(hst:∀k v,st k=some v->I64 v)(hx:InsOk x args.length)(hX:I64 x.X)(ha:ArgsOk args)(h:stepI st mr mw args x s=.inr s'):PsOk s':=by
 have now:∀k,I64 ((nowV st s.ch k).getD 0):=fun k=>by
  have z:I64 0:=⟨by decide,by decide⟩
  unfold nowV
  cases hc:s.ch k with
  | none=>cases hv:st k with
   | none=>exact z
   | some v=>exact hst _ _ hv
  | some c=>obtain⟨g,v⟩:=c;cases g with
   | true=>exact z
   | false=>exact hs.val _ _ hc
 have kr:x.1<=4->0<=keyAt x.K args/\keyAt x.K args<=999:=fun h=>keyAt_range (hx.ko h) ha
 have lr:x.1=4->0<=keyAt x.L args/\keyAt x.L args<=999:=fun h=>keyAt_range (hx.lo h) ha
 unfold stepI at h
 split at h
 ·rename_i h1
  split at h<;>cases h
  exact⟨hs.r.set (now _),fun k hk=>hk.elim (hs.rd k) fun e=>e ▸ kr (by omega),hs.wr,hs.wk,hs.gone,hs.val⟩
 split at h
 ·rename_i h1
  split at h<;>cases h
  refine⟨hs.r,hs.rd,fun k=>?_,fun k hk=>hk.elim (hs.wk k) fun e=>e ▸ kr (by omega),fun k v h=>?_,fun k v h=>?_⟩
  ·dsimp only;by_cases e:k=keyAt x.K args
   ·simp[e]
   ·simp[e,hs.wr]
  ·dsimp only at h;split at h
   ·cases h
   ·exact hs.gone _ _ h
  ·dsimp only at h;split at h
   ·cases h;exact hs.r.get _
   ·exact hs.val _ _ h
 split at h
 ·rename_i h1
  split at h<;>cases h
  refine⟨hs.r,hs.rd,fun k=>?_,fun k hk=>hk.elim (hs.wk k) fun e=>e ▸ kr (by omega),fun k v h=>?_,fun k v h=>?_⟩
  ·dsimp only;by_cases e:k=keyAt x.K args
   ·simp[e]
   ·simp[e,hs.wr]
  ·dsimp only at h;split at h
   ·cases h;rfl
   ·exact hs.gone _ _ h
  ·dsimp only at h;split at h
   ·cases h
   ·exact hs.val _ _ h
 split at h
 ·rename_i h1
  have hk:=kr (by omega)
  have hl:=lr h1
  split at h<;>cases h
  refine⟨hs.r.set ?_,fun k hk'=>hk'.elim (hs.rd k) fun e=>by omega,hs.wr,hs.wk,hs.gone,hs.val⟩
  have:(((ranI (keyAt x.K args) (keyAt x.L args+1-keyAt x.K args).toNat).filter fun q=>(nowV st s.ch q).isSome).length)<=(keyAt x.L args+1-keyAt x.K args).toNat:=Nat.le_trans (List.length_filter_le _ _) (by rw[ranI_len];exact Nat.le_refl _)
  unfold cntV I64
  omega
 split at h
 ·cases h;exact⟨hs.r.set hX,hs.rd,hs.wr,hs.wk,hs.gone,hs.val⟩
 split at h
 ·split at h<;>cases h
  rename_i hv
  exact⟨hs.r.set hv,hs.rd,hs.wr,hs.wk,hs.gone,hs.val⟩
 split at h
 ·split at h<;>cases h
  rename_i hv
  exact⟨hs.r.set hv,hs.rd,hs.wr,hs.wk,hs.gone,hs.val⟩
 split at h<;>cases h
 exact hs
def stP(P:List (List Pr))(k:Int):Option Int:=if 0<=k/\k<=999/\hasP P k=true then some (valP P k) else none
set_option maxRecDepth 100000
section
variable {β:Type} {enc:β->Value}
end
theorem c31{w:World}{t u s1 s2:Sl}{l:List SpTD}{args:List Int}{xs ys:List Spn}(h:Rd w t 5 (l.flatMap spTC))(ha:Rd w u 1 (args.map iv))(hx:Rd w s1 2 (xs.flatMap sv))(hy:Rd w s2 2 (ys.flatMap sv))(hxl:xs.length<=1000000)(hyl:ys.length<=1000000):
  Cw 31 #[slV t,slV u,slV s1,slV s2] w fun v w'=>∃r,v=.bool r/\(r=true↔(ArgsOk args/\FootOk l args.length)/\(∀k,hasS xs k->hasS (footR l args) k)/\∀k,hasS ys k->hasS (footW l args) k)/\Ext w w':=by
 refine F31_ok t u s1 s2 w _ ((c54 h ha).use ?_)
 rintro _ w2 ⟨t1,t2,r,os1,os2,rfl,hr,h0,⟨hN1,hk1,ho1,hl1⟩,⟨hN2,hk2,ho2,hl2⟩,e2,_,_⟩
 refine⟨(t1,t2,r),rfl,IfB.intro (fun h1=>?_) fun h1=>⟨false,rfl,⟨fun h=>(by cases h),fun h=>?_⟩,e2⟩⟩
 ·have h1:r=true:=h1
  refine(c55 (hx.ext e2) ho1.rd hxl (by omega)).use ?_
  rintro _ w5 ⟨r5,rfl,hr5,e5⟩
  have i5:r5=true↔∀k,hasS xs k->hasS (footR l args) k:=hr5.trans ⟨fun h k hk=>(hk1 h1 k).1 (h k hk),fun h k hk=>(hk1 h1 k).2 (h k hk)⟩
  refine⟨r5,rfl,IfB.intro (fun h5=>(c55 ((hy.ext e2).ext e5) (ho2.ext e5).rd hyl (by omega)).use ?_) fun h5=>⟨false,rfl,⟨fun h=>(by cases h),fun h=>?_⟩,e2.trans e5⟩⟩
  ·rintro _ w8 ⟨r8,rfl,hr8,e8⟩
   exact⟨r8,rfl,r8,rfl,⟨fun h=>⟨hr.1 h1,i5.1 h5,fun k hk=>(hk2 h1 k).1 (hr8.1 h k hk)⟩,fun h=>hr8.2 fun k hk=>(hk2 h1 k).2 (h.2.2 k hk)⟩,(e2.trans e5).trans e8⟩
  ·rw[i5.2 h.2.1] at h5;cases h5
 ·have h1:r=false:=h1
  rw[hr.2 h.1] at h1;cases h1
theorem eqSpn(x y:Spn):EqAt Tryz.prog 71 (.agg #[.int .i64 x.1,.int .i64 x.2]) (.agg #[.int .i64 y.1,.int .i64 y.2]) (x == y):=by
 have h:=eqAt_struct tbOk (d:=2) (by decide) (t:=71) (xs:=#[.int .i64 x.1,.int .i64 x.2]) (ys:=#[.int .i64 y.1,.int .i64 y.2]) (b:=(x.1 == y.1)&&((x.2 == y.2)&&true)) (by kernel_rfl) (by kernel_rfl)
 have e:(x == y)=((x.1 == y.1)&&((x.2 == y.2)&&true)):=by rw[Bool.and_true];rfl
 rw[e];exact h
theorem c40{w:World}{s t:Sl}{xs ys:List Spn}(hs:Rd w s 2 (xs.flatMap sv))(ht:Rd w t 2 (ys.flatMap sv))(hxl:xs.length<=1000000):
  Cw 40 #[slV s,slV t] w fun v w'=>v=.bool (decide (xs=ys))/\Ext w w':=by
 have hn:=rdN sv_len (by omega) hs
 have hm:=rdN sv_len (by omega) ht
 refine F40_ok s t w _ (IfB.intro (fun hne=>⟨?_,Ch.refl _ _⟩) fun heq=>?_)
 ·have:¬xs=ys:=fun e=>by
   subst e
   have:s.n=t.n:=by omega
   rw[show ((s.2:Int) != (t.2:Int))=((s.n:Int) != (t.n:Int)) from rfl,this] at hne
   simp at hne
  rw[decide_eq_false this]
 have hl:xs.length=ys.length:=by
  have:(s.n:Int)=(t.n:Int):=by simpa using heq
  omega
 refine⟨fun n x W=>∃i:Nat,i<=xs.length/\n+i=xs.length/\x=(i:Int)/\xs.take i=ys.take i/\Ext w W,⟨xs.length,0,Nat.zero_le _,rfl,rfl,rfl,Ch.refl _ _⟩,?_⟩
 rintro n _ W g ⟨i,hi,hni,rfl,he,hE⟩
 unfold F40j1
 refine IfB.dec (fun hlt=>?_) fun hge=>?_
 ·have hi':i<xs.length:=by omega
  have hx:xs[i]? =some xs[i]:=List.getElem?_eq_getElem hi'
  have hy:ys[i]? =some ys[i]:=List.getElem?_eq_getElem (by omega)
  have tx:=take_succ_get hx
  have ty:=take_succ_get hy
  generalize xs[i]=x at hx tx
  generalize ys[i]=y at hy ty
  have hEd:Ext w W.drew:=hE.trans (extDrew _)
  obtain⟨a,o,hp,hc⟩:=(hs.ext hEd).elem (i:=i) (by omega) (by omega) (flatGet sv_len hx)
  obtain⟨a',o',hp',hc'⟩:=(ht.ext hEd).elem (i:=i) (by omega) (by omega) (flatGet sv_len hy)
  refine⟨a,o,hp,⟨by omega,by omega⟩,x,by rw[Int.toNat_natCast];exact hc,a',o',hp',⟨by omega,by omega⟩,y,by rw[Int.toNat_natCast];exact hc',_,eqSpn x y,IfB.intro (fun hb=>?_) fun hb=>?_⟩
  ·refine⟨?_,hEd⟩
   have hne:¬xs=ys:=fun e=>by
    subst e
    rw[hx] at hy;cases hy
    simp at hb
   rw[decide_eq_false hne]
  ·have e:x=y:=by simpa using hb
   subst e
   exact⟨rfl,n-1,by omega,i+1,hi',by omega,by rw[wrap_of (by omega) (by omega)];rfl,by rw[tx,ty,he],hEd⟩
 ·have hi':i=xs.length:=by omega
  subst hi'
  have e:xs=ys:=by rw[List.take_length,hl,List.take_length] at he;exact he
  exact⟨by rw[decide_eq_true e],hE⟩
theorem F28_ok(t0:Sl×Sl)(t1:Sl)(w:World)(R:RV)(h:AllocP w (Obj.cells #[Qy t0.fst,Qy t0.snd] 36) fun b1 w2=>Cx 51 #[Value.agg #[Qz (-1:Int),Qz 0],Qy t1] w2 fun v3 w4=>∃(x5:Int×Bool),v3=Value.tuple #[Qz x5.1,Value.bool x5.2]/\IfB x5.2 (Qs w4 b1 (0+0) fun s6=>IfB ((s6.2:Int) == 0) (Qs w4 b1 (0+1) fun s7=>Qv' 53 #[Qy s7,Qz (t1.2:Int)] w4 fun t10 w9=>R (Value.bool t10) w9) (Qs w4 b1 (0+0) fun s11=>Qv' 52 #[Qy s11,Qz (t1.2:Int)] w4 fun t14 w13=>IfB t14 (Qs w13 b1 (0+1) fun s15=>Qv' 53 #[Qy s15,Qz (t1.2:Int)] w13 fun t18 w17=>R (Value.bool t18) w17) (R (Value.bool false) w13))) (R (Value.bool false) w4)):Cw 28 #[Value.agg #[Qy t0.fst,Qy t0.snd],Qy t1] w R:=
 ckF Tryz.func28 .nil h (by kernel_rfl) (by kernel_rfl)
theorem F30_ok(t0:Sl)(t1:Sl)(t2:Nat)(t3:Nat)(t4:Nat)(w:World)(R:RV)(h:∃t1_1:Bool,w.cell? ⟨t2,0,none⟩=some (Value.bool t1_1)/\IfB (!t1_1) (R (Value.bool true) w) (∃s2:Sl,w.cell? ⟨t3,0+1,none⟩=some (Qy s2)/\∃s3:Sl,w.cell? ⟨t4,0,none⟩=some (Qy s3)/\Cx 31 #[Qy s2,Qy s3,Qy t0,Qy t1] w fun v4 w5=>∃t6:Bool,v4=Value.bool t6/\R (Value.bool t6) w5)):Cw 30 #[Qy t0,Qy t1,Value.pointer (some ⟨t2,0,none⟩),Value.pointer (some ⟨t3,0,none⟩),Value.pointer (some ⟨t4,0,none⟩)] w R:=
 ckF Tryz.func30 .nil h (by kernel_rfl) (by kernel_rfl)
theorem F103_ok(t0:Option Addr)(t1:Int×Int)(w:World)(R:RV)(h:AllocP w (Obj.cells #[Qz t1.1,Qz t1.2] 64) fun b1 w2=>∃(x3:Int×Int),CellsAt w2.drew b1 0 [Qz x3.1,Qz x3.2]/\∃b4:Nat,∃b5:Nat,t0=some ⟨b4,b5,none⟩/\Qs w2.drew b4 (b5+0) fun s6=>Cx 51 #[Value.agg #[Qz x3.1,Qz x3.2],Qy s6] w2.drew fun v7 w8=>∃(x9:Int×Bool),v7=Value.tuple #[Qz x9.1,Value.bool x9.2]/\R (Qz x9.1) w8):Cw 103 #[Value.pointer t0,Value.agg #[Qz t1.1,Qz t1.2]] w R:=
 ckF Tryz.func103 (nd (.node (.draw (sts [0,1,2,3,4] (.ac 5 [] (sts [6,7,8,9,10] .fin) .non))) .nil)) h (by kernel_rfl) (by kernel_rfl)
theorem F106_ok(t0:Option Addr)(t1:Int)(w:World)(R:RV)(h:∃b1:Nat,∃b2:Nat,t0=some ⟨b1,b2,none⟩/\∃(p3:Option Nat),w.cell? ⟨b1,b2+9,none⟩=some (Value.map p3)/\MapGetP (TypeDesc.int IntKind.i64) w (Value.map p3) (Qz t1) (Value.agg #[Qz 0,Value.bool false,Qz 0]) fun(v4:Value) (t5:Bool)=>∃(x6:Int×Bool×Int),v4=(.agg (lC47 x6).toArray)/\AllocP w (Obj.cells #[Qz 0,Value.bool false,Qz 0] 47) fun b7 w8=>(lC47 x6).toArray.size=3/\StoreP w8 b7 0 (lC47 x6) fun w9=>IfB t5 (Qi w9.drew b7 (0+2) fun n10=>Qb w9.drew b7 (0+1) fun t11=>R (Value.tuple #[Qz n10,Value.bool !t11]) w9.drew) (∃b12:Nat,∃b13:Nat,t0=some ⟨b12,b13,none⟩/\∃(p14:Option Addr),w9.cell? ⟨b12,b13+5,none⟩=some (Value.pointer p14)/\Cx 26 #[Value.pointer p14,Qz t1] w9 fun v15 w16=>∃(x17:Int×Int),v15=Value.tuple #[Qz x17.1,Qz x17.2]/\R (Value.tuple #[Qz x17.1,Value.bool (x17.2 == 0)]) w16)):Cw 106 #[Value.pointer t0,Qz t1] w R:=
 ckF Tryz.func106 (nd (.node (nd (nd (.node (.node (.draw (sts [0,1,2,3,4,5,6] .fin)) .nil) .nil))) .nil)) h (by kernel_rfl) (by kernel_rfl)
theorem F60_ok(t0:Option Addr)(t1:Int×Int×Int×Int×Int×Int×Int×Int×Int)(w:World)(R:RV)(h:AllocP w (Obj.cells (lC66 t1).toArray 66) fun b1 w2=>Qi w2.drew b1 (0+1) fun n3=>Qi w2.drew b1 (0+8) fun n4=>Qx t0 n3 ((4:Nat):Int) fun b5 b6=>#[Qz n4].size=1/\StoreP w2.drew b5 (b6+1+n3.toNat) [Qz n4] fun w7=>R (Value.tuple #[]) w7):Cw 60 #[Value.pointer t0,(.agg (lC66 t1).toArray)] w R:=
 ckF Tryz.func60 (nd (.draw (sts [0,1,2,3,4,5,6,7] (.ac 8 [] .fin .non)))) h (by kernel_rfl) (by kernel_rfl)
def F33k1(w28:World)(b12:Nat)(b1:Nat)(R:RV):Prop:=∃(x48:Int×Int×Int×Int×Int×Int×Sl×Sl×Sl),CellsAt w28 b12 0 (lC27 x48)/\(lC27 x48).toArray.size=9/\StoreP w28 b1 0 (lC27 x48) fun w49=>∃(x50:Int×Int×Int×Int×Int×Int×Sl×Sl×Sl),CellsAt w49 b1 0 (lC27 x50)/\R (Value.agg (lC27 x50).toArray) w49
def F33j1(t0:Option Addr)(R:RV)(b1:Nat)(b12:Nat)(s23:Sl)(y24:Nat->Int->World->Prop)(b26:Nat)(n27:Int)(w28:World):Prop:=IfB (decide (n27<(s23.n:Int))) (Qx s23.1 n27 (s23.2:Int) fun b31 b32=>Qi w28 b31 (b32+n27.toNat) fun n33=>Qs w28.drew b12 (0+8) fun s34=>∃b35:Nat,∃b36:Nat,t0=some ⟨b35,b36,none⟩/\∃(p37:Option Nat),w28.drew.cell? ⟨b35,b36+9,none⟩=some (Value.map p37)/\MapGetP (TypeDesc.int IntKind.i64) w28.drew (Value.map p37) (Qz n33) (Value.agg #[Qz 0,Value.bool false,Qz 0]) fun(v38:Value) (t39:Bool)=>∃(x40:Int×Bool×Int),v38=(.agg (lC47 x40).toArray)/\w28.drew.cell? ⟨b12,0+8,none⟩=some (Qy s34)/\1*3<=16777216/\AllocP w28.drew (Obj.cells (lC47 x40).toArray 47) fun b41 w42=>w42.cell? ⟨b12,0+8,none⟩=some (Qy s34)/\∃(l43:List Value),ReadC w42 (some ⟨b41,0,none⟩) (1*3) l43/\AppendP tt47 47 w42 s34.1 s34.2 s34.3 1 l43 fun s44 w45=>#[Qy s44].size=1/\StoreP w45 b12 (0+8) [Qy s44] fun w46=>([]:List Df)=[]/\∃b47:Nat,b47<b26/\y24 b47 (IntKind.i64.wrap (n27+1)) w46) (F33k1 w28 b12 b1 R)
theorem F33_ok(t0:Option Addr)(w:World)(R:RV)(h:AllocP w (Obj.cells #[Qz 0,Qz 0,Qz 0,Qz 0,Qz 0,Qz 0,Value.slice none 0 0,Value.slice none 0 0,Value.slice none 0 0] 27) fun b1 w2=>∃b3:Nat,∃b4:Nat,t0=some ⟨b3,b4,none⟩/\∃(x5:Int×Int×Int×Int),CellsAt w2.drew b3 (b4+1) [Qz x5.1,Qz x5.snd.1,Qz x5.snd.snd.1,Qz x5.snd.snd.2]/\∃b6:Nat,∃b7:Nat,t0=some ⟨b6,b7,none⟩/\Qs w2.drew b6 (b7+7) fun s8=>∃b9:Nat,∃b10:Nat,t0=some ⟨b9,b10,none⟩/\Qs w2.drew b9 (b10+8) fun s11=>AllocP w2.drew (Obj.cells #[Qz 0,Qz 0,Qz 0,Qz 0,Qz 0,Qz 0,Value.slice none 0 0,Value.slice none 0 0,Value.slice none 0 0] 27) fun b12 w13=>w13.cell? ⟨b9,b10+8,none⟩=some (Qy s11)/\w13.cell? ⟨b6,b7+7,none⟩=some (Qy s8)/\CellsAt w13 b3 (b4+1) [Qz x5.1,Qz x5.snd.1,Qz x5.snd.snd.1,Qz x5.snd.snd.2]/\#[Qz 0,Qz 0,Qz x5.1,Qz x5.snd.1,Qz x5.snd.snd.1,Qz x5.snd.snd.2,Qy s8,Qy s11,Value.slice none 0 0].size=9/\StoreP w13 b12 0 [Qz 0,Qz 0,Qz x5.1,Qz x5.snd.1,Qz x5.snd.snd.1,Qz x5.snd.snd.2,Qy s8,Qy s11,Value.slice none 0 0] fun w14=>∃b15:Nat,∃b16:Nat,t0=some ⟨b15,b16,none⟩/\∃(p17:Option Nat),w14.cell? ⟨b15,b16+9,none⟩=some (Value.map p17)/\Cx 65 #[Value.map p17] w14 fun v18 w19=>∃(x20:Nat×Array Value),v18=Value.func (Fn.func x20.1) #[] x20.2/\Qu' 64 #[Value.func (Fn.func x20.1) #[] x20.2] w19 fun s23 w22=>Ql (α:=Int) 0 w22 fun y24 b26 n27 w28=>(F33j1 t0 R b1 b12 s23 y24 b26 n27 w28)):Cw 33 #[Value.pointer t0] w R:=
 ckF Tryz.func33 (nd (.node (.draw (sts [0,1,2,3,4,5,6,7,8,9,10,11,12] (.ac 13 (rg [0,12]) (.ac 14 [] .fin .non) .non))) (.node (nd (.loop [(26,oi)] (rg [5,5,26,41]) (nd (nd (.node (nd (.draw (sts [0,1,2,3,4,5,6] (.ac 7 [1,0] (.ac 8 [1,0] (.ac 9 [] (.st 10 (.ac 11 [] .fin .non)) .non) .non) .non)))) .nil))))) .nil))) h (by kernel_rfl) (by kernel_rfl)
def F32(w:World)(R:RV):Prop:=AllocP w (Obj.cells #[Value.nilFunc,Value.nilFunc,Value.nilFunc,Value.nilFunc,Value.nilFunc,Value.nilFunc,Value.nilFunc,Value.nilFunc,Value.nilFunc] 85) fun b1 w2=>#[Value.nilFunc,Value.func (Fn.func 56) #[] #[],Value.func (Fn.func 57) #[] #[],Value.func (Fn.func 58) #[] #[],Value.func (Fn.func 59) #[] #[],Value.func (Fn.func 60) #[] #[],Value.func (Fn.func 61) #[] #[],Value.func (Fn.func 62) #[] #[],Value.func (Fn.func 63) #[] #[]].size=9/\StoreP w2 b1 0 [Value.nilFunc,Value.func (Fn.func 56) #[] #[],Value.func (Fn.func 57) #[] #[],Value.func (Fn.func 58) #[] #[],Value.func (Fn.func 59) #[] #[],Value.func (Fn.func 60) #[] #[],Value.func (Fn.func 61) #[] #[],Value.func (Fn.func 62) #[] #[],Value.func (Fn.func 63) #[] #[]] fun w3=>∃(l4:List Value),CellsN w3 b1 0 9 l4/\R (Value.agg { toList:=l4 }) w3
theorem F32_ok(w:World)(R:RV)(h:F32 w R):Cw 32 #[] w R:=
 call_of tbOk mixed en32 Tryz.func32 rfl .nil (by kernel_rfl) (Nat.le_of_ble_eq_true (by kernel_rfl)) (Eq.mp (α:=F32 w R) (by kernel_rfl) h)
def F24j1(t0:Option Addr)(t1:Sl)(R:RV)(y1:Nat->Int->World->Prop)(b3:Nat)(n4:Int)(w5:World):Prop:=IfB (decide (n4<(t1.n:Int))) (Qx t1.1 n4 (t1.2:Int) fun b8 b9=>∃(x10:Int×Bool×Int),CellsAt w5 b8 (b9+n4.toNat*3) (lC47 x10)/\AllocP w5 (Obj.cells #[Qz 0,Value.bool false,Qz 0] 47) fun b11 w12=>(lC47 x10).toArray.size=3/\StoreP w12 b11 0 (lC47 x10) fun w13=>Qb w13 b11 (0+1) fun t14=>IfB t14 (Qi w13 b11 (0+0) fun n15=>Qw' 48 #[Value.pointer t0,Qz n15] w13 fun n18 w17=>([]:List Df)=[]/\∃b19:Nat,b19<b3/\y1 b19 (IntKind.i64.wrap (n4+1)) w17) (Qi w13 b11 (0+0) fun n20=>Qi w13 b11 (0+2) fun n21=>Qw' 17 #[Value.pointer t0,Qz n20,Qz n21] w13 fun n24 w23=>([]:List Df)=[]/\∃b25:Nat,b25<b3/\y1 b25 (IntKind.i64.wrap (n4+1)) w23)) (R (Value.tuple #[]) w5)
theorem F24_ok(t0:Option Addr)(t1:Sl)(w:World)(R:RV)(h:Ql (α:=Int) 0 w fun y1 b3 n4 w5=>(F24j1 t0 t1 R y1 b3 n4 w5)):Cw 24 #[Value.pointer t0,Qy t1] w R:=
 ckF Tryz.func24 (nd (.loop [(8,oi)] (rg [5,5,8,24]) .nil)) h (by kernel_rfl) (by kernel_rfl)
theorem F65_ok(t0:Option Nat)(w:World)(R:RV)(h:AllocP w (Obj.cells #[Value.map t0] 80) fun b1 w2=>R (Value.func (Fn.func 113) #[] #[Value.pointer (some ⟨b1,0,none⟩)]) w2):Cw 65 #[Value.map t0] w R:=
 ckF Tryz.func65 .nil h (by kernel_rfl) (by kernel_rfl)
def F113(t0:Nat)(t1:Nat)(w:World)(R:RV):Prop:=∃(p1:Option Nat),w.cell? ⟨t1,0,none⟩=some (Value.map p1)/\MapItP w (Value.map p1) fun b2 w3=>Ql (α:=Unit) PUnit.unit w3 fun y4 b6 y7 w8=>NextP w8 b2 (fun w11=>R (Value.tuple #[]) w11) fun(v12 v13:Value) (w14:World)=>EntryP w14 b2 fun(v15 v16:Value)=>YW Tryz.prog t0 #[v15] w14 fun(t17:Bool) (w18:World)=>IfB (!t17) (R (Value.tuple #[]) w18) (([]:List Df)=[]/\∃b19:Nat,b19<b6/\y4 b19 PUnit.unit w18)
theorem F113_ok(t0:Nat)(t1:Nat)(w:World)(R:RV)(h:F113 t0 t1 w R):Cw 113 #[Value.func (Fn.yield t0) #[] #[],Value.pointer (some ⟨t1,0,none⟩)] w R:=
 ckF Tryz.func113 (nd (.loop [] (rg [3,3,6,13]) .nil)) h (by kernel_rfl) (by kernel_rfl)
def CP(P:Program)(f:FuncId)(args:Array Value)(w:World)(R:RV)(S:List PanicEntry->World->Prop):Prop:=
 Entr P f/\CallsIn Fence.wide 0 P f args w fun e w'=>(∃v,e=.returned v/\R v w')\/∃ch,e=.panicked ch/\S ch w'
def CXS(P:Program)(f:FuncId)(args:Array Value)(w:World)(R:RV)(S:List PanicEntry->World->Prop):Prop:=CX P f args w R\/CP P f args w R S
def opS(P:Program)(tb:Tab)(S:List PanicEntry->World->Prop)(o:Oper)(ρ:Operand->Value)(w:World)(K:RV):Prop:=
 match o.op with
 | .call c=>match c.callee with
  | .value g=>match ρ g with
   | .func (.func f) first captured=>CXS P f (appL first.toList (appL (mapL ρ c.args.toList) captured.toList)).toArray w (fun v w'=>TypedO tb o.type v fun v=>K v w') S
   | _=>opx P tb o ρ w K
  | .builtin .panic=>match mapL ρ c.args.toList with
   | [.iface t v]=>S [{ v:=.iface t v,recovered:=false }] w
   | _=>False
  | _=>opx P tb o ρ w K
 | .panic x=>match ρ x with
  | .iface t v=>S [{ v:=.iface t v,recovered:=false }] w
  | _=>False
 | .typeAssert x _ T ok=>match ok,ρ x,tb T with
  | true,.iface t v,some ti=>match ti.kd with
   | .struct _=>t=T/\K (.tuple #[v,.bool true]) w
   | _=>False
  | _,_,_=>False
 | _=>opx P tb o ρ w K
section
variable {P:Program} {tb:Tab} {ρ:Operand->Value} {w:World} {K:RV} {S:List PanicEntry->World->Prop}
theorem opS_sound(hT:tb.Ok P){o:Oper}{a:Act}(ha:a.eval=ρ){r:Option Nat}{next:Act->World->Prop}{Q:Exit->Act->World->Prop}
  (h:opS P tb S o ρ w K)(hn:∀v w',K v w'->next (a.put o.dst v) w')(hs:∀ch w',S ch w'->Q (.panic ch) a w'):o.wpIn (fz r) 0 P a w next Q:=by
 have plain:opx P tb o ρ w K->o.wpIn (fz r) 0 P a w next Q:=fun h=>opx_sound hT ha h hn
 obtain⟨dst,op,ty,pos,after,guard⟩:=o
 cases op with
 | call c=>
  obtain⟨callee,args,argTypes⟩:=c
  cases callee with
  | value g=>
   simp only[opS] at h
   split at h
   ·rename_i f first cap hg
    have ea:(appL first.toList (appL (mapL ρ args.toList) cap.toList)).toArray=first++args.map ρ++cap:=by
     apply Array.toList_inj.1;simp[appL_eq,mapL_eq]
    rw[ea] at h
    have hres:(execOp ρ { dst,op:=.call ⟨.value g,args,argTypes⟩,type:=ty,pos,after,guard }).run P w=(callFunc f (first++args.map ρ++cap)).run P w:=by
     simp[execOp,resolve,hg,Deferred.ofValue,invoke]
    refine wpIn_of_upon (by simp) ?_
    rw[ha,hres]
    rcases h with (h|⟨v,w',hr,hK⟩)|h
    ·rw[h.1]
     refine⟨fz_depth r,?_⟩
     refine fz_callsIn.2 (h.2.mono ?_)
     rintro e w' ⟨v,rfl,hK⟩
     exact hn _ _ hK.out
    ·rw[hr]
     exact hn _ _ hK.out
    ·rw[h.1]
     refine⟨fz_depth r,?_⟩
     refine fz_callsIn.2 (h.2.mono ?_)
     rintro e w' (⟨v,rfl,hK⟩|⟨ch,rfl,hS⟩)
     ·exact hn _ _ hK.out
     ·exact hs _ _ hS
   ·exact plain h
  | builtin b=>
   cases b with
   | panic=>
    simp only[opS] at h
    split at h
    ·rename_i t v hg
     refine wpIn_of_upon (by simp) ?_
     rw[ha]
     have hargs:args.map ρ=#[.iface t v]:=by
      apply Array.toList_inj.1
      rw[mapL_eq] at hg
      simpa using hg
     have hres:(execOp ρ { dst,op:=.call ⟨.builtin .panic,args,argTypes⟩,type:=ty,pos,after,guard }).run P w=.halt (.panic (.iface t v)) w:=by
      simp only[execOp,resolve,hargs]
      rfl
     rw[hres]
     exact hs _ _ h
    ·exact h.elim
   | _=>exact plain h
  | invoke _ _=>exact plain h
 | panic x=>
  simp only[opS] at h
  split at h
  ·rename_i t v hg
   refine wpIn_of_upon (by simp) ?_
   rw[ha]
   have hres:(execOp ρ { dst,op:=.panic x,type:=ty,pos,after,guard }).run P w=.halt (.panic (.iface t v)) w:=by
    simp only[execOp,hg]
    rfl
   rw[hres]
   exact hs _ _ h
  ·exact h.elim
 | typeAssert x xT T ok=>
  simp only[opS] at h
  split at h
  case h_2=>exact h.elim
  rename_i t v ti hg ht
  split at h
  case h_2=>exact h.elim
  rename_i fs hk
  obtain⟨rfl,h⟩:=h
  obtain⟨d,hd,hkd⟩:=(hT _ _ ht).desc
  rw[hk] at hkd
  obtain⟨fs',rfl,_⟩:=kd_struct hkd
  refine wpIn_of_upon (by simp) ?_
  rw[ha]
  have hres:(execOp ρ { dst,op:=.typeAssert x xT t true,type:=ty,pos,after,guard }).run P w=.ok (.value (.tuple #[v,.bool true])) w:=by
   simp[execOp,Instr.typeAssert,hg,run_underlying_of hd]
  rw[hres]
  exact hn _ _ h
 | _=>exact plain h
end
def dfr(f:Fr)(o:Oper):Option Deferred:=match o.op with
 | .defer c=>match c.callee with
  | .value g=>match ev f g with
   | .func fn first captured=>some { target:=.fn fn captured,args:=(appL first.toList (mapL (ev f) c.args.toList)).toArray }
   | _=>none
  | _=>none
 | _=>none
theorem dfr_sound{P:Program}{f:Fr}{o:Oper}{d:Deferred}{a:Act}{ds:List Df}{N:Nat}(hd:dfr f o=some d)(hR:Rel N a f ds){r:Option Nat}(hr:r=none){next:Act->World->Prop}{Q:Exit->Act->World->Prop}{w:World}
  (h:next ({ a with defers:=d::a.defers }.put o.dst undef) w):o.wpIn (fz r) 0 P a w next Q:=by
 obtain⟨dst,op,ty,pos,after,guard⟩:=o
 cases op with
 | defer c=>
  obtain⟨callee,args,argTypes⟩:=c
  cases callee with
  | value g=>
   simp only[dfr] at hd
   split at hd
   case h_2=>cases hd
   rename_i fn first cap hv
   cases hd
   subst hr
   refine⟨fun f _=>fz_fn none f,?_⟩
   change Oper.uponIn _ _ _ _ _ _ _ ((Oper.semAt none _ _).run P w)
   rw[Oper.semAt_none]
   have e1:a.eval g=.func fn first cap:=by rw[hR.eval];exact hv
   have hres:(execOp a.eval { dst,op:=.defer ⟨.value g,args,argTypes⟩,type:=ty,pos,after,guard }).run P w=.ok (.defer { target:=.fn fn cap,args:=first++args.map a.eval }) w:=by
    simp[execOp,resolve,e1,Deferred.ofValue]
   rw[hres]
   have ea:(appL first.toList (mapL (ev f) args.toList)).toArray=first++args.map a.eval:=by
    rw[hR.eval];apply Array.toList_inj.1;simp only[appL_eq,mapL_eq,Array.toList_append,Array.toList_map]
   rw[ea] at h
   exact h
  | builtin b=>cases hd
  | invoke _ _=>cases hd
 | _=>cases hd
def exlS(P:Program)(tb:Tab)(r:Option Nat)(S:Fr->List Df->List PanicEntry->World->Prop)(ops:Array Oper):Nat->List Oper->Fr->List Df->World->(Fr->List Df->World->Prop)->Prop
 | _,[],f,ds,w,K=>K f ds w
 | i,o::rest,f,ds,w,K=>
  match wantB ops f o with
  | true=>match dfr f o with
   | some d=>match r with
    | none=>exlS P tb r S ops (Nat.succ i) rest (put f o.dst undef) (.fn d::ds) w K
    | some _=>False
   | none=>opS P tb (S f ds) o (ev f) w fun v w'=>spl (srcB ops.toList i) v fun v=>exlS P tb r S ops (Nat.succ i) rest (put f o.dst v) ds w' K
  | false=>exlS P tb r S ops (Nat.succ i) rest (put f o.dst undef) ds w K
theorem exlS_sound{P:Program}{tb:Tab}{S:Fr->List Df->List PanicEntry->World->Prop}(hT:tb.Ok P){N:Nat}{ops:Array Oper}(hd:dstOk N ops.toList=true){r:Option Nat}{K:Fr->List Df->World->Prop}{Q:Exit->Act->World->Prop}{f₀:Fr}:
  ∀(l:List Oper)(i:Nat)(f:Fr)(ds:List Df)(a:Act)(w:World),(∀j,l[j]? =ops[i+j]?)->exlS P tb r S ops i l f ds w K->Rel N a f ds->AgreeOff (dsts ops.toList) f₀ f->
   (∀f' ds' a' w',Rel N a' f' ds'->AgreeOff (dsts ops.toList) f₀ f'->K f' ds' w'->Q .normal a' w')->(∀f' ds' a' ch w',Rel N a' f' ds'->AgreeOff (dsts ops.toList) f₀ f'->S f' ds' ch w'->Q (.panic ch) a' w')->wpOpsIn (fz r) 0 P ops Q (List.range' i l.length) a w
 | [],i,f,ds,a,w,_,h,hR,hA,hK,hS=>hK f ds a w hR hA h
 | o::rest,i,f,ds,a,w,hl,h,hR,hA,hK,hS=>by
  have h0:ops[i]? =some o:=by simpa using (hl 0).symm
  have hmem:o∈ops.toList:=Array.mem_toList_iff.2 (Array.mem_of_getElem? h0)
  have hdst:=dstOk.of hd hmem
  have hin:∀e,o.dst=some e->e∈dsts ops.toList:=fun e he=>List.mem_filterMap.2 ⟨o,hmem,he⟩
  have hl':∀j,rest[j]? =ops[i+1+j]? :=fun j=>by have:=hl (j+1);simpa [Nat.add_assoc,Nat.add_comm 1 j] using this
  simp only[List.length_cons,List.range'_succ,wpOpsIn,h0,wantB_eq hd hR]
  unfold exlS at h
  cases hw:wantB ops f o with
  | true=>
   rw[hw] at h
   simp only[if_true]
   dsimp only at h
   cases hdf:dfr f o with
   | none=>
    rw[hdf] at h
    refine opS_sound hT hR.eval h (fun v w' hv=>?_) fun ch w' hc=>hS f ds a ch w' hR hA hc
    exact exlS_sound hT hd rest (i+1) _ _ _ _ hl' hv.out (hR.put hdst v) (hA.trans (AgreeOff.put hin v)) hK hS
   | some d=>
    rw[hdf] at h
    cases hr:r with
    | some _=>rw[hr] at h;exact h.elim
    | none=>
     subst hr
     dsimp only at h
     refine dfr_sound hdf hR rfl ?_
     have hR':Rel N { a with defers:=d::a.defers } f (.fn d::ds):=⟨hR.size,hR.val,by simp[hR.defers,mark]⟩
     exact exlS_sound hT hd rest (i+1) _ _ _ _ hl' h (hR'.put hdst undef) (hA.trans (AgreeOff.put hin undef)) hK hS
  | false=>
   rw[hw] at h
   simp only[Bool.false_eq_true,if_false]
   exact⟨fun f _=>fz_fn r f,exlS_sound hT hd rest (i+1) _ _ _ _ hl' h (hR.put hdst undef) (hA.trans (AgreeOff.put hin undef)) hK hS⟩
def exqS(P:Program)(tb:Tab)(S:List PanicEntry->World->Prop)(ops:Array Oper):Pl->Pend->Fr->World->(Fr->World->Prop)->Prop
 | .fin,_,f,w,K=>K f w
 | .non,_,_,_,_=>True
 | .st i p,pend,f,w,K=>match nth ops.toList i with
  | some o=>match wantB ops f o with
   | true=>match o.op with
    | .load T a=>LoadP tb w T (ev f a) fun v=>spl (srcB ops.toList i) v fun v=>exqS P tb S ops p ((i,loadF tb T (ev f a) v)::pend) (put f o.dst v) w K
    | op=>pux P tb op (ev f) fun v=>spl (srcB ops.toList i) v fun v=>exqS P tb S ops p pend (put f o.dst v) w K
   | false=>exqS P tb S ops p pend (put f o.dst undef) w K
  | none=>False
 | .ac i keep p q,pend,f,w,K=>match q with
  | .non=>match nth ops.toList i with
   | some o=>match wantB ops f o with
    | true=>opS P tb S o (ev f) w fun v w'=>spl (srcB ops.toList i) v fun v=>pendK keep w' pend (exqS P tb S ops p pend (put f o.dst v) w' K)
    | false=>pendK keep w pend (exqS P tb S ops p pend (put f o.dst undef) w K)
   | none=>False
  | q=>(match nth ops.toList i with
   | some o=>match wantB ops f o with
    | true=>opS P tb S o (ev f) w fun v w'=>spl (srcB ops.toList i) v fun v=>pendK keep w' pend (exqS P tb S ops p pend (put f o.dst v) w' K)
    | false=>pendK keep w pend (exqS P tb S ops p pend (put f o.dst undef) w K)
   | none=>False)/\exqS P tb S ops q pend f w K
section
variable {P:Program} {tb:Tab} {ops:Array Oper} {r:Option Nat} {Q:Act->World->Prop} {S:List PanicEntry->Act->World->Prop} {SP:List PanicEntry->World->Prop}
def ActS(P:Program)(tb:Tab)(SP:List PanicEntry->World->Prop)(ops:Array Oper)(keep:List Nat)(p:Pl)(pend:Pend)(f:Fr)(w:World)(K:Fr->World->Prop)(i:Nat):Prop:=
 match nth ops.toList i with
 | some o=>match wantB ops f o with
  | true=>opS P tb SP o (ev f) w fun v w'=>spl (srcB ops.toList i) v fun v=>pendK keep w' pend (exqS P tb SP ops p pend (put f o.dst v) w' K)
  | false=>pendK keep w pend (exqS P tb SP ops p pend (put f o.dst undef) w K)
 | none=>False
theorem exqS_ac{i:Nat}{keep:List Nat}{p q:Pl}{pend:Pend}{f:Fr}{w:World}{K:Fr->World->Prop}(h:exqS P tb SP ops (.ac i keep p q) pend f w K):
  ActS P tb SP ops keep p pend f w K i/\exqS P tb SP ops q pend f w K:=by
 cases q with
 | non=>exact⟨h,trivial⟩
 | fin=>exact h
 | st _ _=>exact h
 | ac _ _ _ _=>exact h
theorem exqS_sound(hT:tb.Ok P){N:Nat}(hd:dstOk N ops.toList=true)(hns:Region.noSelect ops=true)(hnd:noDefer ops=true)(hb:beforeIn ops=true)(hlt:edgesBack ops=true)
  {ds:List Df}{K:Fr->World->Prop}{f₀:Fr}(hSp:∀o∈ops.toList,∀ch a v w,S ch (Act.put a o.dst v) w->S ch a w){Rr:Act->Prop}(hRr:∀f a,Rel N a f ds->AgreeOff (dsts ops.toList) f₀ f->Rr a)(hSS:∀ch a w,Rr a->SP ch w->S ch a w)(hQ:∀f a w,Rel N a f ds->AgreeOff (dsts ops.toList) f₀ f->K f w->Q a w):
  ∀(pl:Pl)(n:Nat)(listed:Array Bool)(ld rs:List Nat)(pend:Pend)(f:Fr)(w:World)(a:Act),planOk tb ops pl n listed ld rs=true->exqS P tb SP ops pl pend f w K->Rel N a f ds->AgreeOff (dsts ops.toList) f₀ f->
   HeadInv .any ops ops.size listed->InvP tb ops listed pend w->(∀q∈pend,q.1∈ld)->
   (pl.isNon=false->rs=Region.ready .any ops listed->wpH P tb ops r Q S pend n listed a w)/\
   ((∃i k p q,pl=.ac i k p q)\/pl=.non->(∀i∈rs,i∈Region.ready .any ops listed)->∀m,n=m+1->∀i∈rs,wpOpIn (fz r) 0 P ops (Q0 Q S) i (wpH P tb ops r Q S pend m (listed.setIfInBounds i true)) a w)
 | .fin,n,listed,ld,rs,pend,f,w,a,hp,h,hR,hA,hH,hI,_=>by
  refine⟨fun _ hrs=>?_,fun hc=>by rcases hc with ⟨_,_,_,_,h⟩|h<;>cases h⟩
  simp only[planOk,List.isEmpty_iff] at hp
  cases n with
  | zero=>exact⟨hI,hp,hQ f a w hR hA h⟩
  | succ n=>exact⟨hI,fun _=>hQ f a w hR hA h,fun i hi=>by rw[hp] at hi;cases hi⟩
 | .non,n,listed,ld,rs,pend,f,w,a,hp,h,hR,hA,hH,hI,_=>by
  refine⟨fun h=>by simp[Pl.isNon] at h,fun _ _ m _ i hi=>?_⟩
  simp only[planOk,List.isEmpty_iff] at hp
  rw[hp] at hi;cases hi
 | .st i p,n,listed,ld,rs,pend,f,w,a,hp,h,hR,hA,hH,hI,hld=>by
  refine⟨fun _ hrs=>?_,fun hc=>by rcases hc with ⟨_,_,_,_,h⟩|h<;>cases h⟩
  cases n with
  | zero=>simp[planOk] at hp
  | succ n=>
   simp only[planOk,Bool.and_eq_true,decide_eq_true_eq,Bool.not_eq_true'] at hp
   obtain⟨⟨⟨hfind,hfree⟩,hnon⟩,hp⟩:=hp
   have hst:stillB tb ops i=true:=List.find?_some hfind
   have hir:i∈Region.ready .any ops listed:=List.mem_of_find?_eq_some hfind
   simp only[exqS] at h
   split at h
   case h_2=>exact h.elim
   rename_i o ho
   rw[nth_eq,Array.getElem?_toList] at ho
   have hmem:o∈ops.toList:=Array.mem_toList_iff.2 (Array.mem_of_getElem? ho)
   have hdst:=dstOk.of hd hmem
   have hin:∀e,o.dst=some e->e∈dsts ops.toList:=fun e he=>List.mem_filterMap.2 ⟨o,hmem,he⟩
   have hlti:i<ops.size:=(Array.getElem?_eq_some_iff.1 ho).1
   have hH':=hH.set hir hlti
   have hwant:=wantB_eq hd hR o
   have hfs:=Region.free_spec ho hfree
   have fin:∀(v:Value)(pend':Pend),(∀q∈pend,q∈pend')->(∀q∈pend',q.1∈i::ld)->exqS P tb SP ops p pend' (put f o.dst v) w K->
     (∀listed' w',HeadInv .any ops ops.size listed'->i∈Region.ready .any ops listed'->InvP tb ops listed' pend' w'->YieldsV P ops o v a w')->InvP tb ops listed pend' w->
     wpH P tb ops r Q S pend (n+1) listed a w:=fun v pend' hs hl' hx hy hI'=>
    wpH_first hns (noDefer_spec hnd) hs ho hst (hSp o hmem) n listed a w hH hfs hir (fun l' a' w' a1 a2 a3 a4=>a4 w' (hy l' w' a1 a2 a3)) hI'
     ((exqS_sound hT hd hns hnd hb hlt hSp hRr hSS hQ p n _ (i::ld) _ pend' _ w _ hp hx (hR.put hdst v) (hA.trans (AgreeOff.put hin v)) hH' (fun q hq hn=>hI' q hq (by rw[needB_set hst] at hn;exact hn)) hl').1 hnon rfl)
   split at h
   ·rename_i hwt
    rw[hwt] at hwant
    split at h
    ·rename_i T p' hop
     unfold LoadP at h
     split at h
     case h_2=>exact h.elim
     rename_i ti b off hti hpt
     obtain⟨x,hx,h⟩:=h
     have h:=h.out
     refine fin _ _ (fun q hq=>List.mem_cons_of_mem _ hq) (fun q hq=>?_) h (fun listed' w' a1 a2 a3=>.inl ⟨hwant,?_⟩) (fun q hq hn=>?_)
     ·rcases List.mem_cons.1 hq with rfl|hq
      ·exact List.mem_cons_self ..
      ·exact List.mem_cons_of_mem _ (hld q hq)
     ·have hF:=a3 (i,_) (List.mem_cons_self ..) (needB_of hb (edgesBack_spec hlt) a1 hlti (mem_ready.1 a2).1)
      have hF':LdF w' ti b off (ti.sh.enc x):=by simpa only[loadF,hti,hpt] using hF
      have:=loadVar_of (P:=P) (hT _ _ hti) hF'
      rw[hR.eval]
      simp[execOp,hop,Instr.loadAt,hpt,Instr.sureAddr,this]
     ·rcases List.mem_cons.1 hq with rfl|hq
      ·simpa only[loadF,hti,hpt] using hx
      ·exact hI q hq hn
    ·rename_i op hno
     obtain⟨v,hv,hY⟩:=pux_sound hT (ty:=o.type) h
     refine fin v pend (fun q hq=>hq) (fun q hq=>List.mem_cons_of_mem _ (hld q hq)) hv.out (fun listed' w' _ _ _=>.inl ⟨hwant,?_⟩) hI
     rw[hR.eval]
     exact hY w' o.dst o.pos o.after o.guard
   ·rename_i hwf
    rw[hwf] at hwant
    exact fin undef pend (fun q hq=>hq) (fun q hq=>List.mem_cons_of_mem _ (hld q hq)) h (fun listed' w' _ _ _=>.inr ⟨hwant,rfl⟩) hI
 | .ac i keep p q,n,listed,ld,rs,pend,f,w,a,hp,h,hR,hA,hH,hI,hld=>by
  cases n with
  | zero=>simp[planOk] at hp
  | succ n=>
   cases rs with
   | nil=>simp[planOk] at hp
   | cons r0 rs=>
    simp only[planOk,Bool.and_eq_true,decide_eq_true_eq,Bool.not_eq_true'] at hp
    obtain⟨⟨⟨⟨⟨hfind,hri⟩,hkeep⟩,hnon⟩,hp1⟩,hp2⟩:=hp
    have hri:=Nat.eq_of_beq_eq_true hri
    subst hri
    obtain⟨hact,hq⟩:=exqS_ac h
    have hB:(∀i∈r0::rs,i∈Region.ready .any ops listed)->∀i∈r0::rs,wpOpIn (fz r) 0 P ops (Q0 Q S) i (wpH P tb ops r Q S pend n (listed.setIfInBounds i true)) a w:=by
     intro hsub i hi
     have hcase:i=r0\/i∈rs:=List.mem_cons.1 hi
     by_cases hir0:i=r0
     ·subst hir0
      unfold ActS at hact
      split at hact
      case h_2=>exact hact.elim
      rename_i o ho
      rw[nth_eq,Array.getElem?_toList] at ho
      have hmem:o∈ops.toList:=Array.mem_toList_iff.2 (Array.mem_of_getElem? ho)
      have hdst:=dstOk.of hd hmem
      have hin:∀e,o.dst=some e->e∈dsts ops.toList:=fun e he=>List.mem_filterMap.2 ⟨o,hmem,he⟩
      have hH':=hH.set (hsub i hi) (Array.getElem?_eq_some_iff.1 ho).1
      have hwant:=wantB_eq hd hR o
      have hkp:∀q∈pend,needB tb ops (listed.setIfInBounds i true) q.1=true->inL q.1 keep=true:=fun q hq hn=>by
       have:=List.all_eq_true.1 hkeep q.1 (hld q hq)
       rw[hn] at this
       simpa using this
      unfold wpOpIn
      simp only[ho]
      rw[hwant]
      split at hact
      ·rename_i hwt
       rw[hwt]
       simp only[if_true]
       refine opS_sound hT hR.eval hact (fun v w' hv=>?_) fun ch w' hc=>hSS ch a w' (hRr f a hR hA) hc
       obtain⟨hI',hx⟩:=pendK_out hkp hv.out
       exact(exqS_sound hT hd hns hnd hb hlt hSp hRr hSS hQ p n _ ld _ pend _ w' _ hp1 hx (hR.put hdst v) (hA.trans (AgreeOff.put hin v)) hH' hI' hld).1 hnon rfl
      ·rename_i hwf
       rw[hwf]
       simp only[Bool.false_eq_true,if_false]
       obtain⟨hI',hx⟩:=pendK_out hkp hact
       exact⟨fun f _=>fz_fn r f,(exqS_sound hT hd hns hnd hb hlt hSp hRr hSS hQ p n _ ld _ pend _ w _ hp1 hx (hR.put hdst undef) (hA.trans (AgreeOff.put hin undef)) hH' hI' hld).1 hnon rfl⟩
     ·have hi':i∈rs:=hcase.resolve_left hir0
      have ih:=(exqS_sound hT hd hns hnd hb hlt hSp hRr hSS hQ q (n+1) listed ld rs pend f w a hp2 hq hR hA hH hI hld).2
      refine ih ?_ (fun i hi=>hsub i (List.mem_cons_of_mem _ hi)) n rfl i hi'
      cases q with
      | non=>exact .inr rfl
      | ac i k p q=>exact .inl ⟨i,k,p,q,rfl⟩
      | fin=>
       simp only[planOk,List.isEmpty_iff] at hp2
       have:=hsub i hi
       rw[hp2] at this;cases this
      | st j p'=>
       simp only[planOk,Bool.and_eq_true,decide_eq_true_eq] at hp2
       rw[hp2.1.1.1] at hfind
       cases hfind
    refine⟨fun _ hrs=>⟨hI,fun h0=>(by rw[<-hrs] at h0;cases h0),fun i hi=>?_⟩,fun _ hsub m hm i hi=>?_⟩
    ·rw[<-hrs] at hi
     exact hB (fun i hi=>by rw[<-hrs];exact hi) i hi
    ·cases hm
     exact hB hsub i hi
def dstN:List Oper->List Nat
 | []=>[]
 | o::l=>match o.dst with
  | some d=>d::dstN l
  | none=>dstN l
theorem dstN_eq:∀l:List Oper,dstN l=dsts l
 | []=>rfl
 | o::l=>by
  unfold dstN dsts
  rw[List.filterMap_cons]
  cases o.dst with
  | none=>exact dstN_eq l
  | some d=>exact congrArg (d::·) (dstN_eq l)
structure InRg(N:Nat)(f:Fr)(l:List Nat)(ds:List Df)(a:Act):Prop where
 size:a.tmps.size=N
 defers:a.defers=ds.map mark
 off:∀t,t∉l->a.tmps.getD t undef=f t
theorem InRg.put{N:Nat}{f:Fr}{l:List Nat}{ds:List Df}{a:Act}{d:Option Nat}{v:Value}(hd:∀e,d=some e->e∈l)(h:InRg N f l ds (a.put d v)):InRg N f l ds a:=by
 cases d with
 | none=>exact h
 | some d=>
  refine⟨by have:=h.size;simpa [Act.put] using this,h.defers,fun t ht=>?_⟩
  have:=h.off t ht
  have hne:d≠t:=fun e=>ht (e ▸ hd d rfl)
  simpa [Act.put,Array.getD_eq_getD_getElem?,Array.getElem?_setIfInBounds_ne hne] using this
theorem InRg.of{N:Nat}{f f':Fr}{l:List Nat}{ds:List Df}{a:Act}(h:Rel N a f' ds)(hA:AgreeOff l f f'):InRg N f l ds a:=
 ⟨h.size,h.defers,fun t ht=>(h.val t).trans (hA t ht)⟩
theorem InRg.rel{N:Nat}{f:Fr}{l:List Nat}{ds:List Df}{a:Act}(h:InRg N f l ds a):Rel N a (ovr f (fun t=>a.tmps.getD t undef) l []) ds:=by
 refine⟨h.size,fun t=>?_,h.defers⟩
 simp only[ovr,lk]
 split
 ·rfl
 ·rename_i hi
  exact h.off t fun hm=>by rw[inL_iff.2 hm] at hi;cases hi
theorem ovr_off(f g:Fr)(l:List Nat):AgreeOff l f (ovr f g l []):=fun t ht=>by
 simp only[ovr,lk]
 split
 ·rename_i hi;exact(ht (inL_iff.1 hi)).elim
 ·rfl
end
def exS(P:Program)(tb:Tab)(N:Nat)(r:Option Nat):Code->An->Post->Fr->List Df->World->Prop
 | .skip,_,Q,f,ds,w=>Q .normal f ds w
 | .ret,_,Q,f,ds,w=>Q .ret f ds w
 | .exit id,_,Q,f,ds,w=>Q (.exit id) f ds w
 | .seq x y,an,Q,f,ds,w=>match an with
  | .join car wr a b=>∃M:carDen car->World->Prop,exS P tb N r x a (thenQ (fun f' ds' w'=>ds'=ds/\Nx car f' fun s=>M s w') Q) f ds w/\
    ∀s w' g,M s w'->exS P tb N r y b Q (ovr f g wr (carEnc car s)) ds w'
  | an=>exS P tb N r x an.l (thenQ (fun f' ds' w'=>exS P tb N r y an.r Q f' ds' w') Q) f ds w
 | .cond c x y,an,Q,f,ds,w=>match ev f c with
  | .bool b=>IfB b (exS P tb N r x an.l Q f ds w) (exS P tb N r y an.r Q f ds w)
  | _=>False
 | .block id c,an,Q,f,ds,w=>exS P tb N r c an (blockQ id Q) f ds w
 | .scope c,an,Q,f,ds,w=>exS P tb N r c an (scopeQ Q) f ds w
 | .label _,_,Q,f,ds,w=>Q .normal f ds w
 | .loop c,an,Q,f,ds,w=>match an with
  | .loop car wr a=>∃I:Nat->carDen car->World->Prop,(Nx car f fun s=>∃n,I n s w)/\
    ∀n s w' g,I n s w'->exS P tb N r c a (thenQ (fun f' ds' w''=>ds'=ds/\Nx car f' fun s'=>∃m,m<n/\I m s' w'') Q) (ovr f g wr (carEnc car s)) ds w'
  | _=>False
 | .region _ ops draw,an,Q,f,ds,w=>match draw with
  | false=>exlS P tb r (fun f' ds' ch w'=>Q (.panic ch) f' ds' w') ops 0 ops.toList f ds w fun f' ds' w'=>Q .normal f' ds' w'
  | true=>match an with
   | .draw p=>exqS P tb (fun ch w'=>∀g,Q (.panic ch) (ovr f g (dstN ops.toList) []) ds w') ops p [] f w.drew fun f' w'=>Q .normal f' ds w'
   | _=>False
 | .rangeFunc g ps assign body,an,Q,f,ds,w=>match an with
  | .rng car a=>Nx car f fun s=>∀g',RangeP P tb N r a g ps assign body (frC g' (carEnc car s)) ds w (fun ds' w'=>Q .normal (frC g' (carEnc car s)) ds' w')
    (fun ds' w'=>Q .ret (frC g' (carEnc car s)) ds' w') (fun id ds' w'=>Q (.exit id) (frC g' (carEnc car s)) ds' w')
  | _=>False
 | _,_,_,_,_,_=>False
section
variable {P:Program} {tb:Tab} {N:Nat} {r:Option Nat}
theorem exS_sound(hT:tb.Ok P)(hm:P.follows .mixedOrders=true):∀(c:Code)(an:An)(Q:Post)(f:Fr)(ds:List Df)(w:World),okC tb N c an=true->exS P tb N r c an Q f ds w->
  Wp P N r c (fun e f' ds' w'=>AgreeOff (wrs c) f f'/\Q e f' ds' w') f ds w
 | .skip,an,Q,f,ds,w,_,h=>fun a hR=>wpIn_skip ⟨f,ds,hR,AgreeOff.refl _ _,h⟩
 | .ret,an,Q,f,ds,w,_,h=>fun a hR=>wpIn_ret ⟨f,ds,hR,AgreeOff.refl _ _,h⟩
 | .exit id,an,Q,f,ds,w,_,h=>fun a hR=>wpIn_exit ⟨f,ds,hR,AgreeOff.refl _ _,h⟩
 | .seq x y,an,Q,f,ds,w,hok,h=>by
  intro a hR
  refine wpIn_seq ?_
  have plain:okC tb N x an.l=true->okC tb N y an.r=true->exS P tb N r x an.l (thenQ (fun f' ds' w'=>exS P tb N r y an.r Q f' ds' w') Q) f ds w->
    x.wpIn (fz r) 0 P (Exit.then (y.wpIn (fz r) 0 P fun e a' w'=>∃f' ds',Rel N a' f' ds'/\AgreeOff (wrs (.seq x y)) f f'/\Q e f' ds' w') fun e a' w'=>∃f' ds',Rel N a' f' ds'/\AgreeOff (wrs (.seq x y)) f f'/\Q e f' ds' w') a w:=by
   intro h1 h2 h
   refine wpIn_mono (exS_sound hT hm x an.l _ f ds w h1 h a hR) ?_
   rintro e a₁ w₁ ⟨f₁,ds₁,hR₁,hA₁,hQ₁⟩
   have hA₁':AgreeOff (wrs (.seq x y)) f f₁:=hA₁.mono fun t ht=>List.mem_append_left _ ht
   cases e with
   | normal=>
    refine wpIn_mono (exS_sound hT hm y an.r _ f₁ ds₁ w₁ h2 hQ₁ a₁ hR₁) ?_
    rintro e a₂ w₂ ⟨f₂,ds₂,hR₂,hA₂,hQ₂⟩
    exact⟨f₂,ds₂,hR₂,hA₁'.trans (hA₂.mono fun t ht=>List.mem_append_right _ ht),hQ₂⟩
   | _=>exact⟨f₁,ds₁,hR₁,hA₁',hQ₁⟩
  cases an with
  | join car wr a' b'=>
   simp only[okC,Bool.and_eq_true] at hok
   obtain⟨⟨h1,h2⟩,h3⟩:=hok
   simp only[exS] at h
   obtain⟨M,hx,hy⟩:=h
   refine wpIn_mono (exS_sound hT hm x a' _ f ds w h1 hx a hR) ?_
   rintro e a₁ w₁ ⟨f₁,ds₁,hR₁,hA₁,hQ₁⟩
   have hA₁':AgreeOff (wrs (.seq x y)) f f₁:=hA₁.mono fun t ht=>List.mem_append_left _ ht
   cases e with
   | normal=>
    obtain⟨rfl,hN⟩:=hQ₁
    obtain⟨hc,hM⟩:=hN.out
    have h4:=hy _ _ f₁ hM
    rw[ovr_eq (hA₁.mono (subL_mem h3)) hc] at h4
    refine wpIn_mono (exS_sound hT hm y b' _ f₁ ds₁ w₁ h2 h4 a₁ hR₁) ?_
    rintro e a₂ w₂ ⟨f₂,ds₂,hR₂,hA₂,hQ₂⟩
    exact⟨f₂,ds₂,hR₂,hA₁'.trans (hA₂.mono fun t ht=>List.mem_append_right _ ht),hQ₂⟩
   | _=>exact⟨f₁,ds₁,hR₁,hA₁',hQ₁⟩
  | nil=>
   simp only[okC,Bool.and_eq_true] at hok
   exact plain hok.1 hok.2 h
  | node a' b'=>
   simp only[okC,Bool.and_eq_true] at hok
   exact plain hok.1 hok.2 h
  | loop car wr a'=>
   simp only[okC,Bool.and_eq_true] at hok
   exact plain hok.1 hok.2 h
  | draw _=>
   simp only[okC,Bool.and_eq_true] at hok
   exact plain hok.1 hok.2 h
  | rng _ _=>
   simp only[okC,Bool.and_eq_true] at hok
   exact plain hok.1 hok.2 h
 | .cond c x y,an,Q,f,ds,w,hok,h=>by
  intro a hR
  simp only[okC,Bool.and_eq_true] at hok
  simp only[exS] at h
  split at h
  case h_2=>exact h.elim
  rename_i b hb
  have he:a.eval c=.bool b:=by rw[hR.eval];exact hb
  rcases h.cases with ⟨rfl,h⟩|⟨rfl,h⟩
  ·refine wpIn_cond he (wpIn_mono (exS_sound hT hm x an.l _ f ds w hok.1 h a hR) ?_)
   rintro e a₁ w₁ ⟨f₁,ds₁,hR₁,hA₁,hQ₁⟩
   exact⟨f₁,ds₁,hR₁,hA₁.mono fun t ht=>List.mem_append_left _ ht,hQ₁⟩
  ·refine wpIn_cond he (wpIn_mono (exS_sound hT hm y an.r _ f ds w hok.2 h a hR) ?_)
   rintro e a₁ w₁ ⟨f₁,ds₁,hR₁,hA₁,hQ₁⟩
   exact⟨f₁,ds₁,hR₁,hA₁.mono fun t ht=>List.mem_append_right _ ht,hQ₁⟩
 | .block id c,an,Q,f,ds,w,hok,h=>by
  intro a hR
  refine wpIn_block (wpIn_mono (exS_sound hT hm c an _ f ds w hok h a hR) ?_)
  rintro e a₁ w₁ ⟨f₁,ds₁,hR₁,hA₁,hQ₁⟩
  cases e with
  | exit i=>
   simp only[Exit.inBlock]
   simp only[blockQ] at hQ₁
   by_cases hi:i=id
   ·subst hi
    rw[if_pos rfl]
    rw[show Nat.beq i i=true from Nat.beq_refl i] at hQ₁
    exact⟨f₁,ds₁,hR₁,hA₁,hQ₁⟩
   ·rw[if_neg hi]
    have hb:Nat.beq i id=false:=by
     cases hb:Nat.beq i id with
     | false=>rfl
     | true=>exact(hi (Nat.eq_of_beq_eq_true hb)).elim
    rw[hb] at hQ₁
    exact⟨f₁,ds₁,hR₁,hA₁,hQ₁⟩
  | _=>exact⟨f₁,ds₁,hR₁,hA₁,hQ₁⟩
 | .loop c,an,Q,f,ds,w,hok,h=>by
  intro a hR
  cases an with
  | loop car wr an'=>
   simp only[okC,Bool.and_eq_true] at hok
   obtain⟨h1,h3⟩:=hok
   simp only[exS] at h
   obtain⟨I,h0,hstep⟩:=h
   obtain⟨hc0,hI0⟩:=h0.out
   let fr:Act->Fr:=fun a t=>a.tmps.getD t undef
   have hfr:∀ {a f' ds'},Rel N a f' ds'->fr a=f':=fun h=>funext h.val
   refine wpIn_loop (fun a' w'=>Rel N a' (fr a') ds/\AgreeOff (wrs c) f (fr a')/\carChk car (fr a')=true/\∃n,I n (carDec car (fr a')) w') (fun a' w'=>leastN fun n=>I n (carDec car (fr a')) w')
    ⟨by rw[hfr hR];exact hR,by rw[hfr hR];exact AgreeOff.refl _ _,by rw[hfr hR];exact hc0,by rw[hfr hR];exact hI0⟩ ?_
   rintro a' w' ⟨hR',hA',hc',hI'⟩
   have h4:=hstep _ _ _ (fr a') (leastN_is hI')
   rw[ovr_eq (hA'.mono (subL_mem h3)) hc'] at h4
   refine wpIn_mono (exS_sound hT hm c an' _ (fr a') ds w' h1 h4 a' hR') ?_
   rintro e a₁ w₁ ⟨f₁,ds₁,hR₁,hA₁,hQ₁⟩
   cases e with
   | normal=>
    obtain⟨rfl,hN⟩:=hQ₁
    obtain⟨hc₁,m,hμ,hI₁⟩:=hN.out
    refine⟨⟨by rw[hfr hR₁];exact hR₁,by rw[hfr hR₁];exact hA'.trans hA₁,by rw[hfr hR₁];exact hc₁,m,by rw[hfr hR₁];exact hI₁⟩,?_⟩
    rw[hfr hR₁]
    exact Nat.lt_of_le_of_lt (leastN_le hI₁) hμ
   | _=>exact⟨f₁,ds₁,hR₁,hA'.trans hA₁,hQ₁⟩
  | nil=>exact h.elim
  | node _ _=>exact h.elim
  | join _ _ _ _=>exact h.elim
  | draw _=>exact h.elim
  | rng _ _=>exact h.elim
 | .region id ops draw,an,Q,f,ds,w,hok,h=>by
  intro a hR
  cases draw with
  | false=>
   refine wpIn_region ?_
   rw[List.range_eq_range']
   have:=exlS_sound (r:=r) hT hok ops.toList 0 f ds a w (by simp) h hR (AgreeOff.refl _ _) (Q:=fun e a' w'=>∃f' ds',Rel N a' f' ds'/\AgreeOff (wrs (.region id ops false)) f f'/\Q e f' ds' w')
    (fun f' ds' a' w' hR' hA' hK=>⟨f',ds',hR',hA',hK⟩) (fun f' ds' a' ch w' hR' hA' hS=>⟨f',ds',hR',hA',hS⟩)
   rw[Array.length_toList] at this
   exact this
  | true=>
   simp only[okC,Bool.and_eq_true] at hok
   obtain⟨⟨⟨⟨⟨h1,h2⟩,h3⟩,h4⟩,h5⟩,h6⟩:=hok
   cases an with
   | draw p=>
    simp only[Bool.and_eq_true,Bool.not_eq_true'] at h6
    refine wpIn_region_any hm ?_
    have inv0:HeadInv .any ops ops.size (Array.replicate ops.size false):=
     ⟨by simp,fun j oj _ hl=>(by rw[getD_replicate_false] at hl;cases hl),fun t h h'=>absurd h' (Nat.not_lt.2 h)⟩
    have hin:∀o∈ops.toList,∀e,o.dst=some e->e∈dsts ops.toList:=fun o ho e he=>List.mem_filterMap.2 ⟨o,ho,he⟩
    have:=(exqS_sound (r:=r) (S:=fun ch a' w'=>InRg N f (dsts ops.toList) ds a'/\∀g,Q (.panic ch) (ovr f g (dsts ops.toList) []) ds w') (SP:=fun ch w'=>∀g,Q (.panic ch) (ovr f g (dstN ops.toList) []) ds w')
     (Q:=fun a' w'=>∃f' ds',Rel N a' f' ds'/\AgreeOff (wrs (.region id ops true)) f f'/\Q .normal f' ds' w') hT h1 h2 h3 h4 h5 (f₀:=f)
     (fun o ho ch a v w h=>⟨h.1.put (hin o ho),h.2⟩) (Rr:=fun a'=>InRg N f (dsts ops.toList) ds a') (fun f' a' hR' hA'=>InRg.of hR' hA') (fun ch a' w' h hS=>⟨h,by rw[dstN_eq] at hS;exact hS⟩)
     (fun f' a' w' hR' hA' hK=>⟨f',ds,hR',hA',hK⟩) p ops.size _ [] _ [] f _ a h6.2 h hR (AgreeOff.refl _ _) inv0 (fun q hq=>by simp at hq) (fun q hq=>by simp at hq)).1 h6.1 rfl
    have:=wpH_any (Q':=fun e a' w'=>∃f' ds',Rel N a' f' ds'/\AgreeOff (wrs (.region id ops true)) f f'/\Q e f' ds' w') (fun a w h=>h) ops.size _ a _ this
    exact wpAnyIn_weak (fun a w h=>h) (fun ch a w h=>⟨_,ds,h.1.rel,ovr_off _ _ _,h.2 _⟩) _ _ _ _ this
   | nil=>exact h.elim
   | node _ _=>exact h.elim
   | loop _ _ _=>exact h.elim
   | join _ _ _ _=>exact h.elim
   | rng _ _=>exact h.elim
 | .rangeFunc g ps assign body,an,Q,f,ds,w,_,h=>by
  intro a hR
  cases an with
  | rng car an'=>
   simp only[exS] at h
   obtain⟨hc,h⟩:=h.out
   have h:=h f
   rw[frC_eq hc] at h
   refine wpIn_mono (h a hR) ?_
   rintro e a₁ w₁ ⟨f₁,ds₁,hR₁,hQ₁⟩
   cases e with
   | normal=>obtain⟨rfl,hQ₁⟩:=hQ₁;exact⟨f₁,ds₁,hR₁,AgreeOff.refl _ _,hQ₁⟩
   | ret=>obtain⟨rfl,hQ₁⟩:=hQ₁;exact⟨f₁,ds₁,hR₁,AgreeOff.refl _ _,hQ₁⟩
   | exit id=>obtain⟨rfl,hQ₁⟩:=hQ₁;exact⟨f₁,ds₁,hR₁,AgreeOff.refl _ _,hQ₁⟩
   | goto _=>exact hQ₁.elim
   | panic _=>exact hQ₁.elim
   | outgrown=>exact hQ₁.elim
  | nil=>exact h.elim
  | node _ _=>exact h.elim
  | loop _ _ _=>exact h.elim
  | join _ _ _ _=>exact h.elim
  | draw _=>exact h.elim
 | .scope c,an,Q,f,ds,w,hok,h=>by
  intro a hR
  refine wpIn_scope' (wpIn_mono (exS_sound hT hm c an _ f ds w hok h a hR) ?_)
  rintro e a₁ w₁ ⟨f₁,ds₁,hR₁,hA₁,hQ₁⟩
  cases e with
  | goto _=>exact hQ₁.elim
  | normal=>exact⟨f₁,ds₁,hR₁,hA₁,hQ₁⟩
  | exit _=>exact⟨f₁,ds₁,hR₁,hA₁,hQ₁⟩
  | ret=>exact⟨f₁,ds₁,hR₁,hA₁,hQ₁⟩
  | panic _=>exact⟨f₁,ds₁,hR₁,hA₁,hQ₁⟩
  | outgrown=>exact⟨f₁,ds₁,hR₁,hA₁,hQ₁⟩
 | .label _,_,_,f,ds,w,_,h=>fun a hR=>wpIn_label ⟨f,ds,hR,AgreeOff.refl _ _,h⟩
 | .goto _,_,_,_,_,_,_,h=>h.elim
 | .refuse _,_,_,_,_,_,_,h=>h.elim
theorem LeavesInM.mono{fn:Func}{tmps:Array Value}{R R':Ending->World->Prop}(hR:∀e w,R e w->R' e w):∀ {ds:List Deferred}{u:FrameMode}{w:World},LeavesInM Fence.wide 0 P fn tmps R ds u w->LeavesInM Fence.wide 0 P fn tmps R' ds u w:=by
 intro ds
 induction ds with
 | nil=>
  intro u w h
  cases u with
  | returning=>obtain⟨v,h1,h2⟩:=h;exact⟨v,h1,hR _ _ h2⟩
  | panicking ch=>exact hR _ _ h
  | run=>exact h.elim
 | cons D ds ih=>
  intro u w h
  obtain⟨h0,h⟩:=h
  rcases h with ⟨r,w',h1,h2,h3⟩|⟨hn,fv,cap,f,args,h1,h2,h3,h4⟩
  ·exact⟨h0,.inl ⟨r,w',h1,h2,ih h3⟩⟩
  ·refine⟨h0,.inr ⟨hn,fv,cap,f,args,h1,h2,h3,h4.mono fun e u' w' h=>?_⟩⟩
   cases e with
   | returned v=>exact ih h
   | panicked ch=>exact ih h
   | outgrown=>exact hR _ _ h
theorem rel0{N:Nat}{args:Array Value}(hsz:args.size<=N):Rel N { tmps:=args++Array.replicate (N-args.size) undef,defers:=[] } (argFr 0 args.toList) []:=by
 refine⟨by simp;omega,fun t=>?_,rfl⟩
 rw[argFr_get]
 simp only[Nat.not_lt_zero,if_false,Nat.sub_zero]
 rw[Array.getD_eq_getD_getElem?,Array.getElem?_append]
 split
 ·rename_i ht;simp[ht]
 ·rename_i ht
  have:args.toList.getD t undef=undef:=by simp[List.getD,Nat.not_lt.1 ht]
  rw[this,Array.getElem?_replicate]
  split<;>rfl
def retS(tb:Tab)(rs:List ResultVar)(R:RV)(S:List PanicEntry->World->Prop):Post
 | .panic ch,_,ds,w=>ds=[]/\S ch w
 | e,f,ds,w=>retQ tb rs R e f ds w
theorem call_ofS(hT:tb.Ok P)(hm:P.follows .mixedOrders=true){f:FuncId}{fn:Func}{c:Code}{args:Array Value}{w:World}{R:RV}{S:List PanicEntry->World->Prop}
  (hE:Entr P f)(hf:P.funcs[f]? =some fn)(hb:fn.body=some c)(an:An)(hok:okC tb fn.ntmps c an=true)(hsz:args.size<=fn.ntmps)
  (h:exS P tb fn.ntmps none c an (retS tb fn.results.toList R S) (argFr 0 args.toList) [] w):CP P f args w R S:=by
 refine⟨hE,callsIn_of_wp_marks hf hb trivial ?_⟩
 have hR:=rel0 hsz
 have:=exS_sound hT hm c an _ _ _ w hok h _ hR
 refine wpIn_mono this ?_
 rintro e a' w' ⟨f',ds',hR',_,hQ⟩
 have weak:=fun{ds:List Deferred} {u:FrameMode} {w:World} {tmps:Array Value}=>LeavesInM.mono (P:=P) (fn:=fn) (ds:=ds) (u:=u) (w:=w) (tmps:=tmps) (R:=fun e w'=>∃v,e=.returned v/\R v w') (R':=fun e w'=>(∃v,e=.returned v/\R v w')\/∃ch,e=.panicked ch/\S ch w') fun _ _ h=>.inl h
 cases e with
 | normal=>simp only[bodyPostM,hR'.defers];exact weak (leaves_of hT a'.tmps hR'.val ds' w' hQ)
 | ret=>simp only[bodyPostM,hR'.defers];exact weak (leaves_of hT a'.tmps hR'.val ds' w' hQ)
 | exit _=>exact hQ.elim
 | goto _=>exact hQ.elim
 | panic ch=>
  obtain⟨rfl,hS⟩:=hQ
  simp only[bodyPostM,hR'.defers]
  exact .inr ⟨ch,rfl,hS⟩
 | outgrown=>exact hQ.elim
theorem call_ofD(hT:tb.Ok P)(hm:P.follows .mixedOrders=true){f:FuncId}{fn:Func}{c:Code}{args:Array Value}{w:World}{R:Ending->World->Prop}
  (hf:P.funcs[f]? =some fn)(hb:fn.body=some c)(an:An)(hok:okC tb fn.ntmps c an=true)(hsz:args.size<=fn.ntmps)(Q:Post)
  (hQ:∀e f' ds w' tmps,(∀t,tmps.getD t undef=f' t)->Q e f' ds w'->match e with
   | .normal=>LeavesInM Fence.wide 0 P fn tmps R (ds.map mark) .returning w'
   | .ret=>LeavesInM Fence.wide 0 P fn tmps R (ds.map mark) .returning w'
   | .panic ch=>LeavesInM Fence.wide 0 P fn tmps R (ds.map mark) (.panicking ch) w'
   | _=>False)
  (h:exS P tb fn.ntmps none c an Q (argFr 0 args.toList) [] w):CallsIn Fence.wide 0 P f args w R:=by
 refine callsIn_of_wp_marks hf hb trivial ?_
 have hR:=rel0 hsz
 have:=exS_sound hT hm c an _ _ _ w hok h _ hR
 refine wpIn_mono this ?_
 rintro e a' w' ⟨f',ds',hR',_,hq⟩
 have h2:=hQ e f' ds' w' a'.tmps hR'.val hq
 cases e with
 | normal=>simp only[bodyPostM,hR'.defers];exact h2
 | ret=>simp only[bodyPostM,hR'.defers];exact h2
 | exit _=>exact h2.elim
 | goto _=>exact h2.elim
 | panic ch=>simp only[bodyPostM,hR'.defers];exact h2
 | outgrown=>exact h2.elim
def doorM:Option (List PanicEntry)->FrameMode
 | none=>.returning
 | some ch=>.panicking ch
def DoorOk(P:Program)(S:Deferred->Option (List PanicEntry)->World->(World->Prop)->Prop):Prop:=
 ∀d m w K(fn:Func) tmps R,S d m w K->(∀w',K w'->∃v,(results fn tmps).run P w'=.ok v w'/\R (.returned v) w')->LeavesInM Fence.wide 0 P fn tmps R [d] (doorM m) w
def retD(tb:Tab)(rs:List ResultVar)(S:Deferred->Option (List PanicEntry)->World->(World->Prop)->Prop)(R:RV):Post
 | .normal,f,ds,w=>match ds with
  | []=>resP tb f w rs fun vs=>R (tupV vs) w
  | [.fn d]=>S d none w fun w'=>resP tb f w' rs fun vs=>R (tupV vs) w'
  | _=>False
 | .ret,f,ds,w=>match ds with
  | []=>resP tb f w rs fun vs=>R (tupV vs) w
  | [.fn d]=>S d none w fun w'=>resP tb f w' rs fun vs=>R (tupV vs) w'
  | _=>False
 | .panic ch,f,ds,w=>match ds with
  | [.fn d]=>S d (some ch) w fun w'=>resP tb f w' rs fun vs=>R (tupV vs) w'
  | _=>False
 | _,_,_,_=>False
theorem call_ofDr(hT:tb.Ok P)(hm:P.follows .mixedOrders=true){f:FuncId}{fn:Func}{c:Code}{args:Array Value}{w:World}{R:RV}{S:Deferred->Option (List PanicEntry)->World->(World->Prop)->Prop}
  (hE:Entr P f)(hf:P.funcs[f]? =some fn)(hb:fn.body=some c)(an:An)(hok:okC tb fn.ntmps c an=true)(hsz:args.size<=fn.ntmps)(hS:DoorOk P S)
  (h:exS P tb fn.ntmps none c an (retD tb fn.results.toList S R) (argFr 0 args.toList) [] w):CW P f args w R:=by
 refine⟨hE,call_ofD hT hm hf hb an hok hsz _ ?_ h⟩
 have ret:∀ {f':Fr}{ds:List Df}{w':World}{tmps:Array Value},(∀t,tmps.getD t undef=f' t)->retD tb fn.results.toList S R .ret f' ds w'->LeavesInM Fence.wide 0 P fn tmps (fun e w'=>∃v,e=.returned v/\R v w') (ds.map mark) .returning w':=by
  intro f' ds w' tmps hv hq
  simp only[retD] at hq
  split at hq
  ·obtain⟨v,hK,hr⟩:=results_run (P:=P) hT hv (K:=fun v=>R v w') hq
   exact⟨v,hr,v,rfl,hK⟩
  ·refine hS _ none _ _ fn tmps _ hq fun w'' hk=>?_
   obtain⟨v,hK,hr⟩:=results_run (P:=P) hT hv (K:=fun v=>R v w'') hk
   exact⟨v,hr,v,rfl,hK⟩
  ·exact hq.elim
 intro e f' ds w' tmps hv hq
 cases e with
 | normal=>exact ret hv hq
 | ret=>exact ret hv hq
 | panic ch=>
  simp only[retD] at hq
  split at hq
  ·refine hS _ (some ch) _ _ fn tmps _ hq fun w'' hk=>?_
   obtain⟨v,hK,hr⟩:=results_run (P:=P) hT hv (K:=fun v=>R v w'') hk
   exact⟨v,hr,v,rfl,hK⟩
  ·exact hq.elim
 | exit _=>exact hq
 | goto _=>exact hq
 | outgrown=>exact hq
end
def F110(t0:Int)(w:World)(R:RV)(S:List PanicEntry->World->Prop):Prop:=([]:List Df)=[]/\S [{ v:=Value.iface 77 (Value.agg #[Qz t0]),recovered:=false }] w
theorem F110_ok(t0:Int)(w:World)(R:RV)(S:List PanicEntry->World->Prop)(h:F110 t0 w R S):CP Tryz.prog 110 #[Qz t0] w R S:=
 call_ofS tbOk mixed en110 Tryz.func110 rfl (.nil) (by kernel_rfl) (Nat.le_of_ble_eq_true (by kernel_rfl)) (Eq.mp (α:=F110 t0 w R S) (by kernel_rfl) h)
def F104(t0:Option Addr)(t1:Sl)(w:World)(R:RV)(S:List PanicEntry->World->Prop):Prop:=∃b1:Nat,∃b2:Nat,t0=some ⟨b1,b2,none⟩/\∃(x3:Nat×Array Value),w.cell? ⟨b1,b2+6,none⟩=some (Value.func (Fn.func x3.1) #[] x3.2)/\CXS Tryz.prog x3.1 { toList:=Qy t1::Value.slice none 0 0::x3.snd.1 } w (fun v4 w5=>∃t6:Bool,v4=Value.bool t6/\IfB (!t6) (CXS Tryz.prog 110 #[Qz 9] w5 (fun v7 w8=>∃y9:Unit,v7=Value.tuple #[]/\∃b10:Nat,∃b11:Nat,t0=some ⟨b10,b11,none⟩/\Qs w8 b10 (b11+7) fun s12=>CXS Tryz.prog 134 #[Qy s12,Qy t1] w8 (fun v13 w14=>∃s15:Sl,v13=Qy s15/\∃b16:Nat,∃b17:Nat,t0=some ⟨b16,b17,none⟩/\#[Qy s15].size=1/\StoreP w14 b16 (b17+7) [Qy s15] fun w18=>R (Value.tuple #[]) w18) fun(l19:List PanicEntry) (w20:World)=>([]:List Df)=[]/\S l19 w20) fun(l21:List PanicEntry) (w22:World)=>([]:List Df)=[]/\S l21 w22) (∃b23:Nat,∃b24:Nat,t0=some ⟨b23,b24,none⟩/\Qs w5 b23 (b24+7) fun s25=>CXS Tryz.prog 134 #[Qy s25,Qy t1] w5 (fun v26 w27=>∃s28:Sl,v26=Qy s28/\∃b29:Nat,∃b30:Nat,t0=some ⟨b29,b30,none⟩/\#[Qy s28].size=1/\StoreP w27 b29 (b30+7) [Qy s28] fun w31=>R (Value.tuple #[]) w31) fun(l32:List PanicEntry) (w33:World)=>([]:List Df)=[]/\S l32 w33)) fun(l34:List PanicEntry) (w35:World)=>([]:List Df)=[]/\S l34 w35
theorem F104_ok(t0:Option Addr)(t1:Sl)(w:World)(R:RV)(S:List PanicEntry->World->Prop)(h:F104 t0 t1 w R S):CP Tryz.prog 104 #[Value.pointer t0,Qy t1] w R S:=
 call_ofS tbOk mixed en104 Tryz.func104 rfl (.nil) (by kernel_rfl) (Nat.le_of_ble_eq_true (by kernel_rfl)) (Eq.mp (α:=F104 t0 t1 w R S) (by kernel_rfl) h)
def F107(t0:Option Addr)(t1:Int×Bool×Int)(w:World)(R:RV)(S:List PanicEntry->World->Prop):Prop:=AllocP w (Obj.cells (lC47 t1).toArray 47) fun b1 w2=>Qi w2 b1 (0+0) fun n3=>CXS Tryz.prog 105 #[Qz n3] w2 (fun v4 w5=>∃s6:Sl,v4=Qy s6/\∃b7:Nat,∃b8:Nat,t0=some ⟨b7,b8,none⟩/\∃(x9:Nat×Array Value),w5.cell? ⟨b7,b8+6,none⟩=some (Value.func (Fn.func x9.1) #[] x9.2)/\CXS Tryz.prog x9.1 { toList:=Value.slice none 0 0::Qy s6::x9.snd.1 } w5 (fun v10 w11=>∃t12:Bool,v10=Value.bool t12/\IfB (!t12) (CXS Tryz.prog 110 #[Qz 9] w11 (fun v13 w14=>∃y15:Unit,v13=Value.tuple #[]/\∃b16:Nat,∃b17:Nat,t0=some ⟨b16,b17,none⟩/\Qs w14 b16 (b17+8) fun s18=>CXS Tryz.prog 134 #[Qy s18,Qy s6] w14 (fun v19 w20=>∃s21:Sl,v19=Qy s21/\∃b22:Nat,∃b23:Nat,t0=some ⟨b22,b23,none⟩/\#[Qy s21].size=1/\StoreP w20 b22 (b23+8) [Qy s21] fun w24=>∃b25:Nat,∃b26:Nat,t0=some ⟨b25,b26,none⟩/\∃(p27:Option Nat),w24.drew.cell? ⟨b25,b26+9,none⟩=some (Value.map p27)/\Qi w24.drew b1 (0+0) fun n28=>∃(x29:Int×Bool×Int),CellsAt w24.drew b1 0 (lC47 x29)/\MapSetP (TypeDesc.int IntKind.i64) w24.drew (Value.map p27) (Qz n28) ((.agg (lC47 x29).toArray)) fun w30=>R (Value.tuple #[]) w30) fun(l31:List PanicEntry) (w32:World)=>([]:List Df)=[]/\S l31 w32) fun(l33:List PanicEntry) (w34:World)=>([]:List Df)=[]/\S l33 w34) (∃b35:Nat,∃b36:Nat,t0=some ⟨b35,b36,none⟩/\Qs w11 b35 (b36+8) fun s37=>CXS Tryz.prog 134 #[Qy s37,Qy s6] w11 (fun v38 w39=>∃s40:Sl,v38=Qy s40/\∃b41:Nat,∃b42:Nat,t0=some ⟨b41,b42,none⟩/\#[Qy s40].size=1/\StoreP w39 b41 (b42+8) [Qy s40] fun w43=>∃b44:Nat,∃b45:Nat,t0=some ⟨b44,b45,none⟩/\∃(p46:Option Nat),w43.drew.cell? ⟨b44,b45+9,none⟩=some (Value.map p46)/\Qi w43.drew b1 (0+0) fun n47=>∃(x48:Int×Bool×Int),CellsAt w43.drew b1 0 (lC47 x48)/\MapSetP (TypeDesc.int IntKind.i64) w43.drew (Value.map p46) (Qz n47) ((.agg (lC47 x48).toArray)) fun w49=>R (Value.tuple #[]) w49) fun(l50:List PanicEntry) (w51:World)=>([]:List Df)=[]/\S l50 w51)) fun(l52:List PanicEntry) (w53:World)=>([]:List Df)=[]/\S l52 w53) fun(l54:List PanicEntry) (w55:World)=>([]:List Df)=[]/\S l54 w55
theorem F107_ok(t0:Option Addr)(t1:Int×Bool×Int)(w:World)(R:RV)(S:List PanicEntry->World->Prop)(h:F107 t0 t1 w R S):CP Tryz.prog 107 #[Value.pointer t0,(.agg (lC47 t1).toArray)] w R S:=
 call_ofS tbOk mixed en107 Tryz.func107 rfl (.node (.nil) (.node (.nil) (.node (.nil) (.node (.nil) (.draw (.st 0 (.st 1 (.st 2 (.st 3 (.st 4 (.st 5 (.st 6 (.ac 7 [] (.fin) (.non)))))))))))))) (by kernel_rfl) (Nat.le_of_ble_eq_true (by kernel_rfl)) (Eq.mp (α:=F107 t0 t1 w R S) (by kernel_rfl) h)
def F56(t0:Option Addr)(t1:Int×Int×Int×Int×Int×Int×Int×Int×Int)(w:World)(R:RV)(S:List PanicEntry->World->Prop):Prop:=AllocP w (Obj.cells (lC66 t1).toArray 66) fun b1 w2=>∃(x3:Int×Int),CellsAt w2 b1 (0+4) [Qz x3.1,Qz x3.2]/\CXS Tryz.prog 103 #[Value.pointer t0,Value.agg #[Qz x3.1,Qz x3.2]] w2 (fun v4 w5=>∃n6:Int,v4=Qz n6/\CXS Tryz.prog 105 #[Qz n6] w5 (fun v7 w8=>∃s9:Sl,v7=Qy s9/\CXS Tryz.prog 104 #[Value.pointer t0,Qy s9] w8 (fun v10 w11=>∃y12:Unit,v10=Value.tuple #[]/\Qi w11.drew b1 (0+1) fun n13=>∃b14:Nat,∃b15:Nat,t0=some ⟨b14,b15,none⟩/\CXS Tryz.prog 106 #[Value.pointer t0,Qz n6] w11.drew (fun v16 w17=>∃(x18:Int×Bool),v16=Value.tuple #[Qz x18.1,Value.bool x18.2]/\w17.cell? ⟨b1,0+1,none⟩=some (Qz n13)/\(0<=n13/\n13<((4:Nat):Int))/\#[Qz x18.1].size=1/\StoreP w17 b14 (b15+1+n13.toNat) [Qz x18.1] fun w19=>R (Value.tuple #[]) w19) fun(l20:List PanicEntry) (w21:World)=>∀(y22:Nat->Value),([]:List Df)=[]/\S l20 w21) fun(l23:List PanicEntry) (w24:World)=>([]:List Df)=[]/\S l23 w24) fun(l25:List PanicEntry) (w26:World)=>([]:List Df)=[]/\S l25 w26) fun(l27:List PanicEntry) (w28:World)=>([]:List Df)=[]/\S l27 w28
theorem F56_ok(t0:Option Addr)(t1:Int×Int×Int×Int×Int×Int×Int×Int×Int)(w:World)(R:RV)(S:List PanicEntry->World->Prop)(h:F56 t0 t1 w R S):CP Tryz.prog 56 #[Value.pointer t0,(.agg (lC66 t1).toArray)] w R S:=
 call_ofS tbOk mixed en56 Tryz.func56 rfl (.node (.nil) (.node (.nil) (.node (.nil) (.draw (.st 0 (.st 1 (.st 2 (.st 3 (.st 4 (.st 9 (.st 10 (.ac 5 [10,9,2,1,0] (.st 6 (.st 7 (.st 8 (.st 11 (.ac 12 [8] (.fin) (.non)))))) (.non))))))))))))) (by kernel_rfl) (Nat.le_of_ble_eq_true (by kernel_rfl)) (Eq.mp (α:=F56 t0 t1 w R S) (by kernel_rfl) h)
def F57(t0:Option Addr)(t1:Int×Int×Int×Int×Int×Int×Int×Int×Int)(w:World)(R:RV)(S:List PanicEntry->World->Prop):Prop:=AllocP w (Obj.cells (lC66 t1).toArray 66) fun b1 w2=>∃(x3:Int×Int),CellsAt w2.drew b1 (0+4) [Qz x3.1,Qz x3.2]/\Qi w2.drew b1 (0+1) fun n4=>Qx t0 n4 ((4:Nat):Int) fun b5 b6=>Qi w2.drew b5 (b6+1+n4.toNat) fun n7=>CXS Tryz.prog 103 #[Value.pointer t0,Value.agg #[Qz x3.1,Qz x3.2]] w2.drew (fun v8 w9=>∃n10:Int,v8=Qz n10/\w9.cell? ⟨b5,b6+1+n4.toNat,none⟩=some (Qz n7)/\w9.cell? ⟨b1,0+1,none⟩=some (Qz n4)/\CXS Tryz.prog 107 #[Value.pointer t0,Value.agg #[Qz n10,Value.bool false,Qz n7]] w9 (fun v11 w12=>∃y13:Unit,v11=Value.tuple #[]/\R (Value.tuple #[]) w12) fun(l14:List PanicEntry) (w15:World)=>∀(y16:Nat->Value),([]:List Df)=[]/\S l14 w15) fun(l17:List PanicEntry) (w18:World)=>∀(y19:Nat->Value),([]:List Df)=[]/\S l17 w18
theorem F57_ok(t0:Option Addr)(t1:Int×Int×Int×Int×Int×Int×Int×Int×Int)(w:World)(R:RV)(S:List PanicEntry->World->Prop)(h:F57 t0 t1 w R S):CP Tryz.prog 57 #[Value.pointer t0,(.agg (lC66 t1).toArray)] w R S:=
 call_ofS tbOk mixed en57 Tryz.func57 rfl (.node (.nil) (.draw (.st 0 (.st 1 (.st 2 (.st 3 (.st 5 (.st 6 (.st 7 (.st 8 (.st 9 (.st 10 (.st 11 (.ac 4 [11,10,9,8,7,6,5,0] (.st 12 (.ac 13 [] (.fin) (.non))) (.non))))))))))))))) (by kernel_rfl) (Nat.le_of_ble_eq_true (by kernel_rfl)) (Eq.mp (α:=F57 t0 t1 w R S) (by kernel_rfl) h)
def F58(t0:Option Addr)(t1:Int×Int×Int×Int×Int×Int×Int×Int×Int)(w:World)(R:RV)(S:List PanicEntry->World->Prop):Prop:=AllocP w (Obj.cells (lC66 t1).toArray 66) fun b1 w2=>∃(x3:Int×Int),CellsAt w2 b1 (0+4) [Qz x3.1,Qz x3.2]/\CXS Tryz.prog 103 #[Value.pointer t0,Value.agg #[Qz x3.1,Qz x3.2]] w2 (fun v4 w5=>∃n6:Int,v4=Qz n6/\CXS Tryz.prog 107 #[Value.pointer t0,Value.agg #[Qz n6,Value.bool true,Qz 0]] w5 (fun v7 w8=>∃y9:Unit,v7=Value.tuple #[]/\R (Value.tuple #[]) w8) fun(l10:List PanicEntry) (w11:World)=>([]:List Df)=[]/\S l10 w11) fun(l12:List PanicEntry) (w13:World)=>([]:List Df)=[]/\S l12 w13
theorem F58_ok(t0:Option Addr)(t1:Int×Int×Int×Int×Int×Int×Int×Int×Int)(w:World)(R:RV)(S:List PanicEntry->World->Prop)(h:F58 t0 t1 w R S):CP Tryz.prog 58 #[Value.pointer t0,(.agg (lC66 t1).toArray)] w R S:=
 call_ofS tbOk mixed en58 Tryz.func58 rfl (.nil) (by kernel_rfl) (Nat.le_of_ble_eq_true (by kernel_rfl)) (Eq.mp (α:=F58 t0 t1 w R S) (by kernel_rfl) h)
def F59j1(t0:Option Addr)(R:RV)(S:List PanicEntry->World->Prop)(b1:Nat)(s21:Sl)(y22:Nat->Int×Int->World->Prop)(b24:Nat)(x25:Int×Int)(w26:World):Prop:=IfB (decide (x25.snd<(s21.n:Int))) (Qx s21.1 x25.2 (s21.2:Int) fun b29 b30=>Qi w26 b29 (b30+x25.2.toNat) fun n31=>CXS Tryz.prog 106 #[Value.pointer t0,Qz n31] w26 (fun v32 w33=>∃(x34:Int×Bool),v32=Value.tuple #[Qz x34.1,Value.bool x34.2]/\IfB x34.2 (([]:List Df)=[]/\∃b35:Nat,b35<b24/\y22 b35 (IntKind.i64.wrap (x25.1+1),IntKind.i64.wrap (x25.2+1)) w33) (([]:List Df)=[]/\∃b36:Nat,b36<b24/\y22 b36 (x25.1,IntKind.i64.wrap (x25.2+1)) w33)) fun(l37:List PanicEntry) (w38:World)=>([]:List Df)=[]/\S l37 w38) (Qi w26.drew b1 (0+1) fun n39=>Qx t0 n39 ((4:Nat):Int) fun b40 b41=>#[Qz x25.1].size=1/\StoreP w26.drew b40 (b41+1+n39.toNat) [Qz x25.1] fun w42=>R (Value.tuple #[]) w42)
def F59(t0:Option Addr)(t1:Int×Int×Int×Int×Int×Int×Int×Int×Int)(w:World)(R:RV)(S:List PanicEntry->World->Prop):Prop:=AllocP w (Obj.cells (lC66 t1).toArray 66) fun b1 w2=>∃(x3:Int×Int),CellsAt w2.drew b1 (0+4) [Qz x3.1,Qz x3.2]/\∃(x4:Int×Int),CellsAt w2.drew b1 (0+6) [Qz x4.1,Qz x4.2]/\CXS Tryz.prog 103 #[Value.pointer t0,Value.agg #[Qz x3.1,Qz x3.2]] w2.drew (fun v5 w6=>∃n7:Int,v5=Qz n7/\CellsAt w6 b1 (0+6) [Qz x4.1,Qz x4.2]/\CXS Tryz.prog 103 #[Value.pointer t0,Value.agg #[Qz x4.1,Qz x4.2]] w6 (fun v8 w9=>∃n10:Int,v8=Qz n10/\1*2<=16777216/\AllocP w9 (Obj.cells #[Qz n7,Qz n10] 71) fun b11 w12=>CXS Tryz.prog 108 #[Value.slice (some ⟨b11,0,none⟩) 1 1] w12 (fun v13 w14=>∃s15:Sl,v13=Qy s15/\CXS Tryz.prog 104 #[Value.pointer t0,Qy s15] w14 (fun v16 w17=>∃y18:Unit,v16=Value.tuple #[]/\CXS Tryz.prog 109 #[Qy s15] w17 (fun v19 w20=>∃s21:Sl,v19=Qy s21/\Ql (α:=Int×Int) (0,0) w20 fun y22 b24 x25 w26=>(F59j1 t0 R S b1 s21 y22 b24 x25 w26)) fun(l43:List PanicEntry) (w44:World)=>([]:List Df)=[]/\S l43 w44) fun(l45:List PanicEntry) (w46:World)=>([]:List Df)=[]/\S l45 w46) fun(l47:List PanicEntry) (w48:World)=>∀(y49:Nat->Value),([]:List Df)=[]/\S l47 w48) fun(l50:List PanicEntry) (w51:World)=>∀(y52:Nat->Value),([]:List Df)=[]/\S l50 w51) fun(l53:List PanicEntry) (w54:World)=>∀(y55:Nat->Value),([]:List Df)=[]/\S l53 w54
theorem F59_ok(t0:Option Addr)(t1:Int×Int×Int×Int×Int×Int×Int×Int×Int)(w:World)(R:RV)(S:List PanicEntry->World->Prop)(h:F59 t0 t1 w R S):CP Tryz.prog 59 #[Value.pointer t0,(.agg (lC66 t1).toArray)] w R S:=
 call_ofS tbOk mixed en59 Tryz.func59 rfl (.node (.nil) (.node (.draw (.st 0 (.st 1 (.st 2 (.st 4 (.st 5 (.st 6 (.ac 3 [6,5,4] (.ac 7 [] (.st 8 (.ac 9 [] (.ac 10 [] (.st 11 (.fin)) (.non)) (.non))) (.non)) (.non))))))))) (.node (.nil) (.node (.nil) (.node (.node (.nil) (.loop [(5,.one (.int .i64)),(27,.one (.int .i64))] [28,29,30,7,32,33,34,31,35,36,8,9,37,38,39,5,40,27] (.nil))) (.draw (.st 0 (.st 1 (.st 2 (.st 3 (.st 4 (.st 5 (.st 6 (.ac 7 [] (.fin) (.non))))))))))))))) (by kernel_rfl) (Nat.le_of_ble_eq_true (by kernel_rfl)) (Eq.mp (α:=F59 t0 t1 w R S) (by kernel_rfl) h)
def F61(t0:Option Addr)(t1:Int×Int×Int×Int×Int×Int×Int×Int×Int)(w:World)(R:RV)(S:List PanicEntry->World->Prop):Prop:=AllocP w (Obj.cells (lC66 t1).toArray 66) fun b1 w2=>Qi w2.drew b1 (0+2) fun n3=>Qx t0 n3 ((4:Nat):Int) fun b4 b5=>Qi w2.drew b4 (b5+1+n3.toNat) fun n6=>Qi w2.drew b1 (0+3) fun n7=>Qx t0 n7 ((4:Nat):Int) fun b8 b9=>Qi w2.drew b8 (b9+1+n7.toNat) fun n10=>IfB (!decide (n6<IntKind.i64.wrap (n6+n10)) == decide (0<n10)) (CXS Tryz.prog 110 #[Qz 8] w2.drew (fun v11 w12=>∃y13:Unit,v11=Value.tuple #[]/\Qi w12.drew b1 (0+1) fun n14=>Qx t0 n14 ((4:Nat):Int) fun b15 b16=>#[Qz (IntKind.i64.wrap (n6+n10))].size=1/\StoreP w12.drew b15 (b16+1+n14.toNat) [Qz (IntKind.i64.wrap (n6+n10))] fun w17=>R (Value.tuple #[]) w17) fun(l18:List PanicEntry) (w19:World)=>([]:List Df)=[]/\S l18 w19) (∃n20:Int,w2.drew.drew.cell? ⟨b1,0+1,none⟩=some (Qz n20)/\Qx t0 n20 ((4:Nat):Int) fun b21 b22=>#[Qz (IntKind.i64.wrap (n6+n10))].size=1/\StoreP w2.drew.drew b21 (b22+1+n20.toNat) [Qz (IntKind.i64.wrap (n6+n10))] fun w23=>R (Value.tuple #[]) w23)
theorem F61_ok(t0:Option Addr)(t1:Int×Int×Int×Int×Int×Int×Int×Int×Int)(w:World)(R:RV)(S:List PanicEntry->World->Prop)(h:F61 t0 t1 w R S):CP Tryz.prog 61 #[Value.pointer t0,(.agg (lC66 t1).toArray)] w R S:=
 call_ofS tbOk mixed en61 Tryz.func61 rfl (.node (.nil) (.node (.draw (.st 0 (.st 1 (.st 2 (.st 3 (.st 4 (.st 5 (.st 6 (.st 7 (.st 8 (.st 9 (.st 10 (.st 11 (.st 12 (.st 13 (.st 14 (.st 15 (.fin)))))))))))))))))) (.node (.nil) (.node (.nil) (.draw (.st 0 (.st 1 (.st 2 (.st 3 (.st 4 (.st 5 (.st 6 (.ac 7 [] (.fin) (.non)))))))))))))) (by kernel_rfl) (Nat.le_of_ble_eq_true (by kernel_rfl)) (Eq.mp (α:=F61 t0 t1 w R S) (by kernel_rfl) h)
def F62(t0:Option Addr)(t1:Int×Int×Int×Int×Int×Int×Int×Int×Int)(w:World)(R:RV)(S:List PanicEntry->World->Prop):Prop:=AllocP w (Obj.cells (lC66 t1).toArray 66) fun b1 w2=>Qi w2.drew b1 (0+2) fun n3=>Qx t0 n3 ((4:Nat):Int) fun b4 b5=>Qi w2.drew b4 (b5+1+n3.toNat) fun n6=>Qi w2.drew b1 (0+3) fun n7=>Qx t0 n7 ((4:Nat):Int) fun b8 b9=>Qi w2.drew b8 (b9+1+n7.toNat) fun n10=>IfB (!decide (IntKind.i64.wrap (n6-n10)<n6) == decide (0<n10)) (CXS Tryz.prog 110 #[Qz 8] w2.drew (fun v11 w12=>∃y13:Unit,v11=Value.tuple #[]/\Qi w12.drew b1 (0+1) fun n14=>Qx t0 n14 ((4:Nat):Int) fun b15 b16=>#[Qz (IntKind.i64.wrap (n6-n10))].size=1/\StoreP w12.drew b15 (b16+1+n14.toNat) [Qz (IntKind.i64.wrap (n6-n10))] fun w17=>R (Value.tuple #[]) w17) fun(l18:List PanicEntry) (w19:World)=>([]:List Df)=[]/\S l18 w19) (∃n20:Int,w2.drew.drew.cell? ⟨b1,0+1,none⟩=some (Qz n20)/\Qx t0 n20 ((4:Nat):Int) fun b21 b22=>#[Qz (IntKind.i64.wrap (n6-n10))].size=1/\StoreP w2.drew.drew b21 (b22+1+n20.toNat) [Qz (IntKind.i64.wrap (n6-n10))] fun w23=>R (Value.tuple #[]) w23)
theorem F62_ok(t0:Option Addr)(t1:Int×Int×Int×Int×Int×Int×Int×Int×Int)(w:World)(R:RV)(S:List PanicEntry->World->Prop)(h:F62 t0 t1 w R S):CP Tryz.prog 62 #[Value.pointer t0,(.agg (lC66 t1).toArray)] w R S:=
 call_ofS tbOk mixed en62 Tryz.func62 rfl (.node (.nil) (.node (.draw (.st 0 (.st 1 (.st 2 (.st 3 (.st 4 (.st 5 (.st 6 (.st 7 (.st 8 (.st 9 (.st 10 (.st 11 (.st 12 (.st 13 (.st 14 (.st 15 (.fin)))))))))))))))))) (.node (.nil) (.node (.nil) (.draw (.st 0 (.st 1 (.st 2 (.st 3 (.st 4 (.st 5 (.st 6 (.ac 7 [] (.fin) (.non)))))))))))))) (by kernel_rfl) (Nat.le_of_ble_eq_true (by kernel_rfl)) (Eq.mp (α:=F62 t0 t1 w R S) (by kernel_rfl) h)
def F63(t0:Option Addr)(t1:Int×Int×Int×Int×Int×Int×Int×Int×Int)(w:World)(R:RV)(S:List PanicEntry->World->Prop):Prop:=AllocP w (Obj.cells (lC66 t1).toArray 66) fun b1 w2=>Qi w2.drew b1 (0+1) fun n3=>Qx t0 n3 ((4:Nat):Int) fun b4 b5=>Qi w2.drew b4 (b5+1+n3.toNat) fun n6=>Qi w2.drew b1 (0+8) fun n7=>IfB (decide (n6<n7)) (CXS Tryz.prog 110 #[Qz 7] w2.drew (fun v8 w9=>∃y10:Unit,v8=Value.tuple #[]/\R (Value.tuple #[]) w9) fun(l11:List PanicEntry) (w12:World)=>([]:List Df)=[]/\S l11 w12) (R (Value.tuple #[]) w2.drew)
theorem F63_ok(t0:Option Addr)(t1:Int×Int×Int×Int×Int×Int×Int×Int×Int)(w:World)(R:RV)(S:List PanicEntry->World->Prop)(h:F63 t0 t1 w R S):CP Tryz.prog 63 #[Value.pointer t0,(.agg (lC66 t1).toArray)] w R S:=
 call_ofS tbOk mixed en63 Tryz.func63 rfl (.node (.nil) (.node (.draw (.st 0 (.st 1 (.st 2 (.st 3 (.st 4 (.st 5 (.st 6 (.st 7 (.st 8 (.st 9 (.fin)))))))))))) (.nil))) (by kernel_rfl) (Nat.le_of_ble_eq_true (by kernel_rfl)) (Eq.mp (α:=F63 t0 t1 w R S) (by kernel_rfl) h)
def F14k3(s37:Sl)(n41:Int)(w42:World)(b19:Nat)(b34:Nat)(b26:Nat)(b5:Nat)(b9:Nat)(b40:Nat)(y38:Nat->Int->World->Prop)(S:Deferred->Option (List PanicEntry)->World->(World->Prop)->Prop)(R:RV):Prop:=Qx s37.1 n41 (s37.2:Int) fun b45 b46=>∃(x47:Int×Int×Int×Int×Int×Int×Int×Int×Int),CellsAt w42 b45 (b46+n41.toNat*9) (lC66 x47)/\AllocP w42 (Obj.cells #[Qz 0,Qz 0,Qz 0,Qz 0,Qz 0,Qz 0,Qz 0,Qz 0,Qz 0] 66) fun b48 w49=>(lC66 x47).toArray.size=9/\StoreP w49 b48 0 (lC66 x47) fun w50=>#[Qz n41].size=1/\StoreP w50 b19 0 [Qz n41] fun w51=>Qi w51.drew b48 (0+0) fun n52=>(0<=n52/\n52<((9:Nat):Int))/\∃(x53:Nat×Array Value),w51.drew.cell? ⟨b34,0+n52.toNat,none⟩=some (Value.func (Fn.func x53.1) #[] x53.2)/\∃(x54:Int×Int×Int×Int×Int×Int×Int×Int×Int),CellsAt w51.drew b48 0 (lC66 x54)/\CXS Tryz.prog x53.1 { toList:=Value.pointer (some ⟨b26,0,none⟩)::(.agg (lC66 x54).toArray)::x53.snd.1 } w51.drew (fun v55 w56=>∃y57:Unit,v55=Value.tuple #[]/\[Df.fn { target:=Target.fn (Fn.func 29) #[Value.pointer (some ⟨b19,0,none⟩),Value.pointer (some ⟨b5,0,none⟩),Value.pointer (some ⟨b9,0,none⟩)],args:=#[] }]=[Df.fn { target:=Target.fn (Fn.func 29) #[Value.pointer (some ⟨b19,0,none⟩),Value.pointer (some ⟨b5,0,none⟩),Value.pointer (some ⟨b9,0,none⟩)],args:=#[] }]/\∃b58:Nat,b58<b40/\y38 b58 (IntKind.i64.wrap (n41+1)) w56) fun(l59:List PanicEntry) (w60:World)=>∀(y61:Nat->Value),S { target:=Target.fn (Fn.func 29) #[Value.pointer (some ⟨b19,0,none⟩),Value.pointer (some ⟨b5,0,none⟩),Value.pointer (some ⟨b9,0,none⟩)],args:=#[] } (some l59) w60 fun w62=>∃(x63:Int×Int×Int×Int×Int×Int×Sl×Sl×Sl),CellsAt w62 b9 0 (lC27 x63)/\R (Value.agg (lC27 x63).toArray) w62
def F14k2(b26:Nat)(w42:World)(b9:Nat)(S:Deferred->Option (List PanicEntry)->World->(World->Prop)->Prop)(b19:Nat)(b5:Nat)(R:RV):Prop:=CXS Tryz.prog 33 #[Value.pointer (some ⟨b26,0,none⟩)] w42 (fun v64 w65=>∃(x66:Int×Int×Int×Int×Int×Int×Sl×Sl×Sl),v64=Value.agg (lC27 x66).toArray/\(lC27 x66).toArray.size=9/\StoreP w65 b9 0 (lC27 x66) fun w67=>S { target:=Target.fn (Fn.func 29) #[Value.pointer (some ⟨b19,0,none⟩),Value.pointer (some ⟨b5,0,none⟩),Value.pointer (some ⟨b9,0,none⟩)],args:=#[] } none w67 fun w68=>∃(x69:Int×Int×Int×Int×Int×Int×Sl×Sl×Sl),CellsAt w68 b9 0 (lC27 x69)/\R (Value.agg (lC27 x69).toArray) w68) fun(l70:List PanicEntry) (w71:World)=>S { target:=Target.fn (Fn.func 29) #[Value.pointer (some ⟨b19,0,none⟩),Value.pointer (some ⟨b5,0,none⟩),Value.pointer (some ⟨b9,0,none⟩)],args:=#[] } (some l70) w71 fun w72=>∃(x73:Int×Int×Int×Int×Int×Int×Sl×Sl×Sl),CellsAt w72 b9 0 (lC27 x73)/\R (Value.agg (lC27 x73).toArray) w72
def F14j1(R:RV)(S:Deferred->Option (List PanicEntry)->World->(World->Prop)->Prop)(b5:Nat)(b9:Nat)(b19:Nat)(b26:Nat)(b34:Nat)(s37:Sl)(y38:Nat->Int->World->Prop)(b40:Nat)(n41:Int)(w42:World):Prop:=IfB (decide (n41<(s37.n:Int))) (F14k3 s37 n41 w42 b19 b34 b26 b5 b9 b40 y38 S R) (F14k2 b26 w42 b9 S b19 b5 R)
def F14k1(w14:World)(b3:Nat)(b5:Nat)(t3:Option Addr)(b7:Nat)(b1:Nat)(R:RV)(S:Deferred->Option (List PanicEntry)->World->(World->Prop)->Prop)(b9:Nat):Prop:=AllocP w14 (Obj.cells #[Qz 0] 3) fun b19 w20=>#[Qz 0].size=1/\StoreP w20 b19 0 [Qz 0] fun w21=>Qs w21 b3 0 fun s22=>∃(x23:Int×Int×Int×Int),CellsAt w21 b5 0 [Qz x23.1,Qz x23.snd.1,Qz x23.snd.snd.1,Qz x23.snd.snd.2]/\AllocP w21 (Obj.map #[] 0) fun b24 w25=>AllocP w25 (Obj.cells #[Qy s22,Qz x23.1,Qz x23.snd.1,Qz x23.snd.snd.1,Qz x23.snd.snd.2,Value.pointer t3,Value.nilFunc,Value.slice none 0 0,Value.slice none 0 0,Value.map (some b24)] 82) fun b26 w27=>∃b28:Nat,∃b29:Nat,(some ⟨b26,0,none⟩:Option Addr)=some ⟨b28,b29,none⟩/\#[Value.func (Fn.func 30) #[] #[Value.pointer (some ⟨b7,0,none⟩),Value.pointer (some ⟨b1,0,none⟩),Value.pointer (some ⟨b3,0,none⟩)]].size=1/\StoreP w27 b28 (b29+6) [Value.func (Fn.func 30) #[] #[Value.pointer (some ⟨b7,0,none⟩),Value.pointer (some ⟨b1,0,none⟩),Value.pointer (some ⟨b3,0,none⟩)]] fun w30=>CXS Tryz.prog 32 #[] w30 (fun v31 w32=>∃(l33:List Value),v31=Value.agg { toList:=l33 }/\AllocP w32 (Obj.cells #[Value.nilFunc,Value.nilFunc,Value.nilFunc,Value.nilFunc,Value.nilFunc,Value.nilFunc,Value.nilFunc,Value.nilFunc,Value.nilFunc] 85) fun b34 w35=>(Array.mk (l33 )).size=9/\StoreP w35 b34 0 l33 fun w36=>Qs w36 b1 (0+0) fun s37=>Ql (α:=Int) 0 w36 fun y38 b40 n41 w42=>(F14j1 R S b5 b9 b19 b26 b34 s37 y38 b40 n41 w42)) fun(l74:List PanicEntry) (w75:World)=>S { target:=Target.fn (Fn.func 29) #[Value.pointer (some ⟨b19,0,none⟩),Value.pointer (some ⟨b5,0,none⟩),Value.pointer (some ⟨b9,0,none⟩)],args:=#[] } (some l74) w75 fun w76=>∃(x77:Int×Int×Int×Int×Int×Int×Sl×Sl×Sl),CellsAt w76 b9 0 (lC27 x77)/\R (Value.agg (lC27 x77).toArray) w76
def F14(t0:Sl×Sl)(t1:Sl)(t2:Int×Int×Int×Int)(t3:Option Addr)(t4:Bool)(w:World)(R:RV)(S:Deferred->Option (List PanicEntry)->World->(World->Prop)->Prop):Prop:=AllocP w (Obj.cells #[Qy t0.fst,Qy t0.snd] 36) fun b1 w2=>AllocP w2 (Obj.cells #[Qy t1] 37) fun b3 w4=>AllocP w4 (Obj.cells #[Qz t2.1,Qz t2.snd.1,Qz t2.snd.snd.1,Qz t2.snd.snd.2] 23) fun b5 w6=>AllocP w6 (Obj.cells #[Value.bool t4] 4) fun b7 w8=>AllocP w8 (Obj.cells #[Qz 0,Qz 0,Qz 0,Qz 0,Qz 0,Qz 0,Value.slice none 0 0,Value.slice none 0 0,Value.slice none 0 0] 27) fun b9 w10=>∃(x11:Sl×Sl),CellsAt w10 b1 0 [Qy x11.fst,Qy x11.snd]/\Qs w10 b3 0 fun s12=>CXS Tryz.prog 28 #[Value.agg #[Qy x11.fst,Qy x11.snd],Qy s12] w10 (fun v13 w14=>∃t15:Bool,v13=Value.bool t15/\IfB (!t15) (∃(x16:Int×Int×Int×Int),CellsAt w14 b5 0 [Qz x16.1,Qz x16.snd.1,Qz x16.snd.snd.1,Qz x16.snd.snd.2]/\#[Qz 1,Qz 0,Qz x16.1,Qz x16.snd.1,Qz x16.snd.snd.1,Qz x16.snd.snd.2,Value.slice none 0 0,Value.slice none 0 0,Value.slice none 0 0].size=9/\StoreP w14 b9 0 [Qz 1,Qz 0,Qz x16.1,Qz x16.snd.1,Qz x16.snd.snd.1,Qz x16.snd.snd.2,Value.slice none 0 0,Value.slice none 0 0,Value.slice none 0 0] fun w17=>∃(x18:Int×Int×Int×Int×Int×Int×Sl×Sl×Sl),CellsAt w17 b9 0 (lC27 x18)/\R (Value.agg (lC27 x18).toArray) w17) (F14k1 w14 b3 b5 t3 b7 b1 R S b9)) fun(l78:List PanicEntry) (w79:World)=>False
theorem F14_ok(t0:Sl×Sl)(t1:Sl)(t2:Int×Int×Int×Int)(t3:Option Addr)(t4:Bool)(w:World)(R:RV)(S:Deferred->Option (List PanicEntry)->World->(World->Prop)->Prop)(hS:DoorOk Tryz.prog S)(h:F14 t0 t1 t2 t3 t4 w R S):Cw 14 #[Value.agg #[Qy t0.fst,Qy t0.snd],Qy t1,Value.agg #[Qz t2.1,Qz t2.snd.1,Qz t2.snd.snd.1,Qz t2.snd.snd.2],Value.pointer t3,Value.bool t4] w R:=
 call_ofDr tbOk mixed en14 Tryz.func14 rfl (.node (.nil) (.node (.nil) (.node (.nil) (.node (.nil) (.node (.nil) (.node (.nil) (.node (.nil) (.node (.node (.nil) (.loop [(37,.one (.int .i64))] [38,39,40,41,15,14,42,43,44,45,46,47,48,49,50,37] (.node (.nil) (.node (.nil) (.node (.node (.nil) (.node (.nil) (.draw (.st 0 (.st 1 (.st 2 (.st 3 (.st 4 (.st 5 (.ac 6 [] (.fin) (.non))))))))))) (.nil)))))) (.nil))))))))) (by kernel_rfl) (Nat.le_of_ble_eq_true (by kernel_rfl)) hS (Eq.mp (α:=F14 t0 t1 t2 t3 t4 w R S) (by kernel_rfl) h)
theorem und20:∃ms,Tryz.prog.underlying 20=some (.interface ms)/\ms.isEmpty=true:=by
 have h:((Tryz.prog.underlying 20).map fun | .interface ms=>ms.isEmpty|_=>false)=some true:=by kernel_rfl
 cases hd:Tryz.prog.underlying 20 with
 | none=>rw[hd] at h;cases h
 | some d=>rw[hd] at h;cases d<;>first|exact⟨_,rfl,by simpa using h⟩|(simp at h)
theorem eqNil:EqAt Tryz.prog 20 .nilIface .nilIface true:=by
 obtain⟨ms,hd,hm⟩:=und20
 refine eqAt_of (fun n w=>by simp[Op.equalIn,run_underlying_of hd]) rfl rfl fun op xo yo w=>?_
 have e:(Op.eqGuardIn Op.maxDepth 20 .nilIface .nilIface).run Tryz.prog w=.ok false w:=by
  unfold Op.maxDepth Op.eqGuardIn
  simp[run_underlying_of hd,hm]
 unfold eqGuard
 cases op<;>simp[e]<;>(split<;>simp[e])
theorem eqErr(t:TypeId)(v:Value):EqAt Tryz.prog 20 (.iface t v) .nilIface false:=by
 obtain⟨ms,hd,hm⟩:=und20
 refine eqAt_of (fun n w=>by simp[Op.equalIn,run_underlying_of hd]) rfl rfl fun op xo yo w=>?_
 unfold eqGuard
 cases op<;>simp
abbrev errV(e:Int):Value:=.iface 77 (.agg #[.int .i64 e])
def retC(R:RV):Post
 | .normal,_,ds,w=>ds=[]/\R (.tuple #[]) w
 | .ret,_,ds,w=>ds=[]/\R (.tuple #[]) w
 | _,_,_,_=>False
def H29(b19 b5 b9:Nat)(e:Int)(w:World)(R:RV):Prop:=
 ∃t1:Bool,EqAt Tryz.prog 20 (errV e) .nilIface t1/\IfB (!t1)
  ((77:Nat)=77/\AllocP w (.cells #[.int .i64 0] 77) fun(b2:Nat) (w3:World)=>(#[Value.int .i64 e]).size=1/\StoreP w3 b2 0 [.int .i64 e] fun(w4:World)=>
   IfB (!true) False
    (∃n5:Int,w4.cell? ⟨b2,0+0,none⟩=some (.int .i64 n5)/\∃n6:Int,w4.cell? ⟨b19,0,none⟩=some (.int .i64 n6)/\∃x7:Int×Int×Int×Int,
     CellsAt w4 b5 0 [.int .i64 x7.1,.int .i64 x7.2.1,.int .i64 x7.2.2.1,.int .i64 x7.2.2.2]/\
     (#[Value.int .i64 n5,.int .i64 n6,.int .i64 x7.1,.int .i64 x7.2.1,.int .i64 x7.2.2.1,.int .i64 x7.2.2.2,.slice none 0 0,.slice none 0 0,.slice none 0 0]).size=9/\
     StoreP w4 b9 0 [.int .i64 n5,.int .i64 n6,.int .i64 x7.1,.int .i64 x7.2.1,.int .i64 x7.2.2.1,.int .i64 x7.2.2.2,.slice none 0 0,.slice none 0 0,.slice none 0 0] fun(w8:World)=>([]:List Df)=[]/\R (.tuple #[]) w8))
  (([]:List Df)=[]/\R (.tuple #[]) w)
def H29n(w:World)(R:RV):Prop:=∃t1:Bool,EqAt Tryz.prog 20 .nilIface .nilIface t1/\IfB (!t1) False (([]:List Df)=[]/\R (.tuple #[]) w)
abbrev pB(b:Nat):Value:=.pointer (some ⟨b,0,none⟩)
abbrev fr29(b19 b5 b9:Nat)(v:Value):Fr:=put (put (argFr 0 [pB b19,pB b5,pB b9]) (some 6) v) (some 3) v
theorem H29_ok{b19 b5 b9:Nat}{e:Int}{w:World}{R:RV}(h:H29 b19 b5 b9 e w R):
  exS Tryz.prog tb 22 none (codeAt [1] (bodyOf Tryz.f29)) .nil (retC R) (fr29 b19 b5 b9 (errV e)) [] w:=Eq.mp (α:=H29 b19 b5 b9 e w R) (by kernel_rfl) h
theorem H29n_ok{b19 b5 b9:Nat}{w:World}{R:RV}(h:H29n w R):
  exS Tryz.prog tb 22 none (codeAt [1] (bodyOf Tryz.f29)) .nil (retC R) (fr29 b19 b5 b9 .nilIface) [] w:=Eq.mp (α:=H29n w R) (by kernel_rfl) h
theorem okC29:okC tb 22 (codeAt [1] (bodyOf Tryz.f29)) .nil=true:=by kernel_rfl
theorem wpS_recover{id:Nat}{o0 o1:Oper}{d0 d1:Nat}{ty:Array TypeId}(h0:o0.op=.call ⟨.builtin .recover,#[],ty⟩)(e0:o0.dst=some d0)(g0:o0.guard=none)(h1:o1.op=.assign (.tmp d0))(e1:o1.dst=some d1)(g1:o1.guard=none)
  {P:Program}{Q:Exit->Act->List Frame->World->Prop}{a:Act}{cs cs':List Frame}{w:World}{v:Value}(hd:d0<a.tmps.size)(hr:recoverD cs=some (v,cs')\/(recoverD cs=none/\v=.nilIface/\cs'=cs))
  (h:Q .normal ((a.put (some d0) v).put (some d1) v) cs' w):(Code.region id #[o0,o1] false).wpSIn Fence.wide 0 P Q a cs w:=by
 refine wpSIn_region ?_
 show wpOpsSIn Fence.wide 0 P #[o0,o1] Q [0,1] a cs w
 have w0:∀(o:Oper)(t:Array Value),o.guard=none->Region.wanted o (yielded #[o0,o1] t)=true:=fun o t h=>by unfold Region.wanted;rw[h]
 have x0:(execOp a.eval o0).run P w=.ok .recover w:=by
  obtain⟨dst,op,tt,pos,after,guard⟩:=o0
  dsimp only at h0;subst h0
  simp[execOp,resolve,invoke,builtin]
 have x1:∀cs':List Frame,Q .normal ((a.put (some d0) v).put (some d1) v) cs' w->wpOpsSIn Fence.wide 0 P #[o0,o1] Q [1] (a.put (some d0) v) cs' w:=fun cs' h=>by
  have e:(execOp (a.put (some d0) v).eval o1).run P w=.ok (.value v) w:=by
   have ev:(a.put (some d0) v).eval (.tmp d0)=v:=by simp[Act.put,Act.eval,hd]
   obtain⟨dst,op,tt,pos,after,guard⟩:=o1
   dsimp only at h1;subst h1
   simp[execOp,ev]
  unfold wpOpsSIn
  rw[show (#[o0,o1])[1]? =some o1 from rfl]
  refine⟨fun _ _=>trivial,?_⟩
  rw[w0 o1 _ g1,if_pos rfl,e,e1]
  exact h
 unfold wpOpsSIn
 rw[show (#[o0,o1])[0]? =some o0 from rfl]
 refine⟨fun _ _=>trivial,?_⟩
 rw[w0 o0 _ g0,if_pos rfl,x0,e0]
 rcases hr with hr|⟨hr,rfl,rfl⟩
 ·dsimp only
  rw[hr]
  exact x1 _ h
 ·dsimp only
  rw[hr]
  exact x1 _ h
theorem door29{b19 b5 b9:Nat}{u u':FrameMode}{v:Value}{w:World}{R:RV}
  (hu:∀(c:Frame)(cs:List Frame),c.mode=u->recoverD (c::cs)=some (v,{ c with mode:=u' }::cs)\/(recoverD (c::cs)=none/\v=.nilIface/\u'=u))
  (h:exS Tryz.prog tb 22 none (codeAt [1] (bodyOf Tryz.f29)) .nil (retC R) (fr29 b19 b5 b9 v) [] w):
  CallsDIn Fence.wide 0 Tryz.prog 29 #[pB b19,pB b5,pB b9] u w fun e u'' w'=>∃r,e=.returned r/\u''=u'/\R r w':=by
 refine callsDIn_of_wpSIn Tryz.func29 rfl trivial (fun c₀ cs hc=>?_)
 refine wpSIn_seq ?_
 have hR0:=rel0 (N:=22) (args:=#[pB b19,pB b5,pB b9]) (Nat.le_of_ble_eq_true rfl)
 have hR1:=(hR0.put (d:=some 6) (fun e he=>by cases he;decide) v).put (d:=some 3) (fun e he=>by cases he;decide) v
 have hr:recoverD (c₀::cs)=some (v,{ c₀ with mode:=u' }::cs)\/(recoverD (c₀::cs)=none/\v=.nilIface/\({ c₀ with mode:=u' }::cs:List Frame)=c₀::cs):=by
  rcases hu c₀ cs hc with h|⟨h1,h2,h3⟩
  ·exact .inl h
  ·exact .inr ⟨h1,h2,by rw[h3,<-hc]⟩
 refine wpS_recover (d0:=6) (d1:=3) rfl rfl rfl rfl rfl rfl ?_ hr ?_
 ·rw[show Tryz.f29.ntmps=22 from rfl,hR0.size];decide
 refine wpSIn_of_wpIn rfl ?_
 refine wpIn_mono (F:=fz none) (exS_sound tbOk mixed _ .nil _ _ [] w okC29 h _ hR1) ?_
 rintro e a' w' ⟨f',ds',hR',_,hq⟩
 have fin:ds'=[]->R (.tuple #[]) w'->bodyPostS Tryz.prog Tryz.f29 c₀ cs (fun e u'' w'=>∃r,e=.returned r/\u''=u'/\R r w') .ret a' ({ c₀ with mode:=u' }::cs) w':=fun hd h=>by
  obtain⟨r,hK,hr⟩:=results_run (P:=Tryz.prog) tbOk hR'.val (w:=w') (fn:=Tryz.f29) (K:=fun r=>R r w') h
  exact⟨by rw[hR'.defers,hd];rfl,u',rfl,r,hr,r,rfl,rfl,hK⟩
 cases e with
 | normal=>exact fin hq.1 hq.2
 | ret=>exact fin hq.1 hq.2
 | exit _=>exact hq.elim
 | goto _=>exact hq.elim
 | panic ch=>exact hq.elim
 | outgrown=>exact hq.elim
def DrS(d:Deferred)(m:Option (List PanicEntry))(w:World)(K:World->Prop):Prop:=
 ∃b19 b5 b9:Nat,d={ target:=.fn (.func 29) #[pB b19,pB b5,pB b9],args:=#[] }/\match m with
  | none=>K w
  | some ch=>∃e:Int,ch=[{ v:=errV e,recovered:=false }]/\H29 b19 b5 b9 e w fun _ w'=>K w'
theorem drS_ok:DoorOk Tryz.prog DrS:=by
 intro d m w K fn tmps R h hK
 obtain⟨b19,b5,b9,rfl,h⟩:=h
 have hinv:∀w,(invoke (.fn (.func 29) #[pB b19,pB b5,pB b9]) #[]).run Tryz.prog w=.ok (.enter 29 #[pB b19,pB b5,pB b9]) w:=fun w=>by
  have:=en29 #[pB b19,pB b5,pB b9] w
  first|(simp [invoke];done)|simpa [invoke] using this
 cases m with
 | none=>
  refine⟨by simp[doorM],.inr ⟨(fun h=>by cases h),_,_,_,_,rfl,hinv w,fun _ _=>trivial,?_⟩⟩
  refine(door29 (u:=.returning) (u':=.returning) (v:=.nilIface) (R:=fun _ w'=>K w') (fun c cs hc=>.inr ⟨by simp[recoverD,hc],rfl,rfl⟩) (H29n_ok ⟨true,eqNil,IfB.no rfl ⟨rfl,h⟩⟩)).mono ?_
  rintro e u' w' ⟨r,rfl,rfl,hk⟩
  exact hK w' hk
 | some ch=>
  obtain⟨e,rfl,h⟩:=h
  refine⟨by simp[doorM],.inr ⟨(fun h=>by cases h),_,_,_,_,rfl,hinv w,fun _ _=>trivial,?_⟩⟩
  refine(door29 (u:=.panicking [{ v:=errV e,recovered:=false }]) (u':=.panicking [{ v:=errV e,recovered:=true }]) (v:=errV e) (R:=fun _ w'=>K w') (fun c cs hc=>.inl (by simp[recoverD,hc])) (H29_ok h)).mono ?_
  rintro e u' w' ⟨r,rfl,rfl,hk⟩
  exact hK w' hk
structure CxD where
 b1:Nat
 b3:Nat
 b7:Nat
 bS:Nat
 tc:Sl
 tf:Sl
 ta:Sl
 code:List InsD
 foot:List SpTD
 args:List Int
 asked:Bool
 P:List (List Pr)
def CxD.mr(c:CxD)(k:Int):Prop:=c.asked=false\/hasS (footR c.foot c.args) k
def CxD.mw(c:CxD)(k:Int):Prop:=c.asked=false\/hasS (footW c.foot c.args) k
structure StC(n0:Nat)(w:World)(c:CxD):Prop where
 box1:∃T,w.heap[c.b1]? =some (.cells #[slV c.tc,slV c.tf] T (0,0))
 box3:∃T,w.heap[c.b3]? =some (.cells #[slV c.ta] T (0,0))
 box7:∃T,w.heap[c.b7]? =some (.cells #[.bool c.asked] T (0,0))
 l1:c.b1<n0
 l3:c.b3<n0
 l7:c.b7<n0
 code:Rd w c.tc 9 (c.code.flatMap insC)
 lc:0<c.tc.n->∀i∈blk c.tc,i<n0
 foot:Rd w c.tf 5 (c.foot.flatMap spTC)
 lf:0<c.tf.n->∀i∈blk c.tf,i<n0
 args:Rd w c.ta 1 (c.args.map iv)
 la:0<c.ta.n->∀i∈blk c.ta,i<n0
 store:StA (fun i=>i<n0) w c.bS c.P
 inv:Inv c.P
 fok:FootOk c.foot c.args.length
 aok:ArgsOk c.args
theorem StC.ch{n0:Nat}{w w':World}{c:CxD}{F:Nat->Prop}(h:StC n0 w c)(hc:Ch F w w')(hF:∀i,F i->n0<=i):StC n0 w' c:=by
 obtain⟨⟨T1,h1⟩,⟨T3,h3⟩,⟨T7,h7⟩,l1,l3,l7,hcode,lc,hfoot,lf,hargs,la,hst,hi,hf,ha⟩:=h
 have no:∀i,i<n0->¬F i:=fun i hi hf=>by have:=hF i hf;omega
 exact⟨⟨T1,hc.at h1 (no _ l1)⟩,⟨T3,hc.at h3 (no _ l3)⟩,⟨T7,hc.at h7 (no _ l7)⟩,l1,l3,l7,hcode.ch0 hc fun h0 b hb=>no b (lc h0 b hb),lc,hfoot.ch0 hc fun h0 b hb=>no b (lf h0 b hb),lf,hargs.ch0 hc fun h0 b hb=>no b (la h0 b hb),la,hst.ch hc fun i _ hi=>no i hi,hi,hf,ha⟩
theorem StC.mono{n0 n1:Nat}{w:World}{c:CxD}(h:StC n0 w c)(hn:n0<=n1):StC n1 w c:=
 ⟨h.box1,h.box3,h.box7,Nat.lt_of_lt_of_le h.l1 hn,Nat.lt_of_lt_of_le h.l3 hn,Nat.lt_of_lt_of_le h.l7 hn,h.code,fun h0 i hi=>Nat.lt_of_lt_of_le (h.lc h0 i hi) hn,h.foot,fun h0 i hi=>Nat.lt_of_lt_of_le (h.lf h0 i hi) hn,h.args,fun h0 i hi=>Nat.lt_of_lt_of_le (h.la h0 i hi) hn,h.store.mono fun i _ hi=>Nat.lt_of_lt_of_le hi hn,h.inv,h.fok,h.aok⟩
theorem StC.ext{n0:Nat}{w w':World}{c:CxD}(h:StC n0 w c)(e:Ext w w'):StC n0 w' c:=h.ch e fun _ h=>h.elim
abbrev chE(x:ChD):Value:=.agg (lC47 x).toArray
abbrev doC(c:CxD)(bm:Nat)(r:Rg)(tr tw:Sl):List Value:=
 [slV c.ta,.int .i64 r.1,.int .i64 r.2.1,.int .i64 r.2.2.1,.int .i64 r.2.2.2,.pointer (some ⟨c.bS,0,none⟩),.func (.func 30) #[] #[pB c.b7,pB c.b1,pB c.b3],slV tr,slV tw,.map (some bm)]
structure DoR(n0:Nat)(w:World)(c:CxD)(b bm:Nat)(s:PS)(tr tw:Sl)(rds wrs:List Spn)(f:List (Int×ChD)):Prop where
 box:∃T,w.heap[b]? =some (.cells (doC c bm s.r tr tw).toArray T (0,0))
 rr:OwS w tr 2 (rds.flatMap sv)
 nr:NormS rds
 hr:∀k,hasS rds k↔s.rd k
 br:∀i∈blk tr,n0<=i/\i≠b/\i≠bm
 ww:OwS w tw 2 (wrs.flatMap sv)
 nw:NormS wrs
 hw:∀k,hasS wrs k↔s.wr k
 bw:∀i∈blk tw,n0<=i/\i≠b/\i≠bm
 map:Mp chE w bm f
 get:∀k,getM f k=(s.ch k).map fun v=>(k,v)
 lb:n0<=b
 lm:n0<=bm
 ne:b≠bm
 ok:PsOk s
def DoM(n0:Nat)(w:World)(c:CxD)(b bm:Nat)(s:PS):Prop:=∃tr tw rds wrs f,DoR n0 w c b bm s tr tw rds wrs f
section
variable {n0:Nat} {w w':World} {c:CxD} {b bm:Nat} {s:PS} {tr tw:Sl} {rds wrs:List Spn} {f:List (Int×ChD)}
theorem DoR.ext(h:DoR n0 w c b bm s tr tw rds wrs f)(e:Ext w w'):DoR n0 w' c b bm s tr tw rds wrs f:=by
 obtain⟨⟨T,h1⟩,h2,h3,h4,h5,h6,h7,h8,h9,h10,h11,h12,h13,h14,h15⟩:=h
 exact⟨⟨T,e.at h1⟩,h2.ext e,h3,h4,h5,h6.ext e,h7,h8,h9,h10.ext e,h11,h12,h13,h14,h15⟩
theorem DoR.cell(h:DoR n0 w c b bm s tr tw rds wrs f)(j:Nat):w.cell? ⟨b,0+j,none⟩=(doC c bm s.r tr tw)[j]? :=by
 obtain⟨T,hT⟩:=h.box
 rw[cell_of hT,Nat.zero_add];exact List.getElem?_toArray ..
theorem DoR.reg(h:DoR n0 w c b bm s tr tw rds wrs f){a:Int}(ha:0<=a/\a<=3)(e:Ext w w'):w'.cell? ⟨b,0+1+a.toNat,none⟩=some (.int .i64 (rgG s.r a)):=by
 obtain⟨T,hT⟩:=(h.ext e).box
 rw[cell_of hT]
 rcases in4 ha with rfl|rfl|rfl|rfl<;>rfl
theorem DoR.setReg(h:DoR n0 w c b bm s tr tw rds wrs f){a v:Int}(ha:0<=a/\a<=3)(hv:PsOk { s with r:=rgS s.r a v }){K:World->Prop}(hK:∀w',DoR n0 w' c b bm { s with r:=rgS s.r a v } tr tw rds wrs f->Ch (fun i=>i=b) w w'->K w'):
  StoreP w b (0+1+a.toNat) [.int .i64 v] K:=by
 obtain⟨⟨T,h1⟩,h2,h3,h4,h5,h6,h7,h8,h9,h10,h11,h12,h13,h14,h15⟩:=h
 refine store_one h1 (by show 0+1+a.toNat<10;omega) rfl fun w' hu=>hK w' ⟨⟨T,?_⟩,h2.ch hu.ch fun i hi e=>(h5 i hi).2.1 e,h3,h4,h5,h6.ch hu.ch fun i hi e=>(h9 i hi).2.1 e,h7,h8,h9,h10.ch hu.ch fun e=>h14 e.symm,h11,h12,h13,h14,hv⟩ hu.ch
 rw[hu.new]
 rcases in4 ha with rfl|rfl|rfl|rfl<;>rfl
end
theorem may_of{n0:Nat}{w:World}{c:CxD}(h:StC n0 w c){t u:Sl}{xs ys:List Spn}(hx:Rd w t 2 (xs.flatMap sv))(hy:Rd w u 2 (ys.flatMap sv))(hxl:xs.length<=1000000)(hyl:ys.length<=1000000):
  Cw 30 #[slV t,slV u,pB c.b7,pB c.b1,pB c.b3] w fun v w'=>∃r,v=.bool r/\(r=true↔(∀k,hasS xs k->c.mr k)/\∀k,hasS ys k->c.mw k)/\Ext w w':=by
 obtain⟨T1,h1⟩:=h.box1
 obtain⟨T3,h3⟩:=h.box3
 obtain⟨T7,h7⟩:=h.box7
 refine F30_ok t u c.b7 c.b1 c.b3 w _ ⟨c.asked,by rw[cell_of h7];rfl,IfB.intro (fun ha=>?_) fun ha=>?_⟩
 ·have ha:c.asked=false:=by simpa using ha
  exact⟨true,rfl,⟨fun _=>⟨fun k _=>.inl ha,fun k _=>.inl ha⟩,fun _=>rfl⟩,Ch.refl _ _⟩
 ·have ha:c.asked=true:=by simpa using ha
  refine⟨c.tf,by rw[cell_of h1];rfl,c.ta,by rw[cell_of h3];rfl,(c31 h.foot h.args hx hy hxl hyl).use ?_⟩
  rintro _ w5 ⟨r,rfl,hr,e5⟩
  refine⟨r,rfl,r,rfl,hr.trans ⟨fun h=>⟨fun k hk=>.inr (h.2.1 k hk),fun k hk=>.inr (h.2.2 k hk)⟩,fun h'=>⟨⟨h.aok,h.fok⟩,fun k hk=>(h'.1 k hk).elim (fun e=>by rw[ha] at e;cases e) id,fun k hk=>(h'.2 k hk).elim (fun e=>by rw[ha] at e;cases e) id⟩⟩,e5⟩
theorem key_of{n0:Nat}{w:World}{c:CxD}{b bm:Nat}{s:PS}{tr tw:Sl}{rds wrs:List Spn}{f:List (Int×ChD)}(h:StC n0 w c)(hd:DoR n0 w c b bm s tr tw rds wrs f){k:KeyD}(hk:KeyOk k c.args.length):
  Cw 103 #[pB b,keyV k] w fun v w'=>v=iv (keyAt k c.args)/\Ext w w':=by
 refine F103_ok _ k w _ fun b1 w2 a2=>?_
 have e2:Ext w w2.drew:=(a2.ch _).trans (extDrew _)
 have k2:=hd.ext e2
 refine⟨k,boxAll (cs:=keyC k) a2.new (extDrew _),b,0,rfl,c.ta,k2.cell 0,(c51 k (h.args.ext e2)).use ?_⟩
 rintro _ w8 ⟨n,r,rfl,hr,hn,e8⟩
 have:=hn (hr.2 ⟨hk,h.aok⟩)
 subst this
 exact⟨(_,r),rfl,rfl,e2.trans e8⟩
theorem fail_of{e:Int}{w:World}{R:RV}{S:List PanicEntry->World->Prop}(h:S [{ v:=errV e,recovered:=false }] w):CXS Tryz.prog 110 #[iv e] w R S:=
 .inr (F110_ok e w R S ⟨rfl,h⟩)
theorem read_of{n0:Nat}{w:World}{c:CxD}{b bm:Nat}{s:PS}{tr tw:Sl}{rds wrs:List Spn}{f:List (Int×ChD)}(h:StC n0 w c)(hd:DoR n0 w c b bm s tr tw rds wrs f){t:Sl}{l:List Spn}(hl:Rd w t 2 (l.flatMap sv))(hN:NormS l){R:RV}{S:List PanicEntry->World->Prop}
  (hR:∀tr' rds' w',(∀k,hasS l k->c.mr k)->DoR n0 w' c b bm { s with rd:=fun k=>s.rd k\/hasS l k } tr' tw rds' wrs f->Ch (fun i=>i=b) w w'->R (.tuple #[]) w')
  (hS:∀w',¬(∀k,hasS l k->c.mr k)->Ext w w'->S [{ v:=errV 9,recovered:=false }] w'):
  CXS Tryz.prog 104 #[pB b,slV t] w R S:=by
 have hll:=normS_len hN
 have nl:Rd w ⟨none,0,0⟩ 2 (([]:List Spn).flatMap sv):=(OwS.nil w 2).rd
 refine .inr (F104_ok _ t w R S ⟨b,0,rfl,(30,#[pB c.b7,pB c.b1,pB c.b3]),hd.cell 6,.inl ((may_of h hl nl (by omega) (by simp)).use ?_)⟩)
 rintro _ w5 ⟨r,rfl,hr,e5⟩
 have hr':r=true↔∀k,hasS l k->c.mr k:=hr.trans ⟨fun h=>h.1,fun h=>⟨h,fun k hk=>by simp[hasS] at hk⟩⟩
 have d5:=hd.ext e5
 refine⟨r,rfl,IfB.intro (fun h1=>fail_of ⟨rfl,hS w5 (fun h=>?_) e5⟩) fun h1=>?_⟩
 ·rw[hr'.2 h] at h1;cases h1
 have hm:=hr'.1 (by simpa using h1)
 refine⟨b,0,rfl,tr,d5.cell 7,.inl ((c134 d5.rr.rd (hl.ext e5) (by have:=normS_len hd.nr;omega)).use ?_)⟩
 rintro _ w27 ⟨t',os,rfl,hN',hk',ho',_,e27,hb'⟩
 obtain⟨⟨T,k1⟩,k2,k3,k4,k5,k6,k7,k8,k9,k10,k11,k12,k13,k14,k15⟩:=d5.ext e27
 have ob:=heap_lt ((d5.box.choose_spec))
 have om:=d5.map.lt
 refine⟨t',rfl,b,0,rfl,rfl,store_one k1 (by simp) rfl fun w31 hu=>?_⟩
 have hb31:∀i∈blk t',n0<=i/\i≠b/\i≠bm:=fun i hi=>by have:=hb' i hi;omega
 refine hR t' os w31 hm ⟨⟨T,by rw[hu.new];rfl⟩,ho'.ch hu.ch fun i hi e=>(hb31 i hi).2.1 e,hN',fun k=>by rw[hk',hd.hr],hb31,k6.ch hu.ch fun i hi e=>(k9 i hi).2.1 e,k7,k8,k9,k10.ch hu.ch fun e=>k14 e.symm,k11,k12,k13,k14,⟨k15.r,fun k hk=>?_,k15.wr,k15.wk,k15.gone,k15.val⟩⟩ (((e5.trans e27).mono fun _ _ h=>h.elim).then hu.ch fun _ _ h=>h)
 rcases hk with hk|⟨x,hx,hmx,h1,h2⟩
 ·exact k15.rd k hk
 ·unfold mayS at hmx;omega
theorem change_of{n0:Nat}{w:World}{c:CxD}{b bm:Nat}{s:PS}{tr tw:Sl}{rds wrs:List Spn}{f:List (Int×ChD)}(h:StC n0 w c)(hd:DoR n0 w c b bm s tr tw rds wrs f){k:Int}(hk:0<=k/\k<=999){v:ChV}(hg:v.1=true->v.2=0)(hv:I64 v.2){R:RV}{S:List PanicEntry->World->Prop}
  (hR:∀tw' wrs' f' w',c.mw k->DoR n0 w' c b bm { s with wr:=fun j=>s.wr j\/j=k,ch:=fun j=>if j=k then some v else s.ch j } tr tw' rds wrs' f'->Ch (fun i=>i=b\/i=bm) w w'->R (.tuple #[]) w')
  (hS:∀w',¬c.mw k->Ext w w'->S [{ v:=errV 9,recovered:=false }] w'):
  CXS Tryz.prog 107 #[pB b,.agg #[.int .i64 k,.bool v.1,.int .i64 v.2]] w R S:=by
 refine .inr (F107_ok _ (k,v) w R S fun b1 w2 a2=>?_)
 have e2:Ext w w2:=a2.ch _
 have hb1:w2.heap[b1]? =some (.cells (lC47 (k,v)).toArray 47 (0,0)):=a2.new
 refine⟨k,boxAt hb1 0 (Ch.refl _ _),.inl ((c105 k w2).use ?_)⟩
 rintro _ w5 ⟨t,l,rfl,hN,hl,ho,hll,e5,hbt⟩
 have E5:=e2.trans e5
 have hl':∀j,hasS l j↔j=k:=fun j=>by rw[hl];exact⟨fun h=>h.2,fun h=>⟨hk,h⟩⟩
 have nl:Rd w5 ⟨none,0,0⟩ 2 (([]:List Spn).flatMap sv):=(OwS.nil w5 2).rd
 have d5:=hd.ext E5
 refine⟨t,rfl,b,0,rfl,(30,#[pB c.b7,pB c.b1,pB c.b3]),d5.cell 6,.inl ((may_of (h.ext E5) nl ho.rd (by simp) (by omega)).use ?_)⟩
 rintro _ w11 ⟨r,rfl,hr,e11⟩
 have hr':r=true↔c.mw k:=hr.trans ⟨fun h=>h.2 k ((hl' k).2 rfl),fun h=>⟨fun k hk=>by simp[hasS] at hk,fun j hj=>by rw[(hl' j).1 hj];exact h⟩⟩
 have E11:=E5.trans e11
 have d11:=hd.ext E11
 refine⟨r,rfl,IfB.intro (fun h1=>fail_of ⟨rfl,hS w11 (fun h=>?_) E11⟩) fun h1=>?_⟩
 ·rw[hr'.2 h] at h1;cases h1
 have hm:=hr'.1 (by simpa using h1)
 refine⟨b,0,rfl,tw,d11.cell 8,.inl ((c134 d11.ww.rd (ho.ext e11).rd (by have:=normS_len hd.nw;omega)).use ?_)⟩
 rintro _ w39 ⟨t',os,rfl,hN',hk',ho',_,e39,hb'⟩
 have E39:=E11.trans e39
 obtain⟨⟨T,k1⟩,k2,k3,k4,k5,k6,k7,k8,k9,k10,k11,k12,k13,k14,k15⟩:=d11.ext e39
 have ob:=heap_lt ((d11.box.choose_spec))
 have om:=d11.map.lt
 have ob1:=heap_lt hb1
 have hbw:b<w.heap.size:=heap_lt hd.box.choose_spec
 have hmw:bm<w.heap.size:=hd.map.lt
 have p2:=a2.here
 refine⟨t',rfl,b,0,rfl,rfl,store_one k1 (by simp) rfl fun w43 hu=>?_⟩
 have hb43:∀i∈blk t',n0<=i/\i≠b/\i≠bm:=fun i hi=>by have:=hb' i hi;omega
 have E2:Ext w2 w39:=(e5.trans e11).trans e39
 have hb1':=hu.ch.at (E2.at hb1) (by omega)
 have hnew:w43.heap[b]? =some (.cells (doC c bm s.r tr t').toArray T (0,0)):=by rw[hu.new];rfl
 have hc39:Ch (fun i=>i=b\/i=bm) w w43:=(E39.mono fun _ _ h=>h.elim).then hu.ch fun _ _ h=>.inl h
 have hbx:=(extDrew w43).at hnew
 refine⟨b,0,rfl,some bm,by rw[cell_of hbx];rfl,k,by rw[cell_of ((extDrew w43).at hb1')];rfl,(k,v),cellsAt_of ((extDrew w43).at hb1') fun i v hv=>by rw[Nat.zero_add];simpa using hv,?_⟩
 refine Mp.set (enc:=chE) ((k10.ch hu.ch fun e=>k14 e.symm).ext (extDrew _)) (v:=((k,v):ChD)) fun f' w49 hg' hM hC'=>?_
 have e43:Ch (fun i=>i=bm) w43 w49:=((extDrew w43).mono fun _ _ h=>h.elim).then hC' fun _ _ h=>h
 have hs39:=E39.size
 have hs43:w43.heap.size=w39.heap.size:=hu.size
 refine hR t' os f' w49 hm ⟨⟨T,e43.at hnew k14⟩,(k2.ch hu.ch fun i hi e=>(k5 i hi).2.1 e).ch e43 fun i hi e=>(k5 i hi).2.2 e,k3,k4,k5,(ho'.ch hu.ch fun i hi e=>(hb43 i hi).2.1 e).ch e43 fun i hi e=>(hb43 i hi).2.2 e,hN',fun j=>by rw[hk',hd.hw,hl'],hb43,hM,fun j=>?_,k12,k13,k14,⟨k15.r,k15.rd,fun j=>?_,fun j hj=>?_,fun j v' h=>?_,fun j v' h=>?_⟩⟩ (hc39.then e43 fun _ _ h=>.inr h)
 ·rw[hg',hd.get]
  dsimp only
  by_cases e:j=k
  ·subst e;simp
  ·rw[if_neg (fun h=>e h.symm),if_neg e]
 ·dsimp only
  by_cases e:j=k
  ·simp[e]
  ·simp[e,k15.wr]
 ·rcases hj with hj|hj
  ·exact k15.wk j hj
  ·rw[hj];exact hk
 ·dsimp only at h
  split at h
  ·cases h;exact hg rfl
  ·exact k15.gone _ _ h
 ·dsimp only at h
  split at h
  ·cases h;exact hv
  ·exact k15.val _ _ h
theorem value_of{n0:Nat}{w:World}{c:CxD}{b bm:Nat}{s:PS}{tr tw:Sl}{rds wrs:List Spn}{f:List (Int×ChD)}(h:StC n0 w c)(hd:DoR n0 w c b bm s tr tw rds wrs f){k:Int}(hk:0<=k/\k<=999):
  Cw 106 #[pB b,iv k] w fun v w'=>v=.tuple #[iv ((nowV (stP c.P) s.ch k).getD 0),.bool (nowV (stP c.P) s.ch k).isSome]/\Ext w w':=by
 refine F106_ok _ k w _ ⟨b,0,rfl,some bm,hd.cell 9,?_⟩
 refine Mp.get (enc:=chE) hd.map ?_
 rw[hd.get]
 have box:∀(x:ChD){K:Nat->World->Prop},(∀b7 w9,w9.heap[b7]? =some (.cells (lC47 x).toArray 47 (0,0))->Ext w w9->K b7 w9)->AllocP w (.cells #[.int .i64 0,.bool false,.int .i64 0] 47) fun b7 w8=>(lC47 x).toArray.size=3/\StoreP w8 b7 0 (lC47 x) fun w9=>K b7 w9:=fun x K hK b7 w8 h8=>by
  refine⟨rfl,store_all h8.new rfl (by intro v hv;simp at hv;rcases hv with rfl|rfl|rfl<;>rfl) fun w9 h9=>hK b7 w9 h9.new (Ext.fresh h8 h9)⟩
 cases hc:s.ch k with
 | some v=>
  refine⟨(k,v),rfl,box (k,v) fun b7 w9 h9 e9=>IfB.yes rfl ⟨v.2,by rw[cell_of ((extDrew w9).at h9)];rfl,v.1,by rw[cell_of ((extDrew w9).at h9)];rfl,?_,e9.trans (extDrew w9)⟩⟩
  obtain⟨g,v⟩:=v
  unfold nowV
  rw[hc]
  cases g with
  | true=>rw[hd.ok.gone k v hc];rfl
  | false=>rfl
 | none=>
  refine⟨(0,false,0),rfl,box (0,false,0) fun b7 w9 h9 e9=>IfB.no rfl ⟨b,0,rfl,some ⟨c.bS,0,none⟩,(hd.ext e9).cell 5,?_⟩⟩
  obtain⟨ss,ps,hS,hP,_⟩:=(h.ext e9).store
  refine(c26 hS hP h.inv k).use ?_
  rintro _ w16 ⟨rfl,e16⟩
  refine⟨_,rfl,?_,e9.trans e16⟩
  unfold nowV stP getP
  rw[hc,if_pos hk]
  cases hh:hasP c.P k with
  | true=>simp[hk]
  | false=>simp
theorem ov_add{a b:Int}(ha:I64 a)(hb:I64 b):(!(decide (a<IntKind.i64.wrap (a+b)) == decide (0<b)))=true↔¬I64 (a+b):=by
 rw[IntKind.wrap_i64]
 simp only[Bool.not_eq_true',beq_eq_false_iff_ne,ne_eq,decide_eq_decide]
 unfold I64 at*
 omega
theorem ov_sub{a b:Int}(ha:I64 a)(hb:I64 b):(!(decide (IntKind.i64.wrap (a-b)<a) == decide (0<b)))=true↔¬I64 (a-b):=by
 rw[IntKind.wrap_i64]
 simp only[Bool.not_eq_true',beq_eq_false_iff_ne,ne_eq,decide_eq_decide]
 unfold I64 at*
 omega
def InsP(g:FuncId)(o:Int):Prop:=∀ {n0:Nat}{w:World}{c:CxD}{b bm:Nat}{s:PS}{x:InsD}{R:RV}{S:List PanicEntry->World->Prop},StC n0 w c->DoM n0 w c b bm s->InsOk x c.args.length->I64 x.X->(∀k v,stP c.P k=some v->I64 v)->x.1=o->
 (∀s' w',stepI (stP c.P) c.mr c.mw c.args x s=.inr s'->DoM n0 w' c b bm s'->Ch (fun i=>i=b\/i=bm) w w'->R (.tuple #[]) w')->
 (∀e w',stepI (stP c.P) c.mr c.mw c.args x s=.inl e->Ch (fun i=>i=b\/i=bm) w w'->S [{ v:=errV e,recovered:=false }] w')->
 CXS Tryz.prog g #[pB b,insV x] w R S
theorem ps_rd{s:PS}{p q:Int->Prop}(h:∀j,p j↔q j):({ s with rd:=p }:PS)={ s with rd:=q }:=by
 have:p=q:=funext fun j=>propext (h j)
 rw[this]
structure Bx(w0 w:World)(b1:Nat)(x:InsD):Prop where
 at':w.heap[b1]? =some (.cells (insC x).toArray 66 (0,0))
 new:w0.heap.size<=b1
theorem Bx.of{w w2:World}{b1:Nat}{x:InsD}(h:IsAlloc w (.cells (insC x).toArray 66 (0,0)) b1 w2):Bx w w2 b1 x:=⟨h.new,Nat.le_of_eq h.here.symm⟩
theorem Bx.ch{F:Nat->Prop}{w0 w w':World}{b1:Nat}{x:InsD}(h:Bx w0 w b1 x)(hc:Ch F w w')(hF:∀i,F i->i<w0.heap.size):Bx w0 w' b1 x:=⟨hc.at h.at' fun hf=>by have:=hF _ hf;have:=h.new;omega,h.new⟩
theorem Bx.ext{w0 w w':World}{b1:Nat}{x:InsD}(h:Bx w0 w b1 x)(hc:Ext w w'):Bx w0 w' b1 x:=h.ch hc fun _ h=>h.elim
theorem Bx.cell{w0 w:World}{b1:Nat}{x:InsD}(h:Bx w0 w b1 x)(j:Nat):w.cell? ⟨b1,0+j,none⟩=(insC x)[j]? :=boxAt h.at' j (Ch.refl _ _)
theorem Bx.K{w0 w:World}{b1:Nat}{x:InsD}(h:Bx w0 w b1 x):CellsAt w b1 (0+4) [.int .i64 x.K.1,.int .i64 x.K.2]:=fun i v hv=>by
 match i,hv with
 | 0,hv=>cases hv;exact h.cell 4
 | 1,hv=>cases hv;exact h.cell 5
theorem Bx.L{w0 w:World}{b1:Nat}{x:InsD}(h:Bx w0 w b1 x):CellsAt w b1 (0+6) [.int .i64 x.L.1,.int .i64 x.L.2]:=fun i v hv=>by
 match i,hv with
 | 0,hv=>cases hv;exact h.cell 6
 | 1,hv=>cases hv;exact h.cell 7
theorem DoR.lt{n0:Nat}{w:World}{c:CxD}{b bm:Nat}{s:PS}{tr tw:Sl}{rds wrs:List Spn}{f:List (Int×ChD)}(h:DoR n0 w c b bm s tr tw rds wrs f):b<w.heap.size:=heap_lt h.box.choose_spec
theorem DoR.hF{n0:Nat}{w:World}{c:CxD}{b bm:Nat}{s:PS}{tr tw:Sl}{rds wrs:List Spn}{f:List (Int×ChD)}(h:DoR n0 w c b bm s tr tw rds wrs f):∀i,i=b\/i=bm->n0<=i:=fun i e=>e.elim (fun e=>e ▸ h.lb) fun e=>e ▸ h.lm
theorem reg4{a:Int}(h:0<=a/\a<=3):0<=a/\a<((4:Nat):Int):=⟨h.1,by omega⟩
theorem get_of:InsP 56 1:=by
 intro n0 w c b bm s x R S h hd hx hX hst ho hR hS
 obtain⟨tr,tw,rds,wrs,f,hd⟩:=hd
 have hk:=hx.ko (by omega)
 have hkr:=keyAt_range hk h.aok
 have ha:0<=x.a/\x.a<=3:=⟨hx.a0,hx.a3⟩
 have hlb:=hd.lt
 have hst1:stepI (stP c.P) c.mr c.mw c.args x s=if bq (c.mr (keyAt x.K c.args))=true then .inr { s with r:=rgS s.r x.a ((nowV (stP c.P) s.ch (keyAt x.K c.args)).getD 0),rd:=fun j=>s.rd j\/j=keyAt x.K c.args } else .inl 9:=by unfold stepI;rw[if_pos ho]
 refine .inr (F56_ok _ (insX x) w R S fun b1 w2 a2=>?_)
 have B2:=Bx.of a2
 have e2:Ext w w2:=a2.ch _
 refine⟨x.K,B2.K,.inl ((key_of (h.ext e2) (hd.ext e2) hk).use ?_)⟩
 rintro _ w5 ⟨rfl,e5⟩
 refine⟨_,rfl,.inl ((c105 _ w5).use ?_)⟩
 rintro _ w8 ⟨t,l,rfl,hN,hl,hol,hll,e8,_⟩
 have E8:Ext w w8:=(e2.trans e5).trans e8
 have hl':∀j,hasS l j↔j=keyAt x.K c.args:=fun j=>by rw[hl];exact⟨fun h=>h.2,fun h=>⟨hkr,h⟩⟩
 refine⟨t,rfl,read_of (h.ext E8) (hd.ext E8) hol.rd hN (fun tr' rds' w' hm hd' hc=>?_) fun w' hm e'=>?_⟩
 ·have hm':c.mr (keyAt x.K c.args):=hm _ ((hl' _).2 rfl)
  rw[ps_rd (q:=fun j=>s.rd j\/j=keyAt x.K c.args) fun j=>or_congr Iff.rfl (hl' j)] at hd'
  have hC:Ch (fun i=>i=b\/i=bm) w w':=(E8.mono fun _ _ h=>h.elim).then hc fun _ _ e=>.inl e
  have B':=((B2.ext e5).ext e8).ch hc fun i e=>e ▸ hlb
  have hn:nowV (stP c.P) s.ch=nowV (stP c.P) ({ s with rd:=fun j=>s.rd j\/j=keyAt x.K c.args }:PS).ch:=rfl
  have hok:=stepI_ok hd.ok hst hx hX h.aok (by rw[hst1,if_pos (bq_iff.2 hm')])
  rw[if_pos (bq_iff.2 hm')] at hst1
  refine⟨(),rfl,x.a,(B'.ext (extDrew _)).cell 1,b,0,rfl,.inl ((value_of ((h.ch hC hd.hF).ext (extDrew _)) (hd'.ext (extDrew _)) hkr).use ?_)⟩
  rintro _ w17 ⟨rfl,e17⟩
  have E17:Ext w' w17:=(extDrew _).trans e17
  refine⟨(_,_),rfl,(B'.ext E17).cell 1,reg4 ha,rfl,(hd'.ext E17).setReg ha hok fun w18 hd18 hc18=>hR _ w18 hst1 ⟨_,_,_,_,_,hd18⟩ ?_⟩
  exact(hC.then E17 fun _ _ h=>h.elim).then hc18 fun _ _ e=>.inl e
 ·have hm':¬c.mr (keyAt x.K c.args):=fun hm'=>hm fun k hk=>by rw[(hl' k).1 hk];exact hm'
  rw[if_neg (by rw[bq_iff];exact hm')] at hst1
  have hX:=hS 9 w' hst1 ((E8.trans e').mono fun _ _ h=>h.elim)
  first|exact⟨rfl,hX⟩|exact fun _=>⟨rfl,hX⟩
theorem put_of:InsP 57 2:=by
 intro n0 w c b bm s x R S h hd hx hX hst ho hR hS
 obtain⟨tr,tw,rds,wrs,f,hd⟩:=hd
 have hk:=hx.ko (by omega)
 have hkr:=keyAt_range hk h.aok
 have ha:0<=x.a/\x.a<=3:=⟨hx.a0,hx.a3⟩
 have hlb:=hd.lt
 have hst1:stepI (stP c.P) c.mr c.mw c.args x s=if bq (c.mw (keyAt x.K c.args))=true then .inr { s with wr:=fun j=>s.wr j\/j=keyAt x.K c.args,ch:=fun j=>if j=keyAt x.K c.args then some (false,rgG s.r x.a) else s.ch j } else .inl 9:=by unfold stepI;rw[if_neg (by omega),if_pos ho]
 refine .inr (F57_ok _ (insX x) w R S fun b1 w2 a2=>?_)
 have B2:=Bx.of a2
 have e2:Ext w w2.drew:=(a2.ch _).trans (extDrew _)
 refine⟨x.K,(B2.ext (extDrew _)).K,x.a,(B2.ext (extDrew _)).cell 1,b,0,rfl,reg4 ha,_,hd.reg ha e2,.inl ((key_of (h.ext e2) (hd.ext e2) hk).use ?_)⟩
 rintro _ w9 ⟨rfl,e9⟩
 have E9:Ext w w9:=e2.trans e9
 refine⟨_,rfl,hd.reg ha E9,((B2.ext (extDrew _)).ext e9).cell 1,change_of (v:=(false,rgG s.r x.a)) (h.ext E9) (hd.ext E9) hkr (fun h=>(by cases h)) (hd.ok.r.get _) (fun tw' wrs' f' w' hm hd' hc=>⟨(),rfl,?_⟩) fun w' hm e'=>?_⟩
 ·rw[if_pos (show bq (c.mw (keyAt x.K c.args))=true from bq_iff.2 hm)] at hst1
  exact hR _ w' hst1 ⟨_,_,_,_,_,hd'⟩ ((E9.mono fun _ _ h=>h.elim).then hc fun _ _ e=>e)
 ·rw[if_neg (show ¬bq (c.mw (keyAt x.K c.args))=true by rw[bq_iff];exact hm)] at hst1
  have hX:=hS 9 w' hst1 ((E9.trans e').mono fun _ _ h=>h.elim)
  first|exact⟨rfl,hX⟩|exact fun _=>⟨rfl,hX⟩
theorem gone_of:InsP 58 3:=by
 intro n0 w c b bm s x R S h hd hx hX hst ho hR hS
 obtain⟨tr,tw,rds,wrs,f,hd⟩:=hd
 have hk:=hx.ko (by omega)
 have hkr:=keyAt_range hk h.aok
 have hst1:stepI (stP c.P) c.mr c.mw c.args x s=if bq (c.mw (keyAt x.K c.args))=true then .inr { s with wr:=fun j=>s.wr j\/j=keyAt x.K c.args,ch:=fun j=>if j=keyAt x.K c.args then some (true,0) else s.ch j } else .inl 9:=by unfold stepI;rw[if_neg (by omega),if_neg (by omega),if_pos ho]
 refine .inr (F58_ok _ (insX x) w R S fun b1 w2 a2=>?_)
 have B2:=Bx.of a2
 have e2:Ext w w2:=a2.ch _
 refine⟨x.K,B2.K,.inl ((key_of (h.ext e2) (hd.ext e2) hk).use ?_)⟩
 rintro _ w5 ⟨rfl,e5⟩
 have E5:Ext w w5:=e2.trans e5
 refine⟨_,rfl,change_of (v:=(true,0)) (h.ext E5) (hd.ext E5) hkr (fun _=>rfl) ⟨by decide,by decide⟩ (fun tw' wrs' f' w' hm hd' hc=>⟨(),rfl,?_⟩) fun w' hm e'=>?_⟩
 ·rw[if_pos (show bq (c.mw (keyAt x.K c.args))=true from bq_iff.2 hm)] at hst1
  exact hR _ w' hst1 ⟨_,_,_,_,_,hd'⟩ ((E5.mono fun _ _ h=>h.elim).then hc fun _ _ e=>e)
 ·rw[if_neg (show ¬bq (c.mw (keyAt x.K c.args))=true by rw[bq_iff];exact hm)] at hst1
  have hX:=hS 9 w' hst1 ((E5.trans e').mono fun _ _ h=>h.elim)
  first|exact⟨rfl,hX⟩|exact fun _=>⟨rfl,hX⟩
theorem set_of:InsP 60 5:=by
 intro n0 w c b bm s x R S h hd hx hX hst ho hR hS
 obtain⟨tr,tw,rds,wrs,f,hd⟩:=hd
 have ha:0<=x.a/\x.a<=3:=⟨hx.a0,hx.a3⟩
 have hst1:stepI (stP c.P) c.mr c.mw c.args x s=.inr { s with r:=rgS s.r x.a x.X }:=by unfold stepI;rw[if_neg (by omega),if_neg (by omega),if_neg (by omega),if_neg (by omega),if_pos ho]
 refine .inl ((F60_ok _ (insX x) w R fun b1 w2 a2=>?_).use fun _ _ h=>h)
 have B2:=(Bx.of a2).ext (extDrew _)
 have e2:Ext w w2.drew:=(a2.ch _).trans (extDrew _)
 refine⟨x.a,B2.cell 1,x.X,B2.cell 8,b,0,rfl,reg4 ha,rfl,(hd.ext e2).setReg ha (stepI_ok hd.ok hst hx hX h.aok hst1) fun w18 hd18 hc18=>hR _ w18 hst1 ⟨_,_,_,_,_,hd18⟩ ?_⟩
 exact(e2.mono fun _ _ h=>h.elim).then hc18 fun _ _ e=>.inl e
theorem add_of:InsP 61 6:=by
 intro n0 w c b bm s x R S h hd hx hX hst ho hR hS
 obtain⟨tr,tw,rds,wrs,f,hd⟩:=hd
 have ha:0<=x.a/\x.a<=3:=⟨hx.a0,hx.a3⟩
 have hb:=(hx.b3 (.inl ho)).1
 have hc':=(hx.b3 (.inl ho)).2
 have hst1:stepI (stP c.P) c.mr c.mw c.args x s=if -9223372036854775808<=rgG s.r x.b+rgG s.r x.c/\rgG s.r x.b+rgG s.r x.c<=9223372036854775807 then .inr { s with r:=rgS s.r x.a (rgG s.r x.b+rgG s.r x.c) } else .inl 8:=by
  unfold stepI;rw[if_neg (by omega),if_neg (by omega),if_neg (by omega),if_neg (by omega),if_neg (by omega),if_pos ho]
 refine .inr (F61_ok _ (insX x) w R S fun b1 w2 a2=>?_)
 have B2:=(Bx.of a2).ext (extDrew _)
 have e2:Ext w w2.drew:=(a2.ch _).trans (extDrew _)
 refine⟨x.b,B2.cell 2,b,0,rfl,reg4 hb,_,hd.reg hb e2,x.c,B2.cell 3,b,0,rfl,reg4 hc',_,hd.reg hc' e2,IfB.intro (fun hov=>fail_of ?_) fun hov=>?_⟩
 ·have:=(ov_add (hd.ok.r.get _) (hd.ok.r.get _)).1 hov
  rw[if_neg (show ¬(_/\_) from this)] at hst1
  have hX:=hS 8 _ hst1 (e2.mono fun _ _ h=>h.elim)
  first|exact⟨rfl,hX⟩|exact fun _=>⟨rfl,hX⟩
 ·have hin:I64 (rgG s.r x.b+rgG s.r x.c):=Classical.byContradiction fun h=>by rw[(ov_add (hd.ok.r.get _) (hd.ok.r.get _)).2 h] at hov;cases hov
  rw[if_pos (show _/\_ from hin)] at hst1
  have E3:Ext w w2.drew.drew:=e2.trans (extDrew _)
  refine⟨x.a,(B2.ext (extDrew _)).cell 1,b,0,rfl,reg4 ha,rfl,?_⟩
  rw[wrap_of hin.1 hin.2]
  exact(hd.ext E3).setReg ha (stepI_ok hd.ok hst hx hX h.aok hst1) fun w18 hd18 hc18=>hR _ w18 hst1 ⟨_,_,_,_,_,hd18⟩ ((E3.mono fun _ _ h=>h.elim).then hc18 fun _ _ e=>.inl e)
theorem sub_of:InsP 62 7:=by
 intro n0 w c b bm s x R S h hd hx hX hst ho hR hS
 obtain⟨tr,tw,rds,wrs,f,hd⟩:=hd
 have ha:0<=x.a/\x.a<=3:=⟨hx.a0,hx.a3⟩
 have hb:=(hx.b3 (.inr ho)).1
 have hc':=(hx.b3 (.inr ho)).2
 have hst1:stepI (stP c.P) c.mr c.mw c.args x s=if -9223372036854775808<=rgG s.r x.b-rgG s.r x.c/\rgG s.r x.b-rgG s.r x.c<=9223372036854775807 then .inr { s with r:=rgS s.r x.a (rgG s.r x.b-rgG s.r x.c) } else .inl 8:=by
  unfold stepI;rw[if_neg (by omega),if_neg (by omega),if_neg (by omega),if_neg (by omega),if_neg (by omega),if_neg (by omega),if_pos ho]
 refine .inr (F62_ok _ (insX x) w R S fun b1 w2 a2=>?_)
 have B2:=(Bx.of a2).ext (extDrew _)
 have e2:Ext w w2.drew:=(a2.ch _).trans (extDrew _)
 refine⟨x.b,B2.cell 2,b,0,rfl,reg4 hb,_,hd.reg hb e2,x.c,B2.cell 3,b,0,rfl,reg4 hc',_,hd.reg hc' e2,IfB.intro (fun hov=>fail_of ?_) fun hov=>?_⟩
 ·have:=(ov_sub (hd.ok.r.get _) (hd.ok.r.get _)).1 hov
  rw[if_neg (show ¬(_/\_) from this)] at hst1
  have hX:=hS 8 _ hst1 (e2.mono fun _ _ h=>h.elim)
  first|exact⟨rfl,hX⟩|exact fun _=>⟨rfl,hX⟩
 ·have hin:I64 (rgG s.r x.b-rgG s.r x.c):=Classical.byContradiction fun h=>by rw[(ov_sub (hd.ok.r.get _) (hd.ok.r.get _)).2 h] at hov;cases hov
  rw[if_pos (show _/\_ from hin)] at hst1
  have E3:Ext w w2.drew.drew:=e2.trans (extDrew _)
  refine⟨x.a,(B2.ext (extDrew _)).cell 1,b,0,rfl,reg4 ha,rfl,?_⟩
  rw[wrap_of hin.1 hin.2]
  exact(hd.ext E3).setReg ha (stepI_ok hd.ok hst hx hX h.aok hst1) fun w18 hd18 hc18=>hR _ w18 hst1 ⟨_,_,_,_,_,hd18⟩ ((E3.mono fun _ _ h=>h.elim).then hc18 fun _ _ e=>.inl e)
theorem guard_of:InsP 63 8:=by
 intro n0 w c b bm s x R S h hd hx hX hst ho hR hS
 obtain⟨tr,tw,rds,wrs,f,hd⟩:=hd
 have ha:0<=x.a/\x.a<=3:=⟨hx.a0,hx.a3⟩
 have hst1:stepI (stP c.P) c.mr c.mw c.args x s=if rgG s.r x.a<x.X then .inl 7 else .inr s:=by
  unfold stepI;rw[if_neg (by omega),if_neg (by omega),if_neg (by omega),if_neg (by omega),if_neg (by omega),if_neg (by omega),if_neg (by omega)]
 refine .inr (F63_ok _ (insX x) w R S fun b1 w2 a2=>?_)
 have B2:=(Bx.of a2).ext (extDrew _)
 have e2:Ext w w2.drew:=(a2.ch _).trans (extDrew _)
 refine⟨x.a,B2.cell 1,b,0,rfl,reg4 ha,_,hd.reg ha e2,x.X,B2.cell 8,IfB.dec (fun hlt=>fail_of ?_) fun hge=>?_⟩
 ·rw[if_pos hlt] at hst1
  have hX:=hS 7 _ hst1 (e2.mono fun _ _ h=>h.elim)
  first|exact⟨rfl,hX⟩|exact fun _=>⟨rfl,hX⟩
 ·rw[if_neg hge] at hst1
  exact hR s _ hst1 ⟨_,_,_,_,_,hd.ext e2⟩ (e2.mono fun _ _ h=>h.elim)
theorem mpKeys{β:Type}{enc:β->Value}{w:World}{r:Nat}{f:List (Int×β)}(h:Mp enc w r f):∃es ck,w.heap[r]? =some (.map es ck)/\KeysE (some (r,es,ck)) (f.map (·.1)):=by
 obtain⟨es,ck,h1,h2,h3,h4,h5⟩:=h
 refine⟨es,ck,h1,?_,h3,h4,h5⟩
 have:=congrArg (List.map Prod.fst) h2
 rw[List.map_map,List.map_map] at this
 rw[List.map_map];exact this
theorem pw_le_lt{xs:List Int}(h:xs.Pairwise (· <=·))(hn:xs.Nodup):xs.Pairwise (· < ·):=(h.and hn).imp fun⟨h1,h2⟩=>by omega
abbrev RwL:=Sl×List Int
abbrev hR(x:RwL):Value:=slV x.1
theorem srtI_nd{l:List Int}(h:l.Pairwise (· < ·)):l.Nodup:=h.imp fun h=>by omega
theorem cnt_perm{ks:List Int}{lo hi:Int}(hs:ks.Pairwise (· < ·))(hm:∀k,k∈ks↔lo<=k/\k<=hi)(p:Int->Bool):(ks.filter p).length=((ranI lo (hi+1-lo).toNat).filter p).length:=by
 have hp:ks.Perm (ranI lo (hi+1-lo).toNat):=(List.perm_ext_iff_of_nodup (srtI_nd hs) (srtI_nd (ranI_srt _ _))).2 fun k=>by rw[hm,mem_ranI];omega
 exact(hp.filter p).length_eq
theorem scan_of:InsP 59 4:=by
 intro n0 w c b bm s x R S h hd hx hX hst ho hR hS
 obtain⟨tr,tw,rds,wrs,f,hd⟩:=hd
 have hk:=hx.ko (by omega)
 have hkr:=keyAt_range hk h.aok
 have hl:=hx.lo ho
 have hlr:=keyAt_range hl h.aok
 have ha:0<=x.a/\x.a<=3:=⟨hx.a0,hx.a3⟩
 have hlb:=hd.lt
 have hst1:stepI (stP c.P) c.mr c.mw c.args x s=if bq (∀q,keyAt x.K c.args<=q->q<=keyAt x.L c.args->c.mr q)=true then .inr { s with r:=rgS s.r x.a (cntV (stP c.P) s.ch (keyAt x.K c.args) (keyAt x.L c.args)),rd:=fun j=>s.rd j\/(keyAt x.K c.args<=j/\j<=keyAt x.L c.args) } else .inl 9:=by
  unfold stepI;rw[if_neg (by omega),if_neg (by omega),if_neg (by omega),if_pos ho]
 refine .inr (F59_ok _ (insX x) w R S fun b1 w2 a2=>?_)
 have B2:=(Bx.of a2).ext (extDrew _)
 have e2:Ext w w2.drew:=(a2.ch _).trans (extDrew _)
 refine⟨x.K,B2.K,x.L,B2.L,.inl ((key_of (h.ext e2) (hd.ext e2) hk).use ?_)⟩
 rintro _ w6 ⟨rfl,e6⟩
 have E6:Ext w w6:=e2.trans e6
 change 0<=keyAt x.K c.args/\keyAt x.K c.args<=999 at hkr
 obtain⟨lo,hlo⟩:∃lo,lo=keyAt x.K c.args:=⟨_,rfl⟩
 obtain⟨hi,hhi⟩:∃hi,hi=keyAt x.L c.args:=⟨_,rfl⟩
 refine⟨lo,by rw[hlo];rfl,(B2.ext e6).L,.inl ((key_of (h.ext E6) (hd.ext E6) hl).use ?_)⟩
 rintro _ w9 ⟨rfl,e9⟩
 have E9:Ext w w9:=E6.trans e9
 change 0<=keyAt x.L c.args/\keyAt x.L c.args<=999 at hlr
 refine⟨hi,by rw[hhi];rfl,?_⟩
 rw[<-hlo,<-hhi] at hst1
 rw[<-hlo] at hkr
 rw[<-hhi] at hlr
 refine⟨by decide,fun b11 w12 a12=>.inl ((c108 (xs:=[(lo,hi)]) (OwS.new (n:=1) (sz:=2) (cs:=[(lo,hi)].flatMap sv) a12 rfl).rd (by simp)).use ?_)⟩
 rintro _ w14 ⟨t,l,rfl,hN,hl,hol,hll,e14,hbt⟩
 have E14:Ext w w14:=(E9.trans (a12.ch _)).trans e14
 have hl':∀j,hasS l j↔lo<=j/\j<=hi:=fun j=>by rw[hl,hasS_one];unfold mayS;dsimp only;omega
 refine⟨t,rfl,read_of (h.ext E14) (hd.ext E14) hol.rd hN (fun tr' rds' w17 hm hd' hc=>?_) fun w' hm e'=>?_⟩
 rotate_left
 ·have hm':¬ ∀q,lo<=q->q<=hi->c.mr q:=fun hm'=>hm fun k hk=>hm' k ((hl' k).1 hk).1 ((hl' k).1 hk).2
  rw[if_neg (by rw[bq_iff];exact hm')] at hst1
  have hX:=hS 9 w' hst1 ((E14.trans e').mono fun _ _ h=>h.elim)
  first|exact⟨rfl,hX⟩|exact fun _=>⟨rfl,hX⟩
 have hm':∀q,lo<=q->q<=hi->c.mr q:=fun q h1 h2=>hm q ((hl' q).2 ⟨h1,h2⟩)
 rw[ps_rd (q:=fun j=>s.rd j\/(lo<=j/\j<=hi)) fun j=>or_congr Iff.rfl (hl' j)] at hd'
 have hok:=stepI_ok hd.ok hst hx hX h.aok (by rw[hst1,if_pos (bq_iff.2 hm')])
 rw[if_pos (bq_iff.2 hm')] at hst1
 have hC:Ch (fun i=>i=b\/i=bm) w w17:=(E14.mono fun _ _ h=>h.elim).then hc fun _ _ e=>.inl e
 have hs9:=E9.size
 have B17:=(((((B2.ext e6).ext e9).ext (a12.ch _))).ext e14).ch hc fun i e=>e ▸ hlb
 have h17:=h.ch hC hd.hF
 have hs12:=a12.size
 refine⟨(),rfl,.inl ((c109 (hol.ch hc fun j hj e=>by(have:=hbt j hj;omega)).rd (by have:=normS_len hN;omega)).use ?_)⟩
 rintro _ w20 ⟨t21,ks,rfl,hks,hkm,hok20,hkl,e20,_⟩
 have hkm':∀k,k∈ks↔lo<=k/\k<=hi:=fun k=>(hkm k).trans (hl' k)
 have hkn:=hok20.len1
 rw[List.length_map] at hkn
 refine⟨t21,rfl,fun n x' W=>∃i:Nat,i<=ks.length/\n+i=ks.length/\x'=((((ks.take i).filter fun q=>(nowV (stP c.P) s.ch q).isSome).length:Int),(i:Int))/\Ext w20 W,⟨ks.length,0,Nat.zero_le _,rfl,rfl,Ch.refl _ _⟩,?_⟩
 rintro n _ W g ⟨i,hi',hni,rfl,hE⟩
 have E17:Ext w17 W:=e20.trans hE
 unfold F59j1
 refine IfB.dec (fun hlt=>?_) fun hge=>?_
 ·have hi2:i<ks.length:=by have:(i:Int)<(t21.n:Int):=hlt;omega
  have hx':ks[i]? =some ks[i]:=List.getElem?_eq_getElem hi2
  have hmem:=List.getElem_mem hi2
  have htk:=take_succ_get hx'
  have hfl:((ks.take i).filter fun q=>(nowV (stP c.P) s.ch q).isSome).length<=1000:=Nat.le_trans (List.length_filter_le _ _) (by rw[List.length_take];omega)
  generalize ks[i]=q at hx' hmem htk
  have hqr:=(hkm' q).1 hmem
  obtain⟨pb,po,hp,hcq⟩:=rdI_get (hok20.rd.ext hE) hx'
  refine⟨pb,po,hp,⟨by dsimp only;omega,hlt⟩,q,by dsimp only;rw[Int.toNat_natCast];exact hcq,.inl ((value_of (h17.ext E17) (hd'.ext E17) (k:=q) (by omega)).use ?_)⟩
  rintro _ w33 ⟨rfl,e33⟩
  have hn:nowV (stP c.P) ({ s with rd:=fun j=>s.rd j\/(lo<=j/\j<=hi) }:PS).ch q=nowV (stP c.P) s.ch q:=rfl
  refine⟨(_,_),rfl,IfB.intro (fun ht=>?_) fun ht=>?_⟩
  ·have ht':(nowV (stP c.P) s.ch q).isSome=true:=ht
   refine⟨rfl,n-1,by omega,i+1,hi2,by omega,?_,hE.trans e33⟩
   rw[htk,List.filter_append,List.length_append,List.filter_cons_of_pos (p:=fun q=>(nowV (stP c.P) s.ch q).isSome) ht',wrap_of (by dsimp only;omega) (by dsimp only;omega),wrap_of (by dsimp only;omega) (by dsimp only;omega)]
   rfl
  ·have ht':¬(nowV (stP c.P) s.ch q).isSome=true:=by rw[<-hn,show ((nowV (stP c.P) ({ s with rd:=fun j=>s.rd j\/(lo<=j/\j<=hi) }:PS).ch q).isSome)=false from ht];simp
   refine⟨rfl,n-1,by omega,i+1,hi2,by omega,?_,hE.trans e33⟩
   rw[htk,List.filter_append,List.length_append,List.filter_cons_of_neg (p:=fun q=>(nowV (stP c.P) s.ch q).isSome) ht',wrap_of (by dsimp only;omega) (by dsimp only;omega)]
   rfl
 ·have hi2:i=ks.length:=by have:¬(i:Int)<(t21.n:Int):=hge;omega
  subst hi2
  rw[List.take_length]
  have ED:Ext w17 W.drew:=E17.trans (extDrew _)
  refine⟨x.a,(B17.ext ED).cell 1,b,0,rfl,reg4 ha,rfl,?_⟩
  have hcnt:((ks.filter fun q=>(nowV (stP c.P) s.ch q).isSome).length:Int)=cntV (stP c.P) s.ch lo hi:=by unfold cntV;rw[cnt_perm hks hkm']
  dsimp only
  rw[hcnt]
  exact(hd'.ext ED).setReg ha hok fun w18 hd18 hc18=>hR _ w18 hst1 ⟨_,_,_,_,_,hd18⟩ ((hC.then ED fun _ _ h=>h.elim).then hc18 fun _ _ e=>.inl e)
abbrev chL(x:ChD):List Value:=lC47 x
theorem chL_len(x:ChD):(chL x).length=3:=rfl
theorem chL_one(x:ChD):One (chL x):=by intro v hv;simp at hv;rcases hv with rfl|rfl|rfl<;>rfl
structure OutM(n:Nat)(w:World)(tr tw tc:Sl)(o:OutD):Prop where
 rr:OwS w tr 2 (o.rds.flatMap sv)
 ww:OwS w tw 2 (o.wrs.flatMap sv)
 cc:OwS w tc 3 (o.chs.flatMap chL)
 br:∀i∈blk tr,n<=i
 bw:∀i∈blk tw,n<=i
 bc:∀i∈blk tc,n<=i
theorem OutM.ch{n:Nat}{w w':World}{tr tw tc:Sl}{o:OutD}{F:Nat->Prop}(h:OutM n w tr tw tc o)(hc:Ch F w w')(hF:∀i,n<=i->i<w.heap.size->¬F i):OutM n w' tr tw tc o:=
 ⟨h.rr.ch hc fun i hi=>hF i (h.br i hi) (h.rr.lt i hi),h.ww.ch hc fun i hi=>hF i (h.bw i hi) (h.ww.lt i hi),h.cc.ch hc fun i hi=>hF i (h.bc i hi) (h.cc.lt i hi),h.br,h.bw,h.bc⟩
theorem OutM.ext{n:Nat}{w w':World}{tr tw tc:Sl}{o:OutD}(h:OutM n w tr tw tc o)(e:Ext w w'):OutM n w' tr tw tc o:=h.ch e fun _ _ _=>id
abbrev outX(o:OutD)(tr tw tc:Sl):Int×Int×Int×Int×Int×Int×Sl×Sl×Sl:=(o.code,o.at',o.r.1,o.r.2.1,o.r.2.2.1,o.r.2.2.2,tr,tw,tc)
abbrev outL(o:OutD)(tr tw tc:Sl):List Value:=lC27 (outX o tr tw tc)
theorem outL_one(o:OutD)(tr tw tc:Sl):One (outL o tr tw tc):=by intro v hv;simp at hv;rcases hv with rfl|rfl|rfl|rfl|rfl|rfl|rfl|rfl|rfl<;>rfl
theorem F113_eq(l b:Nat)(W:World)(R:RV):F113 l b W R=KeysF Tryz.prog l b W R:=rfl
theorem it113{w:World}{b1:Nat}{mo:MO}{ks:List Int}(hI:KeysI b1 mo w)(hks:KeysE mo ks)(hl:ks.length<=1000000):IntIt 113 #[.pointer (some ⟨b1,0,none⟩)] w fun xs=>xs.Perm ks:=
 keysIt en113 (fun l W R h=>F113_ok l b1 W R (by rw[F113_eq];exact h)) hI hks hl
theorem chKeys{n0:Nat}{w:World}{c:CxD}{b bm:Nat}{s:PS}{tr tw:Sl}{rds wrs:List Spn}{f:List (Int×ChD)}(hd:DoR n0 w c b bm s tr tw rds wrs f){K:RV}
  (hK:∀(t:Sl)(xs:List Int)(w':World),xs.Pairwise (· < ·)->(∀k,k∈xs↔s.ch k≠none)->OwS w' t 1 (xs.map iv)->Ext w w'->(∀j∈blk t,w.heap.size<=j)->K (slV t) w'):
  Cx 65 #[.map (some bm)] w fun v w1=>∃x:Nat×Array Value,v=.func (.func x.1) #[] x.2/\Cx 64 #[.func (.func x.1) #[] x.2] w1 K:=by
 obtain⟨es,ck,hr,hks⟩:=mpKeys hd.map
 have hnd:(f.map (·.1)).Nodup:=hks.2.1
 have hkm:∀k,k∈f.map (·.1)↔s.ch k≠none:=fun k=>by
  rw[getM_key,hd.get]
  cases s.ch k<;>simp
 have hlen:(f.map (·.1)).length<=1000000:=by
  have:=nodup_le (a:=f.map (·.1)) (b:=ranI 0 1000) hnd fun k hk=>by
   rw[mem_ranI]
   have:=hd.ok.wk k ((hd.ok.wr k).2 ((hkm k).1 hk))
   omega
  rw[ranI_len] at this
  omega
 refine CW.use (F65_ok (some bm) w (fun v w'=>∃b1 T,v=.func (.func 113) #[] #[.pointer (some ⟨b1,0,none⟩)]/\IsAlloc w (.cells #[.map (some bm)] T (0,0)) b1 w') fun b1 w' a=>⟨b1,_,rfl,a⟩) ?_
 rintro _ w5 ⟨b1,T,rfl,a5⟩
 have e5:Ext w w5:=a5.ch _
 have hKI:KeysI b1 (some (bm,es,ck)) w5:=⟨⟨T,a5.new⟩,e5.at hr⟩
 refine⟨(113,_),rfl,(sorted_of (it113 hKI hks hlen)).use ?_⟩
 rintro _ w8 ⟨t,xs,ys,rfl,hp,hp2,_,hs,ho,e8,hb⟩
 have hpp:=hp2.trans hp
 exact hK t xs w8 (pw_le_lt hs (hpp.nodup_iff.2 hnd)) (fun k=>hpp.mem_iff.trans (hkm k)) ho (e5.trans e8) fun j hj=>by have:=hb j hj;have:=e5.size;omega
def chOf(s:PS)(ks:List Int):List ChD:=ks.filterMap fun k=>(s.ch k).map fun v=>(k,v)
theorem chOf_snoc{s:PS}{ks:List Int}{k:Int}{v:ChV}(h:s.ch k=some v):chOf s (ks++[k])=chOf s ks++[(k,v)]:=by simp[chOf,h]
theorem chOf_keys{s:PS}{ks:List Int}(h:∀k∈ks,s.ch k≠none):(chOf s ks).map (·.1)=ks:=by
 induction ks with
 | nil=>rfl
 | cons k l ih=>
  cases hc:s.ch k with
  | none=>exact absurd hc (h k (List.mem_cons_self ..))
  | some v=>
   have:chOf s (k::l)=(k,v)::chOf s l:=by simp[chOf,hc]
   rw[this,List.map_cons,ih fun j hj=>h j (List.mem_cons_of_mem _ hj)]
theorem mem_chOf{s:PS}{ks:List Int}(h:∀k,k∈ks↔s.ch k≠none)(c:ChD):c∈chOf s ks↔s.ch c.1=some c.2:=by
 unfold chOf
 rw[List.mem_filterMap]
 constructor
 ·rintro⟨k,hk,e⟩
  cases hc:s.ch k with
  | none=>rw[hc] at e;cases e
  | some v=>rw[hc] at e;cases e;exact hc
 ·intro e
  exact⟨c.1,(h c.1).2 (by rw[e];simp),by rw[e];rfl⟩
theorem chOf_len{s:PS}{ks:List Int}:(chOf s ks).length<=ks.length:=List.length_filterMap_le _ _
theorem c33{n0:Nat}{w:World}{c:CxD}{b bm:Nat}{s:PS}{tr tw:Sl}{rds wrs:List Spn}{f:List (Int×ChD)}(hd:DoR n0 w c b bm s tr tw rds wrs f)(hn:n0<=w.heap.size):
  Cw 33 #[pB b] w fun v w'=>∃tr tw tc o,v=.agg (outL o tr tw tc).toArray/\Done s o/\OutM n0 w' tr tw tc o/\Ext w w':=by
 refine F33_ok _ w _ fun b1 w2 a2=>?_
 have e2:Ext w w2:=a2.ch _
 have eD:Ext w w2.drew:=e2.trans (extDrew _)
 have regs:∀ {W:World},Ext w W->CellsAt W b (0+1) (rgL s.r):=fun{W} e i v hv=>by
  match i,hv with
  | 0,hv=>cases hv;exact(hd.ext e).cell 1
  | 1,hv=>cases hv;exact(hd.ext e).cell 2
  | 2,hv=>cases hv;exact(hd.ext e).cell 3
  | 3,hv=>cases hv;exact(hd.ext e).cell 4
 refine⟨b,0,rfl,s.r,regs eD,b,0,rfl,tr,(hd.ext eD).cell 7,b,0,rfl,tw,(hd.ext eD).cell 8,fun b12 w13 a12=>?_⟩
 have e13:Ext w w13:=eD.trans (a12.ch _)
 refine⟨(hd.ext e13).cell 8,(hd.ext e13).cell 7,regs e13,rfl,store_all a12.new rfl (by intro v hv;simp at hv;rcases hv with rfl|rfl|rfl|rfl|rfl|rfl|rfl|rfl|rfl<;>rfl) fun w14 h14=>?_⟩
 have e14:Ext w w14:=eD.trans (Ext.fresh a12 h14)
 have s2:=a2.size;have p2:=a2.here;have s12:=a12.size;have p12:=a12.here;have s14:=h14.size
 rw[show w2.drew.heap.size=w2.heap.size from rfl] at s12 p12
 refine⟨b,0,rfl,some bm,(hd.ext e14).cell 9,chKeys (hd.ext e14) fun t xs w22 hs hm ho e22 hb=>⟨t,rfl,?_⟩⟩
 have e22':Ext w w22:=e14.trans e22
 have s22:=e22.size
 have htn:=ho.len1
 rw[List.length_map] at htn
 have hkr:∀k∈xs,0<=k/\k<=999:=fun k hk=>hd.ok.wk k ((hd.ok.wr k).2 ((hm k).1 hk))
 have hxl:=srtI_len hs hkr
 have h22:w22.heap[b12]? =some (.cells (outL ⟨0,0,s.r,[],[],[]⟩ tr tw ⟨none,0,0⟩).toArray 27 (0,0)):=e22.at h14.new
 have D14:Ext w2 w14:=(extDrew w2).trans (Ext.fresh a12 h14)
 have h1w:=e22.at (D14.at a2.new)
 have hcm:∀k∈xs,s.ch k≠none:=fun k hk=>(hm k).1 hk
 refine⟨fun n x W=>∃(i:Nat)(so:Sl),i<=xs.length/\n+i=xs.length/\x=(i:Int)/\W.heap[b12]? =some (.cells (outL ⟨0,0,s.r,[],[],[]⟩ tr tw so).toArray 27 (0,0))/\OwS W so 3 ((chOf s (xs.take i)).flatMap chL)/\(∀j∈blk so,w22.heap.size<=j)/\Ch (fun j=>j=b12\/w22.heap.size<=j) w22 W,
  ⟨xs.length,0,⟨none,0,0⟩,Nat.zero_le _,rfl,rfl,h22,.nil _ _,by simp[blk],Ch.refl _ _⟩,?_⟩
 rintro n _ W g ⟨i,so,hi,hni,rfl,h12,hso,hbs,hC⟩
 have eW:Ext w W:=e22'.chN hC fun j hj=>by omega
 have hcl:(chOf s (xs.take i)).length<=i:=Nat.le_trans chOf_len (by rw[List.length_take];omega)
 have hsn:=owsN chL_len (by omega) hso
 unfold F33j1
 refine IfB.dec (fun hlt=>?_) fun hge=>?_
 ·have hi2:i<xs.length:=by omega
  have hx:xs[i]? =some xs[i]:=List.getElem?_eq_getElem hi2
  have hmem:=List.getElem_mem hi2
  have htk:=take_succ_get hx
  generalize xs[i]=k at hx hmem htk
  obtain⟨v,hv⟩:∃v,s.ch k=some v:=Option.ne_none_iff_exists'.1 (hcm k hmem)
  have hoW:=ho.ch hC fun j hj e=>by(have:=hb j hj;have:=ho.lt j hj;omega)
  obtain⟨pb,po,hp,hck⟩:=rdI_get hoW.rd hx
  have eWd:Ext w W.drew:=eW.trans (extDrew _)
  refine⟨pb,po,hp,⟨by omega,hlt⟩,k,by rw[Int.toNat_natCast];exact hck,so,boxAt h12 8 (extDrew _),b,0,rfl,some bm,(hd.ext eWd).cell 9,Mp.get (enc:=chE) (hd.ext eWd).map ?_⟩
  rw[hd.get,hv]
  refine⟨(k,v),rfl,boxAt h12 8 (extDrew _),by decide,fun b41 w42 a42=>?_⟩
  have e42:Ext W w42:=(extDrew W).trans (a42.ch _)
  refine⟨boxAt h12 8 e42,?_⟩
  refine(hso.ext e42).lit (new:=chL (k,v)) (T':=47) a42.new rfl (chL_one _) rfl rfl (by omega) (by decide) fun s' w45 ho' hn' hC' hb'=>?_
  have lt12:=heap_lt h12
  have nb:¬b12∈blk so:=fun h=>by have:=hbs b12 h;omega
  have h45:=hC'.at (e42.at h12) nb
  refine⟨rfl,store_one h45 (by simp) rfl fun w46 h46=>⟨rfl,n-1,by omega,i+1,s',hi2,by omega,by rw[wrap_of (by omega) (by omega)];rfl,?_,?_,?_,?_⟩⟩
  ·rw[h46.new];rfl
  ·rw[htk,chOf_snoc hv,List.flatMap_append]
   refine(show OwS w45 s' 3 _ from by simpa using ho').ch h46.ch fun j hj e=>?_
   rcases hb' j hj with h|h
   ·have:=hbs j h;omega
   ·have:=e42.size;omega
  ·intro j hj
   rcases hb' j hj with h|h
   ·exact hbs j h
   ·have:=e42.size;have:=hC.size;omega
  ·exact((hC.then e42 fun _ _ h=>h.elim).then hC' fun j _ h=>.inr (hbs j h)).then h46.ch fun j _ h=>.inl h
 ·have hi2:i=xs.length:=by omega
  subst hi2
  rw[List.take_length] at hso
  unfold F33k1
  have h1W:=hC.at h1w (by omega)
  refine⟨outX ⟨0,0,s.r,[],[],[]⟩ tr tw so,boxAll h12 (Ch.refl _ _),rfl,store_all h1W rfl (outL_one _ _ _ _) fun w49 h49=>⟨outX ⟨0,0,s.r,[],[],[]⟩ tr tw so,boxAll h49.new (Ch.refl _ _),?_⟩⟩
  have e49:Ext w w49:=eW.chN h49.ch fun j e=>by omega
  have hd49:=hd.ext e49
  refine⟨tr,tw,so,⟨0,0,s.r,rds,wrs,chOf s xs⟩,rfl,⟨rfl,rfl,rfl,hd.nr,hd.hr,hd.nw,hd.hw,by rw[chOf_keys hcm];exact hs,mem_chOf hm⟩,⟨hd49.rr,hd49.ww,hso.ch h49.ch fun j hj e=>(by have:=hbs j hj;omega),fun j hj=>(hd.br j hj).1,fun j hj=>(hd.bw j hj).1,fun j hj=>(by have:=hbs j hj;omega)⟩,e49⟩
def RightP(code:List InsD)(foot:List SpTD)(args:List Int):Prop:=ArgsOk args/\(code=[]\/CodeOk code args.length)/\FootOk foot args.length
theorem c28{w:World}{tc tf ta:Sl}{code:List InsD}{foot:List SpTD}{args:List Int}(hc:Rd w tc 9 (code.flatMap insC))(hf:Rd w tf 5 (foot.flatMap spTC))(ha:Rd w ta 1 (args.map iv)):
  Cw 28 #[.agg #[slV tc,slV tf],slV ta] w fun v w'=>∃r,v=.bool r/\(r=true↔RightP code foot args)/\Ext w w':=by
 have hn:=rdI ha
 have hcn:tc.n=code.length:=rdN insC_len (by omega) hc
 refine F28_ok (tc,tf) ta w _ fun b1 w2 a2=>?_
 have e2:Ext w w2:=a2.ch _
 have h1:w2.heap[b1]? =some (.cells [slV tc,slV tf].toArray _ (0,0)):=a2.new
 refine(c51 (-1,0) (ha.ext e2)).use ?_
 rintro _ w4 ⟨n,r,rfl,hr,_,e4⟩
 have E4:=e2.trans e4
 have hk:KeyOk (-1,0) (args.length:Int):=⟨by decide,by show (-1:Int)<_;omega,by decide,by decide⟩
 refine⟨(n,r),rfl,IfB.intro (fun hr1=>?_) fun hr1=>⟨false,rfl,⟨fun h=>(by cases h),fun h=>?_⟩,E4⟩⟩
 rotate_left
 ·have:r=false:=hr1
  rw[hr.2 ⟨hk,h.1⟩] at this;cases this
 have hao:=(hr.1 hr1).2
 refine⟨tc,boxAt h1 0 e4,IfB.intro (fun h0=>⟨tf,boxAt h1 1 e4,?_⟩) fun h0=>⟨tc,boxAt h1 0 e4,(c52 (hc.ext E4) (ta.n:Int)).use ?_⟩⟩
 ·have hz:(tc.n:Int)=0:=by simpa using h0
  have hc0:code=[]:=List.length_eq_zero_iff.1 (by omega)
  refine(c53 (hf.ext E4) (ta.n:Int)).use ?_
  rintro _ w9 ⟨r9,rfl,hr9,e9⟩
  rw[hn] at hr9
  exact⟨r9,rfl,r9,rfl,hr9.trans ⟨fun h=>⟨hao,.inl hc0,h⟩,fun h=>h.2.2⟩,E4.trans e9⟩
 ·have hc0:code≠[]:=fun e=>by
   subst e
   have:tc.n=0:=hcn
   rw[show ((tc.2:Int) == 0)=((tc.n:Int) == 0) from rfl,this] at h0
   cases h0
  rintro _ w13 ⟨r13,rfl,hr13,e13⟩
  rw[hn] at hr13
  have E13:=E4.trans e13
  refine⟨r13,rfl,IfB.intro (fun h13=>⟨tf,boxAt h1 1 (e4.trans e13),(c53 (hf.ext E13) (ta.n:Int)).use ?_⟩) fun h13=>⟨false,rfl,⟨fun h=>(by cases h),fun h=>?_⟩,E13⟩⟩
  ·rintro _ w17 ⟨r17,rfl,hr17,e17⟩
   rw[hn] at hr17
   exact⟨r17,rfl,r17,rfl,hr17.trans ⟨fun h=>⟨hao,.inr (hr13.1 h13),h⟩,fun h=>h.2.2⟩,E13.trans e17⟩
  ·rcases h.2.1 with h|h
   ·exact absurd h hc0
   ·rw[hr13.2 h] at h13;cases h13
abbrev dosL:List Value:=[.nilFunc,.func (.func 56) #[] #[],.func (.func 57) #[] #[],.func (.func 58) #[] #[],.func (.func 59) #[] #[],.func (.func 60) #[] #[],.func (.func 61) #[] #[],.func (.func 62) #[] #[],.func (.func 63) #[] #[]]
theorem dosL_one:One dosL:=by intro v hv;simp at hv;rcases hv with rfl|rfl|rfl|rfl|rfl|rfl|rfl|rfl|rfl<;>rfl
theorem c32(w:World):Cw 32 #[] w fun v w'=>v=.agg dosL.toArray/\Ext w w':=by
 refine F32_ok w _ fun b1 w2 a2=>⟨rfl,store_all a2.new rfl dosL_one fun w3 h3=>⟨dosL,?_,rfl,Ext.fresh a2 h3⟩⟩
 show CellsAt w3 b1 0 dosL
 exact boxAll h3.new (Ch.refl _ _)
theorem dos_at{o:Int}(h1:1<=o)(h8:o<=8):∃g,dosL[o.toNat]? =some (.func (.func g) #[] #[])/\InsP g o:=by
 have:o=1\/o=2\/o=3\/o=4\/o=5\/o=6\/o=7\/o=8:=by omega
 rcases this with rfl|rfl|rfl|rfl|rfl|rfl|rfl|rfl
 ·exact⟨_,rfl,get_of⟩
 ·exact⟨_,rfl,put_of⟩
 ·exact⟨_,rfl,gone_of⟩
 ·exact⟨_,rfl,scan_of⟩
 ·exact⟨_,rfl,set_of⟩
 ·exact⟨_,rfl,add_of⟩
 ·exact⟨_,rfl,sub_of⟩
 ·exact⟨_,rfl,guard_of⟩
theorem c14{w:World}{tc tf ta:Sl}{code:List InsD}{foot:List SpTD}{args:List Int}{r:Rg}{bS:Nat}{P:List (List Pr)}{asked:Bool}
  (hc:Rd w tc 9 (code.flatMap insC))(hf:Rd w tf 5 (foot.flatMap spTC))(ha:Rd w ta 1 (args.map iv))(hS:StA (fun i=>i<w.heap.size) w bS P)(hI:Inv P)(hst:∀k v,stP P k=some v->I64 v)(hr:RgOk r)(hX:∀x∈code,I64 x.X):
  Cw 14 #[.agg #[slV tc,slV tf],slV ta,.agg (rgL r).toArray,.pointer (some ⟨bS,0,none⟩),.bool asked] w fun v w'=>∃tr tw th o,v=.agg (outL o tr tw th).toArray/\
   IsOut (RightP code foot args) (stP P) (fun k=>asked=false\/hasS (footR foot args) k) (fun k=>asked=false\/hasS (footW foot args) k) args code r o/\OutM w.heap.size w' tr tw th o/\Ext w w':=by
 have hcn:tc.n=code.length:=rdN insC_len (by omega) hc
 refine F14_ok (tc,tf) ta r (some ⟨bS,0,none⟩) asked w _ DrS drS_ok fun b1 w2 a2 b3 w4 a4 b5 w6 a6 b7 w8 a8 b9 w10 a10=>?_
 have s2:=a2.size;have s4:=a4.size;have s6:=a6.size;have s8:=a8.size;have s10:=a10.size
 have p2:=a2.here;have p4:=a4.here;have p6:=a6.here;have p8:=a8.here;have p10:=a10.here
 have e10:Ext w w10:=((((a2.ch _).trans (a4.ch _)).trans (a6.ch _)).trans (a8.ch _)).trans (a10.ch _)
 have x4:Ext w4 w10:=((a6.ch _).trans (a8.ch _)).trans (a10.ch _)
 have x6:Ext w6 w10:=(a8.ch _).trans (a10.ch _)
 have x8:Ext w8 w10:=a10.ch _
 have x2:Ext w2 w10:=(a4.ch _).trans x4
 have h1:w10.heap[b1]? =some (.cells [slV tc,slV tf].toArray _ (0,0)):=x2.at a2.new
 have h3:w10.heap[b3]? =some (.cells [slV ta].toArray _ (0,0)):=x4.at a4.new
 have h5:w10.heap[b5]? =some (.cells (rgL r).toArray _ (0,0)):=x6.at a6.new
 have h7:w10.heap[b7]? =some (.cells [.bool asked].toArray _ (0,0)):=x8.at a8.new
 have h9:=a10.new
 refine⟨(tc,tf),boxAll h1 (Ch.refl _ _),ta,boxAt h3 0 (Ch.refl _ _),.inl ((c28 (hc.ext e10) (hf.ext e10) (ha.ext e10)).use ?_)⟩
 rintro _ w14 ⟨rr,rfl,hrr,e14⟩
 have E14:Ext w w14:=e10.trans e14
 have s14:=e14.size
 refine⟨rr,rfl,IfB.intro (fun hn=>?_) fun hn=>?_⟩
 ·have hn:¬RightP code foot args:=fun h=>by rw[hrr.2 h] at hn;cases hn
  refine⟨r,boxAll h5 e14,rfl,store_all (e14.at h9) rfl (outL_one ⟨1,0,r,[],[],[]⟩ ⟨none,0,0⟩ ⟨none,0,0⟩ ⟨none,0,0⟩) fun w17 h17=>⟨outX ⟨1,0,r,[],[],[]⟩ ⟨none,0,0⟩ ⟨none,0,0⟩ ⟨none,0,0⟩,boxAll h17.new (Ch.refl _ _),?_⟩⟩
  exact⟨_,_,_,⟨1,0,r,[],[],[]⟩,rfl,⟨fun _=>rfl,fun h=>absurd h hn⟩,⟨.nil _ _,.nil _ _,.nil _ _,by simp[blk],by simp[blk],by simp[blk]⟩,E14.chN h17.ch fun j e=>by omega⟩
 have hok:RightP code foot args:=hrr.1 (by simpa using hn)
 unfold F14k1
 intro b19 w20 a20
 refine⟨rfl,store_all a20.new rfl (oneIv 0) fun w21 h21=>?_⟩
 have e21:Ext w14 w21:=Ext.fresh a20 h21
 have E21:Ext w10 w21:=e14.trans e21
 have s20:=a20.size;have p20:=a20.here;have s21:=h21.size
 refine⟨ta,boxAt h3 0 E21,r,boxAll h5 E21,fun b24 w25 a24 b26 w27 a26=>⟨b26,0,rfl,rfl,store_one a26.new (by simp) rfl fun w30 h30=>?_⟩⟩
 have s25:=a24.size;have p24:=a24.here;have s27:=a26.size;have p26:=a26.here;have s30:=h30.size
 have e30:Ext w21 w30:=((a24.ch _).trans (a26.ch _):Ext w21 w27).chN h30.ch fun j e=>by omega
 obtain⟨c,hcd⟩:∃c:CxD,c=⟨b1,b3,b7,bS,tc,tf,ta,code,foot,args,asked,P⟩:=⟨_,rfl⟩
 have E30:Ext w10 w30:=E21.trans e30
 have EW30:Ext w w30:=e10.trans E30
 have stC:StC w14.heap.size w30 c:=by
  subst hcd
  exact⟨⟨_,E30.at h1⟩,⟨_,E30.at h3⟩,⟨_,E30.at h7⟩,by show b1<_;omega,by show b3<_;omega,by show b7<_;omega,hc.ext EW30,fun h0 i hi=>(by have:=rd_lt hc (by omega) h0 i hi;omega),hf.ext EW30,fun h0 i hi=>(by have:=rd_lt hf (by omega) h0 i hi;omega),ha.ext EW30,fun h0 i hi=>(by have:=rd_lt ha (by omega) h0 i hi;omega),(hS.ext EW30).mono fun i _ hi=>(by have hi:i<w.heap.size:=hi;show i<_;omega),hI,hok.2.2,hok.1⟩
 have doM:DoM w21.heap.size w30 c b26 b24 (ps0 r):=by
  subst hcd
  refine⟨⟨none,0,0⟩,⟨none,0,0⟩,[],[],[],⟨_,h30.new⟩,.nil _ _,⟨.nil,by simp⟩,fun k=>by simp[hasS,ps0],by simp[blk],.nil _ _,⟨.nil,by simp⟩,fun k=>by simp[hasS,ps0],by simp[blk],(((Mp.new (enc:=chE) a24).ext (a26.ch _)).ch h30.ch fun e=>by omega),fun k=>rfl,by omega,by omega,by omega,ps0_ok hr⟩
 refine .inl ((c32 w30).use ?_)
 rintro _ w32 ⟨rfl,e32⟩
 refine⟨dosL,rfl,fun b34 w35 a34=>⟨rfl,store_all a34.new rfl dosL_one fun w36 h36=>?_⟩⟩
 have e36:Ext w30 w36:=e32.trans (Ext.fresh a34 h36)
 have s32:=e32.size;have s35:=a34.size;have p34:=a34.here;have s36:=h36.size
 have E36:Ext w10 w36:=E30.trans e36
 have EW36:Ext w w36:=e10.trans E36
 have E2136:Ext w21 w36:=e30.trans e36
 obtain⟨tr0,tw0,rds0,wrs0,f0,doR⟩:=doM
 have h19:w36.heap[b19]? =some (.cells [iv 0].toArray _ (0,0)):=E2136.at h21.new
 have h34:w36.heap[b34]? =some (.cells dosL.toArray _ (0,0)):=h36.new
 have hcl:code.length<=8:=by
  rcases hok.2.1 with h|h
  ·subst h;simp
  ·exact h.l8
 have hcok:∀x∈code,InsOk x args.length:=fun x hx=>by
  rcases hok.2.1 with h|h
  ·subst h;cases hx
  ·exact h.all x hx
 have cP:c.P=P:=by rw[hcd]
 have cA:c.args=args:=by rw[hcd]
 have cR:c.mr=fun k=>asked=false\/hasS (footR foot args) k:=by rw[hcd];rfl
 have cW:c.mw=fun k=>asked=false\/hasS (footW foot args) k:=by rw[hcd];rfl
 rw[<-cR,<-cW]
 have stC36:StC w14.heap.size w36 c:=stC.ext e36
 have hh9:=E36.at h9
 have hh5:=E36.at h5
 refine⟨tc,boxAt h1 0 E36,fun n x W=>∃(i:Nat)(s:PS),i<=code.length/\n+i=code.length/\x=(i:Int)/\runI (stP P) c.mr c.mw args (code.take i) 0 (ps0 r)=.inr s/\DoM w21.heap.size W c b26 b24 s/\(∃a:Int,W.heap[b19]? =some (.cells [iv a].toArray 3 (0,0)))/\Ch (fun j=>j=b19\/j=b26\/j=b24) w36 W,
  ⟨code.length,0,ps0 r,Nat.zero_le _,rfl,rfl,rfl,⟨_,_,_,_,_,doR.ext e36⟩,⟨0,h19⟩,Ch.refl _ _⟩,?_⟩
 rintro n _ W g ⟨i,s,hi,hni,rfl,hrun,hdo,⟨a19,h19W⟩,hC⟩
 have EW:Ext w W:=EW36.chN hC fun j hj=>by omega
 have stW:StC w14.heap.size W c:=stC36.ch hC fun j hj=>by omega
 have hsW:=hC.size
 have hW9:=hC.at hh9 (by omega)
 have hW5:=hC.at hh5 (by omega)
 unfold F14j1
 refine IfB.dec (fun hlt=>?_) fun hge=>?_
 ·have hi2:i<code.length:=by omega
  have hx:code[i]? =some code[i]:=List.getElem?_eq_getElem hi2
  have hmem:=List.getElem_mem hi2
  generalize code[i]=x at hx hmem
  have hxo:=hcok x hmem
  have hxX:=hX x hmem
  obtain⟨pb,po,hp,hcx⟩:=(hc.ext EW).elem (i:=i) (by omega) (by omega) (flatGet insC_len hx)
  unfold F14k3
  refine⟨pb,po,hp,⟨by omega,hlt⟩,insX x,by rw[Int.toNat_natCast];exact hcx,fun b48 w49 a48=>⟨rfl,store_all a48.new rfl (insC_one x) fun w50 h50=>⟨rfl,?_⟩⟩⟩
  have e50:Ext W w50:=Ext.fresh a48 h50
  have p48:=a48.here;have s49:=a48.size;have s50:=h50.size
  refine store_one (e50.at h19W) (by simp) rfl fun w51 h51=>?_
  have k48:w51.drew.heap[b48]? =some (.cells (insC x).toArray _ (0,0)):=h51.ch.at h50.new (by omega)
  have C51:Ch (fun j=>j=b19) W w51.drew:=((e50.mono fun _ _ h=>h.elim).then h51.ch fun _ _ h=>h).thenExt (extDrew _)
  have k19:w51.drew.heap[b19]? =some (.cells [iv (i:Int)].toArray 3 (0,0)):=by show w51.heap[b19]? =_;rw[h51.new];rfl
  have k34:w51.drew.heap[b34]? =some (.cells dosL.toArray _ (0,0)):=C51.at (hC.at h34 (by omega)) (by omega)
  have k9:=C51.at hW9 (by omega)
  have k5:=C51.at hW5 (by omega)
  have s51:w51.drew.heap.size=w50.heap.size:=h51.size
  have hdo':DoM w21.heap.size w51.drew c b26 b24 s:=by
   obtain⟨tr,tw,rds,wrs,f,⟨T,d1⟩,d2,d3,d4,d5,d6,d7,d8,d9,d10,d11,d12,d13,d14,d15⟩:=hdo
   exact⟨tr,tw,rds,wrs,f,⟨T,C51.at d1 (by omega)⟩,d2.ch C51 fun j hj e=>(by have:=(d5 j hj).1;omega),d3,d4,d5,d6.ch C51 fun j hj e=>(by have:=(d9 j hj).1;omega),d7,d8,d9,d10.ch C51 (by omega),d11,d12,d13,d14,d15⟩
  obtain⟨gf,hgf,hins⟩:=dos_at hxo.o1 hxo.o8
  have st51:StC w21.heap.size w51.drew c:=(stW.ch C51 fun j hj=>by omega).mono (by omega)
  have hop:x.1.toNat<9:=by have:=hxo.o8;omega
  refine⟨x.1,boxAt k48 0 (Ch.refl _ _),⟨by have:=hxo.o1;omega,by have:=hxo.o8;omega⟩,(gf,#[]),by rw[boxAt k34 x.1.toNat (Ch.refl _ _)];exact hgf,insX x,boxAll k48 (Ch.refl _ _),?_⟩
  refine hins (s:=s) st51 hdo' (by rw[cA];exact hxo) hxX (by rw[cP];exact hst) rfl (fun s' w56 hst' hd56 hC56=>?_) fun e w60 hst' hC60=>?_
  ·rw[cP,cA] at hst'
   refine⟨(),rfl,rfl,n-1,by omega,i+1,s',hi2,by omega,by rw[wrap_of (by omega) (by omega)];rfl,runI_next hx hrun hst',hd56,⟨(i:Int),hC56.at k19 (by omega)⟩,?_⟩
   exact(hC.then C51 fun j _ e=>.inl e).then hC56 fun j _ e=>.inr e
  ·rw[cP,cA] at hst'
   have r19:=hC60.at k19 (by omega)
   have r9:=hC60.at k9 (by omega)
   have r5:=hC60.at k5 (by omega)
   have s60:=hC60.size
   have E60:Ext w w60:=(EW.chN C51 fun j e=>by omega).chN hC60 fun j e=>by omega
   have hfail:=runI_fail hx hrun hst'
   refine fun _=>⟨b19,b5,b9,rfl,e,rfl,false,eqErr _ _,IfB.yes rfl ⟨rfl,fun b2 v3 a=>⟨rfl,store_all a.new rfl (oneIv e) fun v4 h4=>IfB.no rfl ?_⟩⟩⟩
   have e4:Ext w60 v4:=Ext.fresh a h4
   refine⟨e,by rw[cell_of h4.new];rfl,(i:Int),boxAt r19 0 e4,r,boxAll r5 e4,rfl,store_all (e4.at r9) rfl (outL_one ⟨e,(i:Int),r,[],[],[]⟩ ⟨none,0,0⟩ ⟨none,0,0⟩ ⟨none,0,0⟩) fun v8 h8=>⟨rfl,outX ⟨e,(i:Int),r,[],[],[]⟩ ⟨none,0,0⟩ ⟨none,0,0⟩ ⟨none,0,0⟩,boxAll h8.new (Ch.refl _ _),?_⟩⟩
   refine⟨_,_,_,⟨e,(i:Int),r,[],[],[]⟩,rfl,⟨fun h=>absurd hok h,fun _=>by rw[hfail]⟩,⟨.nil _ _,.nil _ _,.nil _ _,by simp[blk],by simp[blk],by simp[blk]⟩,(E60.trans e4).chN h8.ch fun j e=>by omega⟩
 ·have hi2:i=code.length:=by omega
  subst hi2
  rw[List.take_length] at hrun
  obtain⟨tr,tw,rds,wrs,f,hd⟩:=hdo
  unfold F14k2
  refine .inl ((c33 hd (by omega)).use ?_)
  rintro _ w65 ⟨tr',tw',th',o,rfl,hD,hO,e65⟩
  have k9:=e65.at hW9
  refine⟨outX o tr' tw' th',rfl,rfl,store_all k9 rfl (outL_one o tr' tw' th') fun w67 h67=>⟨b19,b5,b9,rfl,outX o tr' tw' th',boxAll h67.new (Ch.refl _ _),?_⟩⟩
  have hO':=hO.ch h67.ch fun j hj _ e=>by omega
  refine⟨tr',tw',th',o,rfl,⟨fun h=>absurd hok h,fun _=>by rw[hrun];exact hD⟩,⟨hO'.rr,hO'.ww,hO'.cc,fun j hj=>(by have:=hO'.br j hj;omega),fun j hj=>(by have:=hO'.bw j hj;omega),fun j hj=>(by have:=hO'.bc j hj;omega)⟩,(EW.trans e65).chN h67.ch fun j e=>by omega⟩
def delR(P:List (List Pr))(k:Int):Int:=if 0<=k/\k<=999 then (if hasP P k then 0 else 5) else 3
def delQ(P:List (List Pr))(k:Int):List (List Pr):=if 0<=k/\k<=999 then (if hasP P k then delP P k else P) else P
theorem c72neg(p:Option Addr)(w:World):Cw 80 #[.pointer p,.int .i64 (-1)] w fun r w'=>r=.bool false/\Ext w w':=
 F80_ok _ _ _ _ (IfB.yes (by decide) ⟨rfl,extDrew w⟩)
theorem c48{A:Nat->Prop}{w:World}{b:Nat}{P:List (List Pr)}(h:StA A w b P)(hI:Inv P)(k:Int):
  Cw 48 #[.pointer (some ⟨b,0,none⟩),.int .i64 k] w fun r w'=>r=.int .i64 (delR P k)/\StA (New A w) w' b (delQ P k)/\Ch A w w':=by
 obtain⟨s,ps,hS,hP,hA⟩:=h
 refine F48_ok _ _ _ _ ((c35 _ _ _).use ?_)
 rintro _ _ ⟨rfl,rfl⟩
 unfold delR delQ
 refine⟨_,rfl,IfB.intro (fun hr=>?_) (fun hr=>?_)⟩
 ·have hk:¬(0<=k/\k<=999):=fun h=>by simp[h] at hr
  rw[if_neg hk,if_neg hk]
  exact⟨rfl,⟨s,ps,hS,hP,fun i hi=>.inl (hA i hi)⟩,Ch.refl _ _⟩
 have hk:0<=k/\k<=999:=by simpa using hr
 rw[if_pos hk,if_pos hk]
 refine(c36 hS hP hI hk).use ?_
 rintro _ w5 ⟨rfl,e5⟩
 have hS5:=hS.ext e5
 have hC5:Ch A w w5:=e5.mono fun _ _ h=>h.elim
 by_cases hne:P=[]
 ·subst hne
  exact⟨(0,0,false),rfl,IfB.yes rfl ⟨rfl,⟨s,ps,hS5,hP,fun i hi=>.inl (hA i hi)⟩,hC5⟩⟩
 have hAt:=atP_is hI hne k
 rw[findV_some hne]
 refine⟨(_,_,_),rfl,?_⟩
 cases hh:hasP P k with
 | false=>exact IfB.yes (by show (!(hasP P k))=true;rw[hh];rfl) ⟨rfl,⟨s,ps,hS5,hP,fun i hi=>.inl (hA i hi)⟩,hC5⟩
 | true=>
  obtain⟨L,x,R,rfl,hL,hx,hLm,hRm⟩:=split_at hP hAt
  have hi':isP x.2 k=true:=by rw[hx];exact hh
  obtain⟨u,hu⟩:=isP_iff.1 hi'
  have e6:=extDrew w5
  have hS6:=hS5.ext e6
  obtain⟨hH,ho,hf⟩:=hS6.hole
  obtain⟨a,ha,hca⟩:=hH.pageCell
  have hsn:s.n=L.length+R.length+1:=hH.n
  have hxn:x.1.n=x.2.length:=by have:=ho.len;rw[prs_len] at this;omega
  have hpl:=(List.getElem?_eq_some_iff.1 hu).1
  have h8:=hI.few _ hAt.mem
  have hsr:=hAt.srt
  have hpl2:=hI.plen
  have hLR:L.length+R.length<=1000:=by
   have:=congrArg List.length hP;simp at this;omega
  rw[<-hx] at h8 hsr ⊢
  have hba:(0:Int)<=(atP P k:Int)/\(atP P k:Int)<(s.n:Int):=⟨by omega,by omega⟩
  have w1:IntKind.i64.wrap ((posP x.2 k:Int)+(1:Int))=((posP x.2 k+1:Nat):Int):=by rw[wrap_of (by omega) (by omega)];rfl
  have w2:IntKind.i64.wrap ((atP P k:Int)+(1:Int))=((L.length+1:Nat):Int):=by rw[wrap_of (by omega) (by omega)];omega
  have hcell:∀w' c,StH w' b s L c R->∀a',s.p=some ⟨a',0,none⟩->w'.cell? ⟨a',0+(atP P k:Int).toNat,none⟩=some c:=fun w' c h a' ha'=>by
   obtain⟨a2,ha2,hc2⟩:=h.pageCell
   rw[ha'] at ha2;cases ha2
   rw[Int.toNat_natCast,Nat.zero_add,<-hL];exact hc2
  refine IfB.no (by show (!(isP x.2 k))=false;rw[hi'];rfl) ⟨b,0,rfl,s,hS6.cell,b,0,rfl,s,hS6.cell,a,0,ha,hba,x.1,hcell _ _ hH a ha,?_⟩
  dsimp only
  rw[w1,w2]
  refine(c78 ho (by omega) hpl).use ?_
  rintro _ w17 ⟨t',rfl,ho',hc',hb',hn'⟩
  have hq:x.2.take (posP x.2 k)++x.2.drop (posP x.2 k+1)=delS x.2 k:=(delS_is hsr hi').symm
  rw[hq] at ho'
  have hH17:=hH.ch hc' fun j hj hjx=>hf j hjx hj
  have hf':FreeOf b s (L++R) t':=fun j hj=>hf j (hb' ▸ hj)
  refine⟨t',rfl,hH17.cell,a,0,ha,hba,rfl,?_⟩
  rw[Int.toNat_natCast,Nat.zero_add,<-hL]
  refine hH17.store ha rfl fun w21 hH21 hc21=>?_
  have ho21:=ho'.ch hc21 fun j hj hjs=>hf' j hj (.inr (.inl hjs))
  have hS21:St w21 b s (L++(t',delS x.2 k)::R):=StH.fill (x:=(t',delS x.2 k)) hH21 ho21 hf'
  have hC6:Ch A w w5.drew:=hC5.thenExt e6
  have hC21:Ch A w w21:=(hC6.thenNew hc' fun j hj=>.inl (hA j (inSt_at hj))).thenNew hc21 fun j hj=>.inl (hA j (.inr (.inl hj)))
  have hA21:∀j,inSt b s (L++(t',delS x.2 k)::R) j->A j:=fun j hj=>by
   rcases inSt_hole hj with h|h
   ·exact hA j (inSt_of h)
   ·exact hA j (inSt_at (hb' ▸ h))
  have hP21:(L++(t',delS x.2 k)::R).map (·.2)=cutP P k:=by
   unfold cutP;rw[<-hx];simp[hLm,hRm]
  have hql:(delS x.2 k).length=x.2.length-1:=by rw[<-hq];simp;omega
  rw[hL]
  refine⟨b,0,rfl,s,hH21.cell,a,0,ha,hba,t',by rw[<-hL];obtain⟨a2,ha2,hc2⟩:=hH21.pageCell;rw[ha] at ha2;cases ha2;rw[Nat.zero_add];exact hc2,?_⟩
  refine IfB.intro (fun h0=>?_) (fun h0=>?_)
  ·have hq0:delS x.2 k=[]:=by
    have:(t'.n:Int)=0:=eq_of_beq h0
    exact List.eq_nil_of_length_eq_zero (by omega)
   have harr:OwS w21 s 1 (((L++(t',delS x.2 k)::R).map (·.1)).map slV):=by rw[List.map_map];exact hS21.arr
   refine⟨b,0,rfl,s,hH21.cell,?_⟩
   rw[<-hL]
   refine(c79 harr (by simp;omega) (by simp)).use ?_
   rintro _ w32 ⟨s33,rfl,ho33,hc33,hb33⟩
   have hlist:((L++(t',delS x.2 k)::R).map (·.1)).take L.length++((L++(t',delS x.2 k)::R).map (·.1)).drop (L.length+1)=(L++R).map (·.1):=by
    rw[<-List.map_take,<-List.map_drop,List.take_append,List.drop_append,List.drop_of_length_le (by omega),Nat.add_sub_cancel_left]
    simp
   rw[hlist,List.map_map] at ho33
   refine⟨s33,rfl,b,0,rfl,rfl,setBox2 (x:=x) hH21 ho33 hc33 hb33 fun w36 hS36 hc36=>?_⟩
   refine⟨rfl,⟨s33,_,hS36,?_,?_⟩,(hC21.thenNew hc33 fun j hj=>.inl (hA j (.inr (.inl hj)))).thenNew hc36 fun j hj=>.inl (hA j (.inl hj))⟩
   ·unfold delP
    dsimp only
    rw[<-hx,if_pos hq0]
    simp[hLm,hRm]
   ·rintro j (rfl|h|⟨z,hz,h⟩)
    ·exact .inl (hA _ (.inl rfl))
    ·exact .inl (hA j (.inr (.inl (hb33 ▸ h))))
    ·exact .inl (hA j (inSt_of (.inr (.inr ⟨z,hz,h⟩))))
  ·have hq0:delS x.2 k≠[]:=fun e=>by
    have:¬((t'.n:Int) == (0:Int))=true:=by rw[h0];simp
    apply this
    rw[e] at hql
    simp at hql
    simp;omega
   have hq0':¬delS (P.getD (atP P k) []) k=[]:=by rw[<-hx];exact hq0
   have hcI:=cutP_inv hI hAt hq0'
   have hdel:delP P k=if canJ (cutP P k) (atP P k) then joinP (cutP P k) (atP P k) else if 0<atP P k/\canJ (cutP P k) (atP P k-1) then joinP (cutP P k) (atP P k-1) else cutP P k:=by
    unfold delP;dsimp only;rw[if_neg hq0'];rfl
   refine(c80 hS21 hP21 hC21 (fun j hj=>.inl (hA21 j hj)) hcI.flen hcI.plen (atP P k) (by omega)).use ?_
   rintro _ w38 ⟨rfl,hC38,s38,ps38,hS38,hP38,hA38⟩
   refine⟨_,rfl,?_⟩
   cases hc:canJ (cutP P k) (atP P k) with
   | true=>
    rw[hc] at hP38
    simp only[if_true] at hP38
    refine IfB.no rfl ⟨rfl,⟨s38,ps38,hS38,?_,hA38⟩,hC38⟩
    simp only[if_true]
    rw[hdel,hc,hP38];rfl
   | false=>
    rw[hc] at hP38
    simp only[Bool.false_eq_true,if_false] at hP38
    refine IfB.yes rfl ?_
    by_cases ha0:atP P k=0
    ·have e1:IntKind.i64.wrap ((atP P k:Int)-(1:Int))= -1:=by rw[ha0];decide
     rw[e1]
     refine(c72neg _ w38).use ?_
     rintro _ w41 ⟨rfl,e41⟩
     refine⟨_,rfl,rfl,⟨s38,ps38,hS38.ext e41,?_,hA38⟩,hC38.thenExt e41⟩
     simp only[if_true]
     rw[hdel,hc,hP38,ha0];simp
    ·have e1:IntKind.i64.wrap ((atP P k:Int)-(1:Int))=((atP P k-1:Nat):Int):=by rw[wrap_of (by omega) (by omega)];omega
     rw[e1]
     refine(c80 hS38 hP38 hC38 hA38 hcI.flen hcI.plen (atP P k-1) (by omega)).use ?_
     rintro _ w41 ⟨rfl,hC41,s41,ps41,hS41,hP41,hA41⟩
     refine⟨_,rfl,rfl,⟨s41,ps41,hS41,?_,hA41⟩,hC41⟩
     simp only[if_true]
     rw[hdel,hc,hP41]
     simp only[Bool.false_eq_true,if_false,show 0<atP P k from Nat.pos_of_ne_zero ha0,true_and]
theorem St.stb{n:Nat}{w w':World}{b:Nat}{s:Sl}{ps:List Pg}(h:St w b s ps)(hS:Stb n w w'):St w' b s ps:=by
 obtain⟨T,hT⟩:=h.box
 exact⟨⟨T,hS.keep _ _ hT rfl⟩,h.arr.stb hS,fun x hx=>(h.pg x hx).stb hS,h.nd,h.sep,h.self⟩
def flatS(ps:List Pg):List Pr:=ps.flatMap (·.2)
theorem flatS_eq{ps:List Pg}{P:List (List Pr)}(hP:ps.map (·.2)=P):flatS ps=P.flatten:=by rw[<-hP];rfl
def InvI(b1 b:Nat)(s:Sl)(ps:List Pg)(W:World):Prop:=(∃T,W.heap[b1]? =some (.cells #[.pointer (some ⟨b,0,none⟩)] T (0,0)))/\St W b s ps
abbrev prA(x:Pr):Array Value:=#[.agg #[.int .i64 x.1,.int .i64 x.2]]
theorem it77(b1 b:Nat)(s:Sl)(ps:List Pg)(hl:(flatS ps).length<=1000000)(hpl:ps.length<=1000000):Iter Tryz.prog 77 #[.pointer (some ⟨b1,0,none⟩)] prA false (fun pre x=>∃post,pre++x::post=flatS ps) (fun xs=>xs=flatS ps) (InvI b1 b s ps):=by
 refine⟨en77,fun l J Jx W hJ hJx hInv hSz _ hstep h0=>?_⟩
 obtain⟨⟨T,hT⟩,hS⟩:=hInv _ _ h0
 have hcell:W.cell? ⟨b1,0,none⟩=some (.pointer (some ⟨b,0,none⟩)):=by rw[cell_of hT];rfl
 have hsn:s.n=ps.length:=hS.n
 refine F77_ok l b1 W _ ⟨some ⟨b,0,none⟩,hcell,IfB.no rfl ⟨_,hcell,b,0,rfl,s,hS.cell,?_⟩⟩
 refine⟨fun n x w5=>∃i:Nat,i<=ps.length/\n+i=ps.length/\x=(i:Int)/\W.heap.size<=w5.heap.size/\J (flatS (ps.take i)) w5,⟨ps.length,0,Nat.zero_le _,rfl,rfl,Nat.le_refl _,h0⟩,?_⟩
 rintro n _ w5 g ⟨i,hi,hni,rfl,hw5,hj⟩
 unfold F77j1
 refine IfB.dec (fun hlt=>?_) (fun hge=>?_)
 ·have hi':i<ps.length:=by
   have:(i:Int)<(s.n:Int):=hlt
   omega
  have hx:ps[i]? =some ps[i]:=List.getElem?_eq_getElem hi'
  generalize ps[i]=y at hx
  obtain⟨_,hS5⟩:=hInv _ _ hj
  obtain⟨a,ha,hc,hox,hxn⟩:=hS5.page hx
  have hyl:y.2.length<=(flatS ps).length:=by
   have:y.2.Sublist (flatS ps):=by
    rw[flatS_eq rfl]
    exact List.sublist_flatten_of_mem (List.mem_map_of_mem (List.mem_of_getElem? hx))
   exact this.length_le
  refine⟨a,0,ha,(⟨by omega,by omega⟩:(0:Int)<=(i:Int)/\(i:Int)<(s.n:Int)),y.1,by rw[Int.toNat_natCast,Nat.zero_add];exact hc,?_⟩
  refine⟨fun m x w20=>∃j:Nat,j<=y.2.length/\m+j=y.2.length/\x=(j:Int)/\W.heap.size<=w20.heap.size/\J (flatS (ps.take i)++y.2.take j) w20,⟨y.2.length,0,Nat.zero_le _,rfl,rfl,hw5,by simpa using hj⟩,?_⟩
  rintro m _ w20 g ⟨j,hj1,hmj,rfl,hw20,hJ20⟩
  unfold F77j2
  refine IfB.dec (fun hlt2=>?_) (fun hge2=>?_)
  ·have hj':j<y.2.length:=by
    have:(j:Int)<(y.1.n:Int):=hlt2
    omega
   have hz:y.2[j]? =some y.2[j]:=List.getElem?_eq_getElem hj'
   generalize y.2[j]=z at hz
   obtain⟨_,hS20⟩:=hInv _ _ hJ20
   obtain⟨_,_,_,hoy,_⟩:=hS20.page hx
   obtain⟨a2,ha2,hc2⟩:=pageE hoy hz
   refine⟨a2,0,ha2,(⟨by omega,by omega⟩:(0:Int)<=(j:Int)/\(j:Int)<(y.1.n:Int)),z,by rw[Int.toNat_natCast,Nat.zero_add];exact hc2,?_⟩
   intro b26 w27 h27
   refine⟨rfl,store_all h27.new rfl (by intro v hv;simp at hv;rcases hv with rfl|rfl<;>rfl) fun w28 h28=>⟨z,cellsAt_of h28.new fun q v hv=>by simpa using hv,?_⟩⟩
   have hJ28:=hJ _ _ _ hJ20 (Stb.fresh h27 h28 hw20)
   refine(hstep _ z w28 hJ28 ?_).mono fun t w31 ht=>?_
   ·refine⟨y.2.drop (j+1)++flatS (ps.drop (i+1)),?_⟩
    have h1:flatS ps=flatS (ps.take i)++(y.2++flatS (ps.drop (i+1))):=by
     conv=>lhs;rw[<-List.take_append_drop i ps,List.drop_eq_getElem_cons hi']
     have:ps[i]=y:=by rw[List.getElem?_eq_getElem hi'] at hx;exact Option.some.inj hx
     rw[this];simp[flatS]
    have h2:y.2=y.2.take j++z::y.2.drop (j+1):=by
     conv=>lhs;rw[<-List.take_append_drop j y.2,List.drop_eq_getElem_cons hj']
     have:y.2[j]=z:=by rw[List.getElem?_eq_getElem hj'] at hz;exact Option.some.inj hz
     rw[this]
    rw[h1]
    conv=>rhs;rw[h2]
    simp
   ·cases t with
    | false=>exact IfB.yes rfl (.inr ⟨_,ht⟩)
    | true=>
     refine IfB.no rfl ⟨rfl,m-1,by omega,j+1,hj',by omega,?_,?_,?_⟩
     ·rw[wrap_of (by omega) (by omega)];rfl
     ·exact hSz _ _ ht.1
     ·rw[take_succ_get hz,<-List.append_assoc];exact ht.1
  ·have hj':j=y.2.length:=by
    have:¬(j:Int)<(y.1.n:Int):=hge2
    omega
   subst hj'
   refine⟨rfl,n-1,by omega,i+1,hi',by omega,?_,hw20,?_⟩
   ·rw[wrap_of (by omega) (by omega)];rfl
   ·rw[List.take_length] at hJ20
    rw[take_succ_get hx];simpa [flatS] using hJ20
 ·have hi':i=ps.length:=by
   have:¬(i:Int)<(s.n:Int):=hge
   omega
  subst hi'
  rw[List.take_length] at hj
  exact .inl ⟨_,rfl,hj⟩
abbrev Src:=Option (Nat×Sl×List Pg)
def Src.ptr:Src->Option Addr
 | none=>none
 | some (b,_,_)=>some ⟨b,0,none⟩
def Src.fl:Src->List Pr
 | none=>[]
 | some (_,_,ps)=>flatS ps
def Src.mem(src:Src)(W:World):Prop:=match src with
 | none=>True
 | some (b,s,ps)=>St W b s ps/\ps.length<=1000000
def Src.has(src:Src)(i:Nat):Prop:=match src with
 | none=>False
 | some (b,s,ps)=>inSt b s ps i
theorem Src.lt{src:Src}{W:World}(h:src.mem W){i:Nat}(hi:src.has i):i<W.heap.size:=by
 match src,h,hi with
 | some (b,s,ps),h,hi=>exact h.1.lt hi
theorem Src.ch{src:Src}{F:Nat->Prop}{W W':World}(h:src.mem W)(hc:Ch F W W')(hF:∀i,src.has i->¬F i):src.mem W':=by
 match src,h,hF with
 | none,_,_=>trivial
 | some (b,s,ps),h,hF=>exact⟨h.1.ch hc hF,h.2⟩
theorem Src.ext{src:Src}{W W':World}(h:src.mem W)(hc:Ext W W'):src.mem W':=Src.ch h hc fun _ _=>id
theorem Src.stb{src:Src}{n:Nat}{W W':World}(h:src.mem W)(hc:Stb n W W'):src.mem W':=by
 match src,h with
 | none,_=>trivial
 | some (b,s,ps),h=>exact⟨h.1.stb hc,h.2⟩
def InvJ(b1:Nat)(src:Src)(W:World):Prop:=(∃T,W.heap[b1]? =some (.cells #[.pointer src.ptr] T (0,0)))/\src.mem W
theorem InvJ.stb{n b1:Nat}{src:Src}{W W':World}(h:InvJ b1 src W)(hS:Stb n W W'):InvJ b1 src W':=by
 obtain⟨⟨T,hT⟩,h⟩:=h
 exact⟨⟨T,hS.keep _ _ hT rfl⟩,Src.stb h hS⟩
theorem InvJ.ch{F:Nat->Prop}{b1:Nat}{src:Src}{W W':World}(h:InvJ b1 src W)(hc:Ch F W W')(h1:¬F b1)(hF:∀i,src.has i->¬F i):InvJ b1 src W':=by
 obtain⟨⟨T,hT⟩,h⟩:=h
 exact⟨⟨T,hc.at hT h1⟩,Src.ch h hc hF⟩
theorem itJ(b1:Nat)(src:Src)(hl:src.fl.length<=1000000)(hpl:∀b s ps,src=some (b,s,ps)->ps.length<=1000000):Iter Tryz.prog 77 #[.pointer (some ⟨b1,0,none⟩)] prA false (fun pre x=>∃post,pre++x::post=src.fl) (fun xs=>xs=src.fl) (InvJ b1 src):=by
 match src,hl,hpl with
 | some (b,s,ps),hl,hpl=>
  obtain⟨h1,h2⟩:=it77 b1 b s ps hl (hpl _ _ _ rfl)
  refine⟨h1,fun l J Jx W hJ hJx hInv=>h2 l J Jx W hJ hJx fun pre W' h=>?_⟩
  obtain⟨hb,hm⟩:=hInv pre W' h
  exact⟨hb,hm.1⟩
 | none,_,_=>
  refine⟨en77,fun l J Jx W hJ hJx hInv hSz _ hstep h0=>?_⟩
  obtain⟨⟨T,hT⟩,_⟩:=hInv _ _ h0
  exact F77_ok l b1 W _ ⟨none,by rw[cell_of hT];rfl,IfB.yes rfl (.inl ⟨[],rfl,h0⟩)⟩
theorem c47(p:Option Addr)(w:World):Cw 47 #[.pointer p] w fun v w'=>∃b T,v=.func (.func 77) #[] #[.pointer (some ⟨b,0,none⟩)]/\IsAlloc w (.cells #[.pointer p] T (0,0)) b w':=
 F47_ok p w _ fun b w' h=>⟨b,_,rfl,h⟩
theorem prA_size(x:Pr):(prA x).size=1:=rfl
theorem prV_one(x:Pr):One [.int .i64 x.1,.int .i64 x.2]:=by intro v hv;simp at hv;rcases hv with rfl|rfl<;>rfl
def scanS(l:List Pr)(lo hi:Int):List Pr:=(l.takeWhile (le1 hi)).filter fun x=>decide (lo<=x.1)
theorem scanS_stop{pre post:List Pr}{x:Pr}{lo hi:Int}(h1:∀y∈pre,y.1<=hi)(h2:hi<x.1):scanS (pre++x::post) lo hi=pre.filter fun x=>decide (lo<=x.1):=by
 unfold scanS
 rw[takeWhile_app (p:=le1 hi) fun y hy=>decide_eq_true (h1 y hy),List.takeWhile_cons_of_neg,List.append_nil]
 simp[le1];omega
theorem scanS_all{l:List Pr}{lo hi:Int}(h1:∀y∈l,y.1<=hi):scanS l lo hi=l.filter fun x=>decide (lo<=x.1):=by
 unfold scanS
 rw[takeWhile_all (p:=le1 hi) fun y hy=>decide_eq_true (h1 y hy)]
theorem c22{w:World}{src:Src}(hm:src.mem w)(hl:src.fl.length<=1000)(lo hi:Int):
  Cw 22 #[.pointer src.ptr,.int .i64 lo,.int .i64 hi] w fun v w'=>∃t,v=slV t/\OwS w' t 2 (prs (scanS src.fl lo hi))/\Ext w w'/\∀j∈blk t,w.heap.size<=j:=by
 have hin:∀i,src.has i->i<w.heap.size:=fun i hi=>Src.lt hm hi
 refine F22_ok _ _ _ _ _ ?_
 intro c1 w2 h2 q3 w4 h4 q5 w6 h6
 refine(c47 _ w6).use ?_
 rintro _ w8 ⟨b1,T1,rfl,h8⟩
 refine⟨(77,#[.pointer (some ⟨b1,0,none⟩)]),rfl,fun g=>?_⟩
 have e8:Ext w w8:=(((h2.ch _).trans (h4.ch _)).trans (h6.ch _)).trans (h8.ch _)
 have H1:=h8.at (h6.at (h4.at h2.new))
 have H3:=h8.at (h6.at h4.new)
 have H5:=h8.at h6.new
 have s2:=h2.size;have s4:=h4.size;have s6:=h6.size;have s8:=h8.size
 have p2:=h2.here;have p4:=h4.here;have p6:=h6.here;have p8:=h8.here
 have hJ8:InvJ b1 src w8:=⟨⟨_,h8.new⟩,Src.ext hm e8⟩
 have hpl:∀b s ps,src=some (b,s,ps)->ps.length<=1000000:=fun b s ps e=>by subst e;exact hm.2
 let H:List Pr->World->Prop:=fun l W=>∃t:Sl,(∃T,W.heap[q5]? =some (.cells #[slV t] T (0,0)))/\OwS W t 2 (prs l)/\(∀j∈blk t,w8.heap.size+2<=j)/\Ch (fun i=>w.heap.size<=i) w W
 have hH:∀l n W W',H l W->Stb n W W'->w8.heap.size<=n->H l W':=by
  rintro l n W W' ⟨t,⟨T,h4⟩,h5,h6,h7⟩ hS hn
  exact⟨t,⟨T,hS.keep _ _ h4 rfl⟩,h5.stb hS,h6,h7.then (.ofStb hS) fun i _ hi=>by omega⟩
 let G:List Pr->World->Prop:=fun pre W=>(∃post,pre++post=src.fl)/\(∀y∈pre,y.1<=hi)/\InvJ b1 src W/\(∃T,W.heap[c1]? =some (.cells #[.int .i64 lo] T (0,0)))/\(∃T,W.heap[q3]? =some (.cells #[.int .i64 hi] T (0,0)))/\H (pre.filter fun x=>decide (lo<=x.1)) W
 let Gx:Code->List Pr->World->Prop:=fun c pre W=>c=.exit 0/\H (scanS src.fl lo hi) W
 have fin:∀l W,H l W->W.heap[w8.heap.size]? =some (.deferred (some []))->∃s13:Sl,W.cell? ⟨q5,0,none⟩=some (.slice s13.1 s13.2 s13.3)/\marksP W [.col w8.heap.size] fun w14=>∃t,slV s13=slV t/\OwS w14 t 2 (prs l)/\Ext w w14/\∀j∈blk t,w.heap.size<=j:=by
  rintro l W ⟨t,⟨T,hb⟩,ho,hbl,hC⟩ hD
  refine⟨t,by rw[cell_of hb];rfl,marks_one hD fun w' hu=>⟨t,rfl,?_,?_,fun j hj=>by have:=hbl j hj;omega⟩⟩
  ·exact ho.ch hu.ch fun j hj e=>by have:=hbl j hj;omega
  ·exact⟨hC.rest.trans hu.rest,by rw[hu.size];exact hC.size,fun i hi _=>by rw[hu.old i (by omega)];exact hC.old i hi (by omega)⟩
 refine range_none tbOk mixed (gf:=77) (lb:=#[.pointer (some ⟨b1,0,none⟩)]) rfl (itJ b1 src (by omega) hpl) R22_0ok1 R22_0ok2 R22_0okp prA_size G Gx ?_ ?_ ?_ (fun h=>by cases h) ?_ ?_ ?_ ?_
 ·rintro pre W W' ⟨h1,h2,h3,⟨T,h4⟩,⟨T',h5⟩,h6⟩ hS
  exact⟨h1,h2,h3.stb hS,⟨T,hS.keep _ _ h4 rfl⟩,⟨T',hS.keep _ _ h5 rfl⟩,hH _ _ _ _ h6 hS (Nat.le_refl _)⟩
 ·rintro c pre W W' ⟨h1,h6⟩ hS
  exact⟨h1,hH _ _ _ _ h6 hS (Nat.le_refl _)⟩
 ·rintro pre W ⟨_,_,h3,_⟩;exact h3
 ·exact⟨⟨_,rfl⟩,by simp,hJ8,⟨_,H1⟩,⟨_,H3⟩,⟨none,0,0⟩,⟨_,H5⟩,.nil _ _,by simp[blk],e8.mono fun _ _ h=>h.elim⟩
 ·rintro pre x W ⟨⟨post,hpost⟩,hle,hJ,⟨T1',hc1⟩,⟨T3',hc3⟩,t,⟨T,hb⟩,ho,hbl,hC⟩ ⟨post',hx⟩ hW
  refine F22b0_ok c1 q3 ⟨none,0,0⟩ q5 (77,#[.pointer (some ⟨b1,0,none⟩)]) x _ _ _ _ _ W ?_
  intro v1 v2 k2
  refine⟨rfl,store_all k2.new rfl (prV_one x) fun v3 k3=>?_⟩
  have eW:Ext W v3:=Ext.fresh k2 k3
  have kh:=k2.here
  refine⟨rfl,⟨eW.old _ (by omega) id,eW.old _ (by omega) id⟩,fun w12 hS hI0 hL=>?_⟩
  have B5:=hS.keep _ _ (eW.at hb) rfl
  have B1:=hS.keep _ _ (eW.at hc1) rfl
  have B3:=hS.keep _ _ (eW.at hc3) rfl
  have ho12:=(ho.ext eW).stb hS
  have hJ12:=(hJ.ch eW id fun _ _=>id).stb hS
  have hC12:Ch (fun i=>w.heap.size<=i) w w12:=(hC.then eW fun _ _ h=>h.elim).then (.ofStb hS) fun i _ hi=>by omega
  have hv1:=hS.keep _ _ k3.new rfl
  have hs12:=hS.size
  have hsv:=eW.size
  refine⟨x.1,by rw[cell_of hv1];rfl,hi,by rw[cell_of B3];rfl,IfB.dec (fun hgt=>?_) (fun hngt=>?_)⟩
  ·refine⟨⟨rfl,rfl⟩,rfl,t,⟨_,B5⟩,?_,hbl,hC12⟩
   rw[<-hx,scanS_stop hle hgt];exact ho12
  ·refine⟨x.1,by rw[cell_of hv1];rfl,lo,by rw[cell_of B1];rfl,IfB.dec (fun hlo=>?_) (fun hlo=>?_)⟩
   ·refine⟨t,by rw[cell_of B5];rfl,x,cellsAt_of hv1 fun i v hv=>by simpa using hv,by decide,fun b20 w21 h21=>?_⟩
    refine⟨prV x,⟨rfl,cellsAt_of h21.new fun i v hv=>by simpa [prV] using hv⟩,?_⟩
    have e21:Ext w12 w21:=h21.ch _
    have hfl:(pre.filter fun x=>decide (lo<=x.1)).length<=pre.length:=List.length_filter_le _ _
    have htn:t.n=(pre.filter fun x=>decide (lo<=x.1)).length:=by have:=ho.len;rw[prs_len] at this;omega
    have hprel:pre.length+1<=1000:=by
     have:=congrArg List.length hx;simp at this;omega
    refine(ho12.ext e21).append (cnt:=1) rfl rfl rfl (prV_one x) ⟨by omega,by dsimp only;omega⟩ ?_
    intro s' w24 ho' hn' hc' hb' _
    have hne:∀i,i<w8.heap.size+2->¬i∈blk t:=fun i hi h=>by have:=hbl i h;omega
    have H24:=hc'.at (e21.at B5) (hne _ (by omega))
    refine⟨rfl,store_one H24 (by simp) rfl fun w25 h25=>?_⟩
    have hc25:Ch (fun i=>i=q5\/i∈blk t) w12 w25:=(((e21.mono fun _ _ h=>h.elim).then hc' fun i _ h=>.inr h).then h25.ch fun i _ h=>.inl h)
    have hb2':∀j∈blk s',w8.heap.size+2<=j:=fun j hj=>by
     rcases hb' j hj with h|h
     ·exact hbl j h
     ·have:=e21.size;omega
    have far:∀i,i<w8.heap.size+2->i≠q5->¬(i=q5\/i∈blk t):=fun i hi hne' h=>h.elim hne' (hne i hi)
    refine⟨⟨hc25.old _ (by omega) (far _ (by omega) (by omega)),hc25.old _ (by omega) (far _ (by omega) (by omega))⟩,⟨⟨post',by simpa using hx⟩,?_,hJ12.ch hc25 (far _ (by omega) (by omega)) (fun i hi=>far _ (by have:=hin i hi;omega) (by have:=hin i hi;omega)),⟨_,hc25.at B1 (far _ (by omega) (by omega))⟩,⟨_,hc25.at B3 (far _ (by omega) (by omega))⟩,s',⟨_,h25.new⟩,?_,hb2',?_⟩,((Its.ext eW).trans hI0).trans (Its.ch hc25 fun i hi=>hi.elim (fun e=>e ▸ notIt B5) (fun h=>ho12.blkIt h))⟩
    ·intro y hy
     rcases List.mem_append.1 hy with hy|hy
     ·exact hle y hy
     ·simp at hy;subst hy;omega
    ·have:=ho'.ch h25.ch fun j hj e=>by have:=hb2' j hj;omega
     rw[List.filter_append,List.filter_cons_of_pos (by simpa using hlo),prs_append];exact this
    ·exact hC12.then hc25 fun i hi h=>by
      rcases h with h|h
      ·omega
      ·have:=hbl _ h;omega
   ·refine⟨⟨rfl,rfl⟩,⟨⟨post',by simpa using hx⟩,?_,hJ12,⟨_,B1⟩,⟨_,B3⟩,t,⟨_,B5⟩,?_,hbl,hC12⟩,(Its.ext eW).trans hI0⟩
    ·intro y hy
     rcases List.mem_append.1 hy with hy|hy
     ·exact hle y hy
     ·simp at hy;subst hy;omega
    ·rw[List.filter_append,List.filter_cons_of_neg (by simpa using hlo)];simpa using ho12
 ·rintro xs W rfl ⟨_,hle,_,_,_,h6⟩ hD
  have:=fin _ _ h6 hD
  rw[<-scanS_all hle] at this
  exact this
 ·rintro c pre W ⟨rfl,h6⟩ hD
  exact fin _ _ h6 hD
def putL(P:List (List Pr))(l:List Pr):List (List Pr):=l.foldl (fun P x=>if 0<=x.1/\x.1<=999 then putP P x.1 x.2 else P) P
theorem putL_inv:∀ {l:List Pr}{P:List (List Pr)},Inv P->Inv (putL P l)
 | [],_,h=>h
 | x::l,P,h=>by
  show Inv (putL (if 0<=x.1/\x.1<=999 then putP P x.1 x.2 else P) l)
  split
  ·rename_i hk;exact putL_inv (putP_inv h hk)
  ·exact putL_inv h
theorem putL_snoc(P:List (List Pr))(l:List Pr)(x:Pr):putL P (l++[x])=if 0<=x.1/\x.1<=999 then putP (putL P l) x.1 x.2 else putL P l:=by
 unfold putL;rw[List.foldl_append];rfl
theorem c13{w:World}{t:Sl}{xs:List Pr}(ht:Rd w t 2 (prs xs))(hl:xs.length<=1000000):
  Cw 13 #[slV t] w fun r w'=>∃b',r=.pointer (some ⟨b',0,none⟩)/\StA (fun i=>w.heap.size<=i) w' b' (putL [] xs)/\Ext w w':=by
 have htn:t.n=xs.length:=by have:=ht.1;rw[prs_len] at this;omega
 refine F13_ok t w _ ?_
 intro b1 w2 h2
 have e2:Ext w w2:=h2.ch _
 have hh:=h2.here
 refine⟨fun n x w5=>∃i:Nat,i<=xs.length/\n+i=xs.length/\x=(i:Int)/\StA (fun i=>w.heap.size<=i) w5 b1 (putL [] (xs.take i))/\Ext w w5,⟨xs.length,0,Nat.zero_le _,rfl,rfl,⟨⟨none,0,0⟩,[],⟨⟨_,h2.new⟩,.nil _ _,by simp,by simp,by simp,by simp[blk]⟩,rfl,?_⟩,e2⟩,?_⟩
 ·rintro j (rfl|h|⟨x,hx,h⟩)
  ·omega
  ·simp[blk] at h
  ·simp at hx
 rintro n _ w5 g ⟨i,hi,hni,rfl,hS5,e5⟩
 unfold F13j1
 refine IfB.dec (fun hlt=>?_) (fun hge=>?_)
 ·have hi':i<xs.length:=by omega
  have hx:xs[i]? =some xs[i]:=List.getElem?_eq_getElem hi'
  generalize xs[i]=x at hx
  obtain⟨a,o,ha,hca⟩:=(ht.ext e5).elem (i:=i) (by omega) (by decide) (prs_elem hx)
  refine⟨a,o,ha,(⟨by omega,by omega⟩:(0:Int)<=(i:Int)/\(i:Int)<(t.n:Int)),x,by rw[Int.toNat_natCast];exact hca,fun b13 w14 h14=>⟨rfl,store_all h14.new rfl (prV_one x) fun w15 h15=>?_⟩⟩
  have e15:Ext w5 w15:=Ext.fresh h14 h15
  refine⟨x.1,by rw[cell_of h15.new];rfl,x.2,by rw[cell_of h15.new];rfl,(c17 (hS5.ext e15) (putL_inv Inv.nil) x.1 x.2).use ?_⟩
  rintro _ w19 ⟨rfl,hS19,hc19⟩
  have hsz:=(e5.trans e15).size
  refine⟨_,rfl,rfl,n-1,by omega,i+1,hi',by omega,by rw[wrap_of (by omega) (by omega)];rfl,?_,?_⟩
  ·rw[take_succ_get hx,putL_snoc]
   exact hS19.mono fun j _ hj=>hj.elim id fun h=>by omega
  ·exact(e5.trans e15).then hc19 fun j hj h=>by omega
 ·have hi':i=xs.length:=by omega
  rw[hi',List.take_length] at hS5
  exact⟨b1,rfl,hS5,e5⟩
theorem mem_insS_iff{l:List Pr}{k v:Int}{x:Pr}(h:Srt l):x∈insS l k v↔x=(k,v)\/(x∈l/\x.1≠k):=by
 unfold insS
 rw[List.mem_append,List.mem_cons]
 constructor
 ·rintro(hx|rfl|hx)
  ·exact .inr ⟨(List.takeWhile_sublist _).subset hx,by have:=tw_lt hx;omega⟩
  ·exact .inl rfl
  ·exact .inr ⟨(List.dropWhile_sublist _).subset hx,by have:=srt_drop_le h x hx;omega⟩
 ·rintro(rfl|⟨hx,hk⟩)
  ·exact .inr (.inl rfl)
  ·rcases Int.lt_or_lt_of_ne hk with hk|hk
   ·left
    have:x∈l.takeWhile (lt1 k)++l.dropWhile (lt1 k):=by rw[List.takeWhile_append_dropWhile];exact hx
    rcases List.mem_append.1 this with h1|h1
    ·exact h1
    ·have:=srt_drop_lt h x h1;omega
   ·right;right
    have:x∈l.takeWhile (le1 k)++l.dropWhile (le1 k):=by rw[List.takeWhile_append_dropWhile];exact hx
    rcases List.mem_append.1 this with h1|h1
    ·have:x.1<=k:=by simpa [le1] using takeWhile_mem h1
     omega
    ·exact h1
theorem srt_ext:∀ {a b:List Pr},Srt a->Srt b->(∀x,x∈a↔x∈b)->a=b
 | [],[],_,_,_=>rfl
 | [],y::b,_,_,h=>by have:=(h y).2 (List.mem_cons_self);cases this
 | x::a,[],_,_,h=>by have:=(h x).1 (List.mem_cons_self);cases this
 | x::a,y::b,ha,hb,h=>by
  obtain⟨ha1,ha2⟩:=srt_cons.1 ha
  obtain⟨hb1,hb2⟩:=srt_cons.1 hb
  have e:x=y:=by
   rcases List.mem_cons.1 ((h x).1 List.mem_cons_self) with e|h1
   ·exact e
   ·rcases List.mem_cons.1 ((h y).2 List.mem_cons_self) with e|h2
    ·exact e.symm
    ·have:=hb1 x h1;have:=ha1 y h2;omega
  subst e
  rw[srt_ext ha2 hb2 fun z=>?_]
  constructor
  ·intro hz
   rcases List.mem_cons.1 ((h z).1 (List.mem_cons_of_mem _ hz)) with rfl|h1
   ·have:=ha1 _ hz;omega
   ·exact h1
  ·intro hz
   rcases List.mem_cons.1 ((h z).2 (List.mem_cons_of_mem _ hz)) with rfl|h1
   ·have:=hb1 _ hz;omega
   ·exact h1
theorem srt_unique{l:List Pr}{k u v:Int}(h:Srt l)(h1:(k,u)∈l)(h2:(k,v)∈l):u=v:=by
 induction l with
 | nil=>cases h1
 | cons x l ih=>
  obtain⟨ha1,ha2⟩:=srt_cons.1 h
  rcases List.mem_cons.1 h1 with e1|g1
  ·rcases List.mem_cons.1 h2 with e2|g2
   ·simpa using congrArg Prod.snd (e1.trans e2.symm)
   ·have:=ha1 _ g2;rw[<-e1] at this;simp at this
  ·rcases List.mem_cons.1 h2 with e2|g2
   ·have:=ha1 _ g1;rw[<-e2] at this;simp at this
   ·exact ih ha2 g1 g2
theorem delS_none{L:List Pr}{k:Int}(hk:∀x∈L,x.1≠k):delS L k=L:=List.filter_eq_self.2 fun x hx=>by simpa using hk x hx
theorem has_iff{P:List (List Pr)}(hI:Inv P)(k:Int):hasP P k=true↔∃v,(k,v)∈P.flatten:=by
 by_cases hne:P=[]
 ·subst hne;rw[hasP_nil];simp
 ·exact(atP_is hI hne k).has
theorem delQ_flat{P:List (List Pr)}(hI:Inv P)(k:Int):(delQ P k).flatten=delS P.flatten k:=by
 unfold delQ
 split
 ·cases hh:hasP P k with
  | true=>
   rw[if_pos rfl]
   have hne:P≠[]:=fun e=>by subst e;rw[hasP_nil] at hh;cases hh
   exact(delP_is hI (atP_is hI hne k)).1
  | false=>
   rw[if_neg (by simp),delS_none fun x hx e=>?_]
   subst e
   rw[(has_iff hI _).2 ⟨x.2,hx⟩] at hh;cases hh
 ·rename_i hr
  rw[delS_none fun x hx e=>?_]
  subst e
  exact hr (hI.rng x hx)
theorem valP_is{P:List (List Pr)}(hI:Inv P){k v:Int}(h:(k,v)∈P.flatten):valP P k=v:=by
 have hh:=(has_iff hI k).2 ⟨v,h⟩
 obtain⟨u,hu⟩:=isP_iff.1 hh
 have hne:P≠[]:=fun e=>by subst e;simp at h
 have hm:(k,u)∈P.flatten:=List.mem_flatten.2 ⟨P.getD (atP P k) [],by
  rw[<-List.getElem_eq_getD (h:=atP_lt hne k)];exact List.getElem_mem _,List.mem_of_getElem? hu⟩
 unfold valP
 rw[hu]
 exact srt_unique hI.sorted hm h
end Go.Proofs.YtoahfpabpdjkkaaGreat.Gx
