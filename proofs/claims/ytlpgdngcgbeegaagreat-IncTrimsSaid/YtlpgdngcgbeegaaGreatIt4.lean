/- Merged by pack.py: SrG, SrSI, GxSGS, SrSJ, GxU, KeyA, KeyB, GxOC, FotA, GxOD, ClsA, GxOG, RefA, GxOE, CatA, CatB. -/
import Derived.Test.YtlpgdngcgbeegaaGreatIt1
import Derived.Test.YtlpgdngcgbeegaaGreatIt2
import Derived.Test.YtlpgdngcgbeegaaGreatIt3
namespace Go.Proofs.YtlpgdngcgbeegaaGreat.Gx.SfG
open Go Go.Proofs.YtlpgdngcgbeegaaGreat.Gx
set_option linter.unusedSimpArgs false
set_option linter.unusedVariables false
set_option maxRecDepth 50000
class SrtL (α:Type) [S:SrtC α]:Prop where
 len:∀x:α,(S.c x).length=S.z
 one:∀x:α,One (S.c x)
 z0:0<S.z
variable {α:Type} [S:SrtC α]
abbrev sv(x:α):List Value:=S.c x
theorem sv_len[L:SrtL α](x:α):(sv x).length=S.z:=L.len x
theorem sv_one[L:SrtL α](x:α):One (sv x):=L.one x
abbrev key(x:α):Int:=S.key x
abbrev Q(x:α):Prop:=S.Q x
def ge(xs:List α)(i:Nat):α:=xs.getD i S.d
def g(xs:List α)(i:Nat):Int:=key (ge xs i)
def swp(xs:List α)(p q:Nat):List α:=(xs.set p (ge xs q)).set q (ge xs p)
theorem swp_len(xs:List α)(p q:Nat):(swp xs p q).length=xs.length:=by simp[swp]
theorem ge_eq{xs:List α}{i:Nat}(h:i<xs.length):xs[i]? =some (ge xs i):=by
 unfold ge;rw[List.getElem?_eq_getElem h,List.getElem_eq_getD (fallback:=S.d)]
theorem ge_swp{xs:List α}{p q:Nat}(hp:p<xs.length)(hcp:q<xs.length)(i:Nat):ge (swp xs p q) i=if i=q then ge xs p else if i=p then ge xs q else ge xs i:=by
 show ((xs.set p (ge xs q)).set q (ge xs p)).getD i S.d=_
 rw[List.getD_eq_getElem?_getD,List.getElem?_set,List.getElem?_set]
 by_cases h1:q=i
 ·subst h1;simp[hcp]
 ·by_cases h2:p=i
  ·subst h2;simp[h1,hp,Ne.symm h1]
  ·simp only[if_neg h1,if_neg h2,if_neg (Ne.symm h1),if_neg (Ne.symm h2)]
   unfold ge;rw[List.getD_eq_getElem?_getD]
theorem g_swp{xs:List α}{p q:Nat}(hp:p<xs.length)(hcp:q<xs.length)(i:Nat):g (swp xs p q) i=if i=q then g xs p else if i=p then g xs q else g xs i:=by
 unfold g;rw[ge_swp hp hcp]
 split
 ·rfl
 ·split<;>rfl
theorem g_swq{xs:List α}{p q:Nat}(hp:p<xs.length)(hcp:q<xs.length):g (swp xs p q) q=g xs p:=by rw[g_swp hp hcp,if_pos rfl]
theorem g_swl{xs:List α}{p q:Nat}(hp:p<xs.length)(hcp:q<xs.length):g (swp xs p q) p=g xs q:=by
 rw[g_swp hp hcp]
 split
 ·rename_i h;rw[h]
 ·rw[if_pos rfl]
theorem g_swo{xs:List α}{p q i:Nat}(hp:p<xs.length)(hcp:q<xs.length)(h1:i≠p)(h2:i≠q):g (swp xs p q) i=g xs i:=by rw[g_swp hp hcp,if_neg h2,if_neg h1]
theorem swp_perm{xs:List α}{p q:Nat}(hp:p<xs.length)(hcp:q<xs.length):(swp xs p q).Perm xs:=by
 have h:=(Array.swap_perm (xs:=xs.toArray) (i:=p) (j:=q) (by simpa using hp) (by simpa using hcp)).toList
 have e:(xs.toArray.swap p q (by simpa using hp) (by simpa using hcp)).toList=swp xs p q:=by
  apply List.ext_getElem?
  intro i
  simp only[Array.swap,swp,Array.toList_set,List.getElem_toArray,ge,List.getD_eq_getElem?_getD,List.getElem?_eq_getElem hp,List.getElem?_eq_getElem hcp,Option.getD_some]
 rw[e] at h
 exact h
inductive PI(a b:Nat)(xs:List α):List α->Prop
 | refl:PI a b xs xs
 | step {ys:List α} {p q:Nat}:PI a b xs ys->a<=p->p<b->a<=q->q<b->b<=ys.length->PI a b xs (swp ys p q)
theorem PI.len{a b:Nat}{xs ys:List α}(h:PI a b xs ys):ys.length=xs.length:=by
 induction h with
 | refl=>rfl
 | step _ _ _ _ _ _ ih=>rw[swp_len,ih]
theorem PI.perm{a b:Nat}{xs ys:List α}(h:PI a b xs ys):ys.Perm xs:=by
 induction h with
 | refl=>exact .refl _
 | step _ _ h2 _ h4 h5 ih=>exact(swp_perm (by omega) (by omega)).trans ih
theorem PI.out{a b:Nat}{xs ys:List α}(h:PI a b xs ys){i:Nat}(hi:i<a\/b<=i):g ys i=g xs i:=by
 induction h with
 | refl=>rfl
 | step _ h1 h2 h3 h4 h5 ih=>rw[g_swp (by omega) (by omega),if_neg (by omega),if_neg (by omega),ih]
theorem PI.all{a b:Nat}{xs ys:List α}(h:PI a b xs ys){Q:Int->Prop}(hq:∀i,a<=i->i<b->Q (g xs i)):∀i,a<=i->i<b->Q (g ys i):=by
 induction h with
 | refl=>exact hq
 | step _ h1 h2 h3 h4 h5 ih=>
  intro i hi hi2
  rw[g_swp (by omega) (by omega)]
  split
  ·exact ih _ h1 h2
  ·split
   ·exact ih _ h3 h4
   ·exact ih _ hi hi2
theorem PI.mono{a b a' b':Nat}{xs ys:List α}(h:PI a b xs ys)(ha:a'<=a)(hb:b<=b')(hl:b'<=xs.length):PI a' b' xs ys:=by
 induction h with
 | refl=>exact .refl
 | step h h1 h2 h3 h4 h5 ih=>exact .step ih (by omega) (by omega) (by omega) (by omega) (by rw[h.len];exact hl)
theorem PI.trans{a b:Nat}{xs ys zs:List α}(h:PI a b xs ys)(k:PI a b ys zs):PI a b xs zs:=by
 induction k with
 | refl=>exact h
 | step _ h1 h2 h3 h4 h5 ih=>exact .step ih h1 h2 h3 h4 h5
def SO(xs:List α)(a b:Nat):Prop:=∀i j,a<=i->i<j->j<b->g xs i<=g xs j
def Ar(s:Sl)(b:Nat)(H:Array Obj)(xs:List α):Prop:=
 s.p=some ⟨b,0,none⟩/\s.n=xs.length/\xs.length<=1000000/\∃arr T,H[b]? =some (.cells arr T (0,0))/\arr.size=s.c*S.z/\s.n<=s.c/\arr.toList.take (s.n*S.z)=xs.flatMap sv/\∀x∈xs,Q x
theorem Ar.q{s:Sl}{b:Nat}{H:Array Obj}{xs:List α}(h:Ar s b H xs):∀x∈xs,Q x:=by
 obtain⟨h1,h2,_,arr,T,h3,h4,h5,h6,h7⟩:=h
 exact h7
theorem Ar.own[L:SrtL α]{s:Sl}{b:Nat}{w:World}{xs:List α}(h:Ar s b w.heap xs):OwS w s S.z (xs.flatMap sv):=by
 obtain⟨h1,h2,_,arr,T,h3,h4,h5,h6,_⟩:=h
 exact .inr ⟨b,arr,T,h1,h3,h4,h5,h6⟩
theorem Ar.ofp[L:SrtL α]{s:Sl}{b:Nat}{w:World}{xs:List α}(h:OwS w s S.z (xs.flatMap sv))(hp:s.p=some ⟨b,0,none⟩)(hl:xs.length<=1000000)(hq:∀x∈xs,Q x):Ar s b w.heap xs:=by
 have hn:=owsN sv_len L.z0 h
 rcases h with ⟨rfl,_⟩|⟨b',arr,T,h1,h3,h4,h5,h6⟩
 ·cases hp
 ·rw[h1] at hp;cases hp
  exact⟨h1,hn,hl,arr,T,h3,h4,h5,h6,hq⟩
theorem Ar.of[L:SrtL α]{s:Sl}{w:World}{xs:List α}(h:OwS w s S.z (xs.flatMap sv))(h0:0<xs.length)(hl:xs.length<=1000000)(hq:∀x∈xs,Q x):∃b,Ar s b w.heap xs/\blk s=[b]:=by
 have hn:=owsN sv_len L.z0 h
 obtain⟨b,hp⟩:=h.ptr (by omega)
 exact⟨b,Ar.ofp h hp hl hq,by simp[blk,hp]⟩
theorem Ar.lt{s:Sl}{b:Nat}{w:World}{xs:List α}(h:Ar s b w.heap xs):b<w.heap.size:=by
 obtain⟨_,_,_,_,_,h3,_⟩:=h
 exact heap_lt h3
theorem ge_q{xs:List α}(h:∀x∈xs,Q x){i:Nat}(hi:i<xs.length):Q (ge xs i):=h _ (List.mem_of_getElem? (ge_eq hi))
theorem rd[L:SrtL α]{s:Sl}{b:Nat}{w:World}{xs:List α}(h:Ar s b w.heap xs){i:Int}(h0:0<=i)(h1:i<xs.length){K:α->Prop}(k:K (ge xs i.toNat)):
  ∃b1 b2:Nat,s.1=some ⟨b1,b2,none⟩/\((0:Int)<=i/\i<(s.2:Int))/\∃n:α,CellsAt w b1 (b2+i.toNat*S.z) (S.c n)/\K n:=by
 have e2:=h.2.1
 obtain⟨b',hp,hc⟩:=h.own.elem (i:=i.toNat) (by omega) (flatGet sv_len (ge_eq (xs:=xs) (i:=i.toNat) (by omega)))
 exact⟨b',0,hp,⟨h0,by show i<(s.n:Int);omega⟩,_,by rw[Nat.zero_add];exact hc,k⟩
theorem wr[L:SrtL α]{s:Sl}{b:Nat}{w:World}{xs:List α}(h:Ar s b w.heap xs){i:Int}{x:α}(h0:0<=i)(h1:i<xs.length)(hx:Q x){K:World->Prop}(k:∀w',Ar s b w'.heap (xs.set i.toNat x)->CB b w w'->K w'):
  ∃b1 b2:Nat,s.1=some ⟨b1,b2,none⟩/\((0:Int)<=i/\i<(s.2:Int))/\(S.c x).toArray.size=S.z/\StoreP w b1 (b2+i.toNat*S.z) (S.c x) K:=by
 have e1:=h.1;have e2:=h.2.1;have el:=h.2.2.1
 refine⟨b,0,e1,⟨h0,by show i<(s.n:Int);omega⟩,by rw[List.size_toArray];exact L.len x,?_⟩
 rw[Nat.zero_add]
 refine h.own.store (vs:=sv x) e1 (by rw[sv_len,<-Nat.succ_mul];exact Nat.mul_le_mul_right _ (by omega)) (sv_one x) fun w' ho hc=>k w' (Ar.ofp ?_ e1 (by rw[List.length_set];exact el) fun y hy=>(List.mem_or_eq_of_mem_set hy).elim (h.q y) fun e=>e ▸ hx) hc
 rw[sv_len,flatSet sv_len (by omega)] at ho
 exact ho
theorem sw[L:SrtL α]{s:Sl}{b:Nat}{w:World}{xs:List α}(h:Ar s b w.heap xs){p q:Int}(hp0:0<=p)(hp1:p<xs.length)(hq0:0<=q)(hq1:q<xs.length){K:World->Prop}(k:∀w',Ar s b w'.heap (swp xs p.toNat q.toNat)->CB b w w'->K w'):
  ∃b1 b2:Nat,s.1=some ⟨b1,b2,none⟩/\((0:Int)<=q/\q<(s.2:Int))/\∃n:α,CellsAt w b1 (b2+q.toNat*S.z) (S.c n)/\
  ∃b3 b4:Nat,s.1=some ⟨b3,b4,none⟩/\((0:Int)<=p/\p<(s.2:Int))/\∃m:α,CellsAt w b3 (b4+p.toNat*S.z) (S.c m)/\
  ∃b5 b6:Nat,s.1=some ⟨b5,b6,none⟩/\((0:Int)<=p/\p<(s.2:Int))/\(S.c n).toArray.size=S.z/\StoreP w b5 (b6+p.toNat*S.z) (S.c n) fun w1=>
  ∃b7 b8:Nat,s.1=some ⟨b7,b8,none⟩/\((0:Int)<=q/\q<(s.2:Int))/\(S.c m).toArray.size=S.z/\StoreP w1 b7 (b8+q.toNat*S.z) (S.c m) K:=by
 refine rd h hq0 hq1 (rd h hp0 hp1 (wr h hp0 hp1 (ge_q h.q (by omega)) fun w1 h1 c1=>wr h1 hq0 (by rw[List.length_set];exact hq1) (ge_q h.q (by omega)) fun w2 h2 c2=>k w2 h2 (c1.trans c2)))
def CmpP(α:Type)[S:SrtC α](cl:Nat×Array Value):Prop:=∀(x y:α)(W:World),Q x->Q y->Cw cl.1 { toList:=Value.agg (sv x).toArray::Value.agg (sv y).toArray::cl.2.toList } W fun v w'=>∃n:Int,v=iv n/\(n<0↔key x<key y)/\Ext W w'
theorem ls[L:SrtL α]{cl:Nat×Array Value}(hcp:CmpP α cl){s:Sl}{b:Nat}{w:World}{xs:List α}(h:Ar s b w.heap xs){i j:Int}(hi0:0<=i)(hi1:i<xs.length)(hj0:0<=j)(hj1:j<xs.length){K:Int->World->Prop}(k:∀(nn:Int)(ww:World),(nn<0↔g xs i.toNat<g xs j.toNat)->Ext w ww->K nn ww):
  ∃b1 b2:Nat,s.1=some ⟨b1,b2,none⟩/\((0:Int)<=i/\i<(s.2:Int))/\∃n:α,CellsAt w b1 (b2+i.toNat*S.z) (S.c n)/\
  ∃b3 b4:Nat,s.1=some ⟨b3,b4,none⟩/\((0:Int)<=j/\j<(s.2:Int))/\∃m:α,CellsAt w b3 (b4+j.toNat*S.z) (S.c m)/\
  Cx cl.1 { toList:=Value.agg (S.c n).toArray::Value.agg (S.c m).toArray::cl.2.1 } w fun v w'=>∃n:Int,v=.int .i64 n/\K n w':=by
 refine rd h hi0 hi1 (rd h hj0 hj1 ((hcp _ _ w (ge_q h.q (by omega)) (ge_q h.q (by omega))).use ?_))
 rintro _ ww ⟨n,rfl,hn,e⟩
 exact⟨n,rfl,k n ww hn e⟩
theorem decC{n:Int}{P:Prop}[Decidable P]{A B:Prop}(hn:n<0↔P)(h:P->A)(k:¬P->B):IfB (decide (n<0)) A B:=IfB.dec (fun h'=>h (hn.1 h')) fun h'=>k fun hp=>h' (hn.2 hp)
theorem introC{n:Int}{P:Prop}[Decidable P]{A B:Prop}(hn:n<0↔P)(h:(!decide P)=true->A)(k:(!decide P)=false->B):IfB (!decide (n<0)) A B:=by
 rw[show decide (n<0)=decide P from decide_eq_decide.2 hn]
 exact IfB.intro h k
theorem Ar.ch{F:Nat->Prop}{s:Sl}{b:Nat}{w w':World}{xs:List α}(h:Ar s b w.heap xs)(hc:Ch F w w')(hF:¬F b):Ar s b w'.heap xs:=by
 obtain⟨e1,e2,e3,arr,T,e4,e5⟩:=h
 exact⟨e1,e2,e3,arr,T,hc.at e4 hF,e5⟩
theorem CBe{b:Nat}{w W W':World}(h:CB b w W)(e:Ext W W'):CB b w W':=Ch.then h e fun _ _ h=>h.elim
theorem q2[O:SrtOk α][L:SrtL α]{cl:Nat×Array Value}(hcp:CmpP α cl){s:Sl}{b:Nat}{w:World}{xs:List α}{a e:Nat}(h:Ar s b w.heap xs)(he:e<=xs.length)(ha:a<=xs.length):
  Cw (S.f 2) #[slV s,iv a,iv e,.func (.func cl.1) #[] cl.2] w fun v w'=>v=.tuple #[]/\∃ys,PI a e xs ys/\SO ys a e/\Ar s b w'.heap ys/\CB b w w':=by
 have hl:xs.length<=1000000:=h.2.2.1
 refine O.k2 s a e cl w _ ⟨fun n x W=>∃(i:Nat)(ys:List α),n=e+1-i/\x=(i:Int)/\a+1<=i/\(i=a+1\/i<=e)/\PI a e xs ys/\SO ys a i/\Ar s b W.heap ys/\CB b w W,⟨_,a+1,xs,rfl,wp1 (by omega),Nat.le_refl _,.inl rfl,.refl,fun i j _ _ _=>by omega,h,Ch.refl _ _⟩,?_⟩
 rintro n _ W _ ⟨i,ys,rfl,rfl,hai,hi,hP,hS,hA,hC⟩
 have hyl:=hP.len
 refine IfB.dec (fun hlt=>?_) (fun hge=>⟨rfl,ys,hP,fun p q h1 h2 h3=>hS p q h1 h2 (by omega),hA,hC⟩)
 have hie:i<e:=by omega
 refine⟨fun m x W'=>∃(j:Nat)(zs:List α),j=m/\x=(j:Int)/\a<=j/\j<=i/\PI a e xs zs/\(∀p q,a<=p->p<q->q<=i->q≠j->g zs p<=g zs q)/\Ar s b W'.heap zs/\CB b w W',⟨_,i,ys,rfl,rfl,by omega,Nat.le_refl _,hP,fun p q h1 h2 h3 h4=>hS p q h1 h2 (by omega),hA,hC⟩,?_⟩
 rintro m _ W1 _ ⟨j,zs,rfl,rfl,haj,hji,hP1,hS1,hA1,hC1⟩
 have hzl:=hP1.len
 have hCd:CB b w W1.drew:=hC1.then (extDrew W1) fun _ _ h=>h.elim
 have done:(∀p,a<=p->p<j->g zs p<=g zs j)->∀W2:World,Ar s b W2.heap zs->CB b w W2->([]:List Nat)=[]/\∃b38,b38<e+1-i/\∃(i':Nat)(ys:List α),b38=e+1-i'/\IntKind.i64.wrap ((i:Int)+(1:Int))=(i':Int)/\a+1<=i'/\(i'=a+1\/i'<=e)/\PI a e xs ys/\SO ys a i'/\Ar s b W2.heap ys/\CB b w W2:=by
  rintro hj W2 hA1 hCd
  refine⟨rfl,e+1-(i+1),by omega,i+1,zs,rfl,wp1 (by omega),by omega,.inr (by omega),hP1,fun p q h1 h2 h3=>?_,hA1,hCd⟩
  by_cases hq:q=j
  ·subst hq;exact hj p h1 h2
  ·exact hS1 p q h1 h2 (by omega) hq
 unfold G2j2
 refine IfB.dec (fun hlt2=>?_) (fun hge2=>done (fun p h1 h2=>by omega) W1.drew hA1 hCd)
 have hj:a<j:=by omega
 have hw:=wm1 (i:=j) (by omega) (by omega)
 rw[hw]
 refine ls hcp (w:=W1.drew) hA1 (by omega) (by omega) (by omega) (by omega) (fun nn ww hn eC=>have hA1:=Ar.ch (w:=W1.drew) hA1 eC id;have hCd:=CBe hCd eC;decC hn (fun hl1=>?_) (fun hl1=>done (fun p h1 h2=>?_) ww hA1 hCd))
 ·rw[Int.toNat_natCast,Int.toNat_natCast] at hl1
  refine sw (w:=ww.drew) hA1 (by omega) (by omega) (by omega) (by omega) fun W3 hA3 hC3=>⟨rfl,j-1,by omega,j-1,_,rfl,rfl,by omega,by omega,.step hP1 (p:=j) (q:=j-1) (by omega) (by omega) (by omega) (by omega) (by omega),?_,hA3,(hCd.then (extDrew _) fun _ _ h=>h.elim).trans hC3⟩
  intro p q h1 h2 h3 h4
  rw[g_swp (by omega) (by omega),g_swp (by omega) (by omega)]
  have A1:=hS1 p (j-1) h1
  have A2:=hS1 p q h1 h2 h3
  have A3:=hS1 j q (by omega)
  have A4:=hS1 (j-1) q (by omega)
  split<;>split<;>(try split)<;>(try split)<;>first|omega|skip
 ·rw[Int.toNat_natCast,Int.toNat_natCast] at hl1
  have:=hS1 p (j-1) h1
  by_cases hp:p=j-1
  ·subst hp;omega
  ·have:=this (by omega) (by omega) (by omega)
   omega
def HpAt(xs:List α)(f hi k:Nat):Prop:=∀c,c=2*k+1\/c=2*k+2->c<hi->g xs (f+c)<=g xs (f+k)
theorem q10[O:SrtOk α][L:SrtL α]{cl:Nat×Array Value}(hcp:CmpP α cl){s:Sl}{b:Nat}{w:World}{xs:List α}{lo hi f:Nat}(h:Ar s b w.heap xs)(hl:f+hi<=xs.length)(hlo:lo<=1000000)(hh:∀k,lo<k->HpAt xs f hi k):
  Cw (S.f 10) #[slV s,iv lo,iv hi,iv f,.func (.func cl.1) #[] cl.2] w fun v w'=>v=.tuple #[]/\∃ys,PI f (f+hi) xs ys/\(∀k,lo<=k->HpAt ys f hi k)/\Ar s b w'.heap ys/\CB b w w':=by
 have hll:xs.length<=1000000:=h.2.2.1
 refine O.k10 s lo hi f cl w _ ⟨fun n x W=>∃(r:Nat)(ys:List α),n=hi-r/\x=(r:Int)/\lo<=r/\(r=lo\/r<hi)/\PI f (f+hi) xs ys/\(∀k,lo<=k->k≠r->HpAt ys f hi k)/\
  (∀k,lo<=k->r=2*k+1\/r=2*k+2->∀c,c=2*r+1\/c=2*r+2->c<hi->g ys (f+c)<=g ys (f+k))/\Ar s b W.heap ys/\CB b w W,⟨_,lo,xs,rfl,rfl,Nat.le_refl _,.inl rfl,.refl,fun k h1 h2=>hh k (by omega),fun k h1 h2=>by omega,h,Ch.refl _ _⟩,?_⟩
 rintro n _ W _ ⟨r,ys,rfl,rfl,hlr,hr,hP,hH,hG,hA,hC⟩
 have hyl:=hP.len
 unfold G10j1
 rw[wdb (by omega),wp1 (by omega)]
 refine IfB.dec (fun hge=>⟨rfl,ys,hP,fun k hk=>?_,hA,hC⟩) (fun hlt=>?_)
 ·by_cases hkr:k=r
  ·subst hkr;intro c hc1 hc2;omega
  ·exact hH k hk hkr
 have hc1:2*r+1<hi:=by omega
 rw[wp1 (by omega),wad (by omega),wp1 (by omega)]
 have hCd:CB b w W.drew:=hC.then (extDrew W) fun _ _ h=>h.elim
 refine⟨fun x W'=>∃c:Nat,x=(c:Int)/\(c=2*r+1\/c=2*r+2)/\c<hi/\(∀d,d=2*r+1\/d=2*r+2->d<hi->g ys (f+d)<=g ys (f+c))/\Ext W.drew W',?_,?_⟩
 ·refine IfB.dec (fun h2=>?_) (fun h2=>⟨rfl,2*r+1,rfl,.inl rfl,hc1,fun d hd1 hd2=>?_,Ch.refl _ _⟩)
  ·refine ls hcp (w:=W.drew) hA (by omega) (by omega) (by omega) (by omega) (fun nn ww hn eC=>decC hn (fun hl1=>⟨rfl,2*r+1+1,rfl,.inr rfl,by omega,fun d hd1 hd2=>?_,eC⟩) (fun hl1=>⟨rfl,2*r+1,rfl,.inl rfl,hc1,fun d hd1 hd2=>?_,eC⟩))
   ·rw[Int.toNat_natCast,Int.toNat_natCast] at hl1
    rcases hd1 with rfl|rfl
    ·rw[show f+(2*r+1+1)=f+(2*r+1)+1 by omega];omega
    ·exact Int.le_refl _
   ·rw[Int.toNat_natCast,Int.toNat_natCast] at hl1
    rcases hd1 with rfl|rfl
    ·exact Int.le_refl _
    ·rw[show f+(2*r+2)=f+(2*r+1)+1 by omega];omega
  ·have:d=2*r+1:=by omega
   subst this;exact Int.le_refl _
 rintro _ W' _ ⟨c,rfl,hc2,hc3,hc4,eW⟩
 have hA:=Ar.ch (w:=W.drew) hA eW id
 have hCd:=CBe hCd eW
 unfold G10j2
 rw[wad (by omega),wad (by omega)]
 have hCd2:CB b w W'.drew:=hCd.then (extDrew _) fun _ _ h=>h.elim
 refine ls hcp (w:=W'.drew) hA (by omega) (by omega) (by omega) (by omega) (fun nn ww hn eC=>have hA:=Ar.ch (w:=W'.drew) hA eC id;have hCd2:=CBe hCd2 eC;introC hn (fun hl1=>⟨rfl,ys,hP,fun k hk=>?_,hA,hCd2⟩) fun hl1=>?_)
 ·simp only[Int.toNat_natCast,Bool.not_eq_true',decide_eq_false_iff_not] at hl1
  by_cases hkr:k=r
  ·subst hkr
   intro d hd1 hd2
   have:=hc4 d hd1 hd2
   omega
  ·exact hH k hk hkr
 ·simp only[Int.toNat_natCast,Bool.not_eq_false',decide_eq_true_eq] at hl1
  refine sw (w:=ww.drew) hA (by omega) (by omega) (by omega) (by omega) fun W3 hA3 hC3=>⟨rfl,hi-c,by omega,c,_,rfl,rfl,by omega,.inr hc3,.step hP (p:=f+r) (q:=f+c) (by omega) (by omega) (by omega) (by omega) (by omega),?_,?_,hA3,(CBe hCd2 (extDrew ww)).trans hC3⟩
  ·intro k hk hkc d hd1 hd2
   by_cases hkr:k=r
   ·subst hkr
    rw[g_swl (by omega) (by omega)]
    by_cases hdc:d=c
    ·subst hdc;rw[g_swq (by omega) (by omega)];omega
    ·rw[g_swo (by omega) (by omega) (by omega) (by omega)];exact hc4 d hd1 hd2
   ·rw[g_swo (i:=f+k) (by omega) (by omega) (by omega) (by omega)]
    by_cases hdr:d=r
    ·subst hdr
     rw[g_swl (by omega) (by omega)]
     exact hG k hk hd1 c hc2 hc3
    ·rw[g_swo (by omega) (by omega) (by omega) (by omega)]
     exact hH k hk hkr d hd1 hd2
  ·intro k hk hck d hd1 hd2
   have hkr:k=r:=by omega
   subst hkr
   rw[g_swl (by omega) (by omega),g_swo (by omega) (by omega) (by omega) (by omega)]
   exact hH c (by omega) (by omega) d hd1 hd2
theorem heap_max{xs:List α}{f hi:Nat}(h:∀k,HpAt xs f hi k)(p:Nat)(hp:p<hi):g xs (f+p)<=g xs f:=by
 induction p using Nat.strongRecOn with
 | _ p ih=>
  by_cases h0:p=0
  ·subst h0;exact Int.le_refl _
  ·have h1:=h ((p-1)/2) p (by omega) hp
   have h2:=ih ((p-1)/2) (by omega) (by omega)
   omega
theorem q3[O:SrtOk α][L:SrtL α]{cl:Nat×Array Value}(hcp:CmpP α cl){s:Sl}{b:Nat}{w:World}{xs:List α}{a e:Nat}(h:Ar s b w.heap xs)(he:e<=xs.length)(ha:a<=e):
  Cw (S.f 3) #[slV s,iv a,iv e,.func (.func cl.1) #[] cl.2] w fun v w'=>v=.tuple #[]/\∃ys,PI a e xs ys/\SO ys a e/\Ar s b w'.heap ys/\CB b w w':=by
 have hl:xs.length<=1000000:=h.2.2.1
 refine O.k3 s a e cl w _ ⟨by decide,?_⟩
 have hea:a+(e-a)=e:=by omega
 rw[wsb ha (by omega)]
 generalize hhi:e-a=hi at hea
 refine⟨fun n x W=>∃(i:Nat)(ys:List α),i=n/\x=(i:Int)-1/\i<=hi+1/\PI a e xs ys/\(∀k,i<=k->HpAt ys a hi k)/\Ar s b W.heap ys/\CB b w W,⟨_,(if hi=0 then 1 else (hi-1)/2+1),xs,rfl,?_,?_,.refl,?_,h,Ch.refl _ _⟩,?_⟩
 ·rw[wrap_of (n:=(hi:Int)-1) (by omega) (by omega)]
  split
  ·rename_i h0;subst h0;decide
  ·rename_i h0
   rw[Int.tdiv_eq_ediv_of_nonneg (by omega),wrap_of (by omega) (by omega)]
   omega
 ·split<;>omega
 ·intro k hk c hc1 hc2
  split at hk<;>omega
 rintro n _ W _ ⟨i,ys,rfl,rfl,hi1,hP,hH,hA,hC⟩
 have hyl:=hP.len
 unfold G3j1
 refine IfB.dec (fun hge=>?_) (fun hlt=>?_)
 ·rw[show ((i:Int)-1)=((i-1:Nat):Int) by omega,wsb ha (by omega),hhi]
  refine(q10 hcp hA (by omega) (by omega) fun k hk=>hH k (by omega)).use ?_
  rintro _ W2 ⟨rfl,zs,hP2,hH2,hA2,hC2⟩
  rw[hea] at hP2
  exact⟨(),rfl,rfl,i-1,by omega,i-1,zs,rfl,by rw[wrap_of (by omega) (by omega)],by omega,hP.trans hP2,hH2,hA2,hC.trans hC2⟩
 ·have hi0:i=0:=by omega
  subst hi0
  refine⟨fun n x W'=>∃(i:Nat)(zs:List α),i=n/\x=(i:Int)-1/\i<=hi/\PI a e xs zs/\(∀k,HpAt zs a i k)/\(∀p q,i<=p->p<q->q<hi->g zs (a+p)<=g zs (a+q))/\(∀p q,p<i->i<=q->q<hi->g zs (a+p)<=g zs (a+q))/\Ar s b W'.heap zs/\CB b w W',⟨_,hi,ys,rfl,?_,Nat.le_refl _,hP,fun k=>hH k (Nat.zero_le _),fun p q _ _ _=>by omega,fun p q _ _ _=>by omega,hA,hC⟩,?_⟩
  ·rw[wsb ha (by omega),hhi,wrap_of (by omega) (by omega)]
  rintro n _ W1 _ ⟨i,zs,rfl,rfl,hi2,hP1,hH1,hS1,hX1,hA1,hC1⟩
  have hzl:=hP1.len
  unfold G3j2
  refine IfB.dec (fun hge=>?_) (fun hlt=>⟨rfl,zs,hP1,fun p q h1 h2 h3=>?_,hA1,hC1⟩)
  ·obtain⟨m,rfl⟩:∃m,i=m+1:=⟨i-1,by omega⟩
   rw[show (((m+1:Nat):Int)-1)=(m:Int) by omega,wad (by omega)]
   have hCd:CB b w W1.drew:=hC1.then (extDrew W1) fun _ _ h=>h.elim
   refine sw (w:=W1.drew) hA1 (by omega) (by omega) (by omega) (by omega) fun W2 hA2 hC2=>?_
   rw[Int.toNat_natCast,Int.toNat_natCast] at hA2
   have hP2:PI a e xs (swp zs a (a+m)):=.step hP1 (by omega) (by omega) (by omega) (by omega) (by omega)
   have g0:∀p,0<p->p<m->g (swp zs a (a+m)) (a+p)=g zs (a+p):=fun p h1 h2=>g_swo (by omega) (by omega) (by omega) (by omega)
   have gm:g (swp zs a (a+m)) (a+m)=g zs a:=g_swq (by omega) (by omega)
   have gz:g (swp zs a (a+m)) a=g zs (a+m):=g_swl (by omega) (by omega)
   have gb:∀q,m<q->g (swp zs a (a+m)) (a+q)=g zs (a+q):=fun q h1=>g_swo (by omega) (by omega) (by omega) (by omega)
   refine(q10 hcp (lo:=0) hA2 (by rw[swp_len];omega) (by omega) fun k hk c hc1 hc2=>?_).use ?_
   ·rw[g0 k hk (by omega),g0 c (by omega) hc2]
    exact hH1 k c hc1 (by omega)
   rintro _ W3 ⟨rfl,us,hP3,hH3,hA3,hC3⟩
   have hmax:=heap_max hH1
   have hP3':PI a e (swp zs a (a+m)) us:=hP3.mono (Nat.le_refl _) (by omega) (by rw[swp_len];omega)
   have ub:∀q,m<=q->g us (a+q)=g (swp zs a (a+m)) (a+q):=fun q hq=>hP3.out (.inr (by omega))
   refine⟨(),rfl,rfl,m,by omega,m,us,rfl,by rw[wrap_of (by omega) (by omega)],by omega,hP2.trans hP3',fun k=>hH3 k (Nat.zero_le _),?_,?_,hA3,(hCd.trans hC2).trans hC3⟩
   ·intro p q h1 h2 h3
    rw[ub p h1,ub q (by omega),gb q (by omega)]
    by_cases hp:p=m
    ·subst hp;rw[gm]
     have:=hX1 0 q (by omega) (by omega) h3
     exact this
    ·rw[gb p (by omega)];exact hS1 p q (by omega) h2 h3
   ·intro p q h1 h2 h3
    have hQ:∀i,a<=i->i<a+m->(fun v=>v<=g us (a+q)) (g us i):=by
     refine hP3.all (Q:=fun v=>v<=g us (a+q)) fun i h4 h5=>?_
     show _<=g us (a+q)
     rw[ub q h2]
     obtain⟨t,rfl⟩:∃t,i=a+t:=⟨i-a,by omega⟩
     have h6:g (swp zs a (a+m)) (a+t)=g zs (a+t)\/g (swp zs a (a+m)) (a+t)=g zs (a+m):=by
      by_cases ht:t=0
      ·subst ht;exact .inr gz
      ·exact .inl (g0 t (by omega) (by omega))
     by_cases hq:q=m
     ·subst hq
      rw[gm]
      have h7:=hmax t (by omega)
      have h8:=hmax q (by omega)
      rcases h6 with h6|h6<;>omega
     ·rw[gb q (by omega)]
      have h7:=hX1 t q (by omega) (by omega) h3
      have h8:=hX1 m q (by omega) (by omega) h3
      rcases h6 with h6|h6<;>omega
    exact hQ _ (by omega) (by omega)
  ·obtain⟨p',rfl⟩:∃t,p=a+t:=⟨p-a,by omega⟩
   obtain⟨q',rfl⟩:∃t,q=a+t:=⟨q-a,by omega⟩
   exact hS1 p' q' (by omega) (by omega) (by omega)
theorem q6[O:SrtOk α][L:SrtL α]{cl:Nat×Array Value}(hcp:CmpP α cl){s:Sl}{b:Nat}{w:World}{xs:List α}{a e:Nat}(h:Ar s b w.heap xs)(he:e<=xs.length)(ha:a<e):
  Cw (S.f 6) #[slV s,iv a,iv e,.func (.func cl.1) #[] cl.2] w fun v w'=>v=.tuple #[]/\∃ys,PI a e xs ys/\Ar s b w'.heap ys/\CB b w w':=by
 have hl:xs.length<=1000000:=h.2.2.1
 refine O.k6 s a e cl w _ ⟨fun n x W=>∃(i j:Nat)(ys:List α),n=j/\x=((i:Int),(j:Int))/\a<=i/\j<e/\i<=j+1/\PI a e xs ys/\Ar s b W.heap ys/\CB b w W,⟨_,a,e-1,xs,rfl,by rw[wm1 (by omega) (by omega)],Nat.le_refl _,by omega,by omega,.refl,h,Ch.refl _ _⟩,?_⟩
 rintro n _ W _ ⟨i,j,ys,rfl,rfl,hai,hje,hij,hP,hA,hC⟩
 have hyl:=hP.len
 unfold G6j1
 refine IfB.dec (fun hlt=>?_) (fun hge=>⟨rfl,ys,hP,hA,hC⟩)
 have hlt:i<n:=by
  have:(i:Int)<(n:Int):=hlt
  omega
 have hCd:CB b w W.drew:=hC.then (extDrew W) fun _ _ h=>h.elim
 refine sw (w:=W.drew) hA (p:=(i:Int)) (q:=(n:Int)) (by omega) (by omega) (by omega) (by omega) fun W2 hA2 hC2=>?_
 rw[Int.toNat_natCast,Int.toNat_natCast] at hA2
 exact⟨rfl,n-1,by omega,i+1,n-1,_,rfl,by rw[<-wp1 (by omega),<-wm1 (by omega) (by omega)],by omega,by omega,by omega,.step hP (by omega) (by omega) (by omega) (by omega) (by omega),hA2,hCd.trans hC2⟩
theorem q13[O:SrtOk α][L:SrtL α]{cl:Nat×Array Value}(hcp:CmpP α cl){s:Sl}{b b1:Nat}{w:World}{xs:List α}{i j:Nat}(h:Ar s b w.heap xs)(hc:Ct .i64 b1 w)(hne:b1≠b)(hi:i<xs.length)(hj:j<xs.length):
  Cw (S.f 13) #[slV s,iv i,iv j,.pointer (some ⟨b1,0,none⟩),.func (.func cl.1) #[] cl.2] w fun v w'=>∃x y:Nat,v=.tuple #[iv x,iv y]/\(x=i/\y=j\/x=j/\y=i)/\Ar s b w'.heap xs/\Ct .i64 b1 w'/\Ch (fun q=>q=b1) w w':=by
 have hd:Ch (fun q=>q=b1) w w.drew:=(extDrew w).mono fun _ _ h=>h.elim
 refine O.k13 s i j _ cl w _ (ls hcp (w:=w.drew) h (by omega) (by omega) (by omega) (by omega) (fun nn ww hn eC=>have h:=Ar.ch (w:=w.drew) h eC id;have hc:Ct .i64 b1 ww:=(have ⟨T,n,k⟩:=hc;⟨T,n,Ch.at (w:=w.drew) eC k id⟩);have hd:=hd.then eC (fun _ _ h=>h.elim);decC hn (fun _=>?_) (fun _=>⟨i,j,rfl,.inl ⟨rfl,rfl⟩,h,hc,hd⟩)))
 obtain⟨T,n,hn⟩:=hc
 refine⟨b1,0,rfl,n,by rw[cell_of (w:=ww) hn];rfl,b1,0,rfl,rfl,store_one (w:=ww) hn (by simp) rfl fun w2 h2=>⟨j,i,rfl,.inr ⟨rfl,rfl⟩,?_,⟨T,_,h2.new⟩,hd.trans h2.ch⟩⟩
 exact Ar.ch (w:=ww) h h2.ch (Ne.symm hne)
theorem q12[O:SrtOk α][L:SrtL α]{cl:Nat×Array Value}(hcp:CmpP α cl){s:Sl}{b b1:Nat}{w:World}{xs:List α}{i j k:Nat}(h:Ar s b w.heap xs)(hc:Ct .i64 b1 w)(hne:b1≠b)(hi:i<xs.length)(hj:j<xs.length)(hk:k<xs.length):
  Cw (S.f 12) #[slV s,iv i,iv j,iv k,.pointer (some ⟨b1,0,none⟩),.func (.func cl.1) #[] cl.2] w fun v w'=>∃x:Nat,v=iv x/\(x=i\/x=j\/x=k)/\Ar s b w'.heap xs/\Ct .i64 b1 w'/\Ch (fun q=>q=b1) w w':=by
 refine O.k12 s i j k _ cl w _ ((q13 hcp h hc hne hi hj).use ?_)
 rintro _ w2 ⟨x1,y1,rfl,e1,h2,k2,l2⟩
 refine⟨((x1:Int),(y1:Int)),rfl,(q13 hcp h2 k2 hne (by omega) hk).use ?_⟩
 rintro _ w3 ⟨x2,y2,rfl,e2,h3,k3,l3⟩
 refine⟨((x2:Int),(y2:Int)),rfl,(q13 hcp h3 k3 hne (by omega) (by omega)).use ?_⟩
 rintro _ w4 ⟨x3,y3,rfl,e3,h4,k4,l4⟩
 exact⟨((x3:Int),(y3:Int)),rfl,y3,rfl,by omega,h4,k4,(l2.trans l3).trans l4⟩
theorem q11[O:SrtOk α][L:SrtL α]{cl:Nat×Array Value}(hcp:CmpP α cl){s:Sl}{b b1:Nat}{w:World}{xs:List α}{i:Nat}(h:Ar s b w.heap xs)(hc:Ct .i64 b1 w)(hne:b1≠b)(h0:0<i)(hi:i+1<xs.length):
  Cw (S.f 11) #[slV s,iv i,.pointer (some ⟨b1,0,none⟩),.func (.func cl.1) #[] cl.2] w fun v w'=>∃x:Nat,v=iv x/\(i<=x+1/\x<=i+1)/\Ar s b w'.heap xs/\Ct .i64 b1 w'/\Ch (fun q=>q=b1) w w':=by
 have hl:=h.2.2.1
 refine O.k11 s i _ cl w _ ?_
 unfold G11
 rw[wm1 (by omega) (by omega),wp1 (by omega)]
 refine(q12 hcp h hc hne (by omega) (by omega) hi).use ?_
 rintro _ w2 ⟨x,rfl,e,h2,k2,l2⟩
 exact⟨_,rfl,x,rfl,by omega,h2,k2,l2⟩
theorem q5[O:SrtOk α][L:SrtL α]{cl:Nat×Array Value}(hcp:CmpP α cl){s:Sl}{b:Nat}{w:World}{xs:List α}{a e:Nat}(h:Ar s b w.heap xs)(he:e<=xs.length)(ha:a+12<e):
  Cw (S.f 5) #[slV s,iv a,iv e,.func (.func cl.1) #[] cl.2] w fun v w'=>∃(p:Nat)(t:Int),v=.tuple #[iv p,iv t]/\(a<=p/\p<e)/\Ar s b w'.heap xs/\Ext w w':=by
 have hl:=h.2.2.1
 have hlt:=h.lt
 refine O.k5 s a e cl w _ ?_
 intro b1 w2 h2
 have e2:Ext w w2:=h2.ch _
 have p2:=h2.here
 have hA2:=h.ch e2 id
 have hc2:Ct .i64 b1 w2:=⟨_,_,h2.new⟩
 have hne:b1≠b:=by omega
 have hq:IntKind.i64.wrap ((IntKind.i64.wrap ((e:Int)-(a:Int))).tdiv (4:Int))=(((e-a)/4:Nat):Int):=by
  rw[wsb (by omega) (by omega),Int.tdiv_eq_ediv_of_nonneg (by omega),wrap_of (by omega) (by omega)];omega
 rw[hq,wmul (k:=(1:Int)) (m:=1) rfl (by omega) (by omega),wmul (k:=(2:Int)) (m:=2) rfl (by omega) (by omega),wmul (k:=(3:Int)) (m:=3) rfl (by omega) (by omega),wad (by omega),wad (by omega),wad (by omega),wsb (by omega) (by omega)]
 generalize hqq:(e-a)/4=q
 have hx:∀ {w':World},Ch (fun i=>i=b1) w2 w'->Ext w w':=fun hc=>e2.then hc fun i hi h=>by omega
 refine⟨by decide,by decide,by decide,fun x W=>∃p:Nat,x=(p:Int)/\(a<=p/\p<e)/\Ar s b W.heap xs/\Ct .i64 b1 W/\Ch (fun i=>i=b1) w2 W,?_,?_⟩
 ·refine IfB.yes (decide_eq_true (by omega)) ⟨fun x W=>∃i j k:Nat,x=((i:Int),(j:Int),(k:Int))/\(a<=i/\i<e)/\(a<=j/\j<e)/\(a<=k/\k<e)/\Ar s b W.heap xs/\Ct .i64 b1 W/\Ch (fun i=>i=b1) w2 W,?_,?_⟩
  ·refine IfB.dec (fun h50=>?_) (fun _=>⟨rfl,_,_,_,rfl,by omega,by omega,by omega,hA2,hc2,Ch.refl _ _⟩)
   have h50:50<=e-a:=by omega
   refine(q11 hcp hA2 hc2 hne (by omega) (by omega)).use ?_
   rintro _ w6 ⟨i,rfl,hi,h6,k6,l6⟩
   refine⟨_,rfl,(q11 hcp h6 k6 hne (by omega) (by omega)).use ?_⟩
   rintro _ w9 ⟨j,rfl,hj,h9,k9,l9⟩
   refine⟨_,rfl,(q11 hcp h9 k9 hne (by omega) (by omega)).use ?_⟩
   rintro _ w12 ⟨k,rfl,hk,h12,k12,l12⟩
   exact⟨_,rfl,rfl,i,j,k,rfl,by omega,by omega,by omega,h12,k12,(l6.trans l9).trans l12⟩
  ·rintro _ w15 _ ⟨i,j,k,rfl,hi,hj,hk,h15,k15,l15⟩
   refine(q12 hcp h15 k15 hne (by omega) (by omega) (by omega)).use ?_
   rintro _ w19 ⟨x,rfl,hx,h19,k19,l19⟩
   exact⟨_,rfl,rfl,x,rfl,by omega,h19,k19,l15.trans l19⟩
 ·rintro _ w22 _ ⟨p,rfl,hp,h22,⟨T,n,hn⟩,l22⟩
  refine⟨n,by rw[cell_of hn];rfl,IfB.intro (fun _=>⟨p,1,rfl,hp,h22,hx l22⟩) fun _=>IfB.intro (fun _=>⟨p,2,rfl,hp,h22,hx l22⟩) fun _=>⟨p,0,rfl,hp,h22,hx l22⟩⟩
structure Pt(a e:Nat)(xs ys:List α)(v:Int)(Lo:Int->Prop)(i j:Nat):Prop where
 pi:PI a e xs ys
 len:e<=xs.length
 v:g ys a=v
 ai:a+1<=i
 ij:i<=j+1
 je:j+1<=e
 lo:∀k,a<k->k<i->Lo (g ys k)
 hi:∀k,j<k->k<e->¬Lo (g ys k)
theorem Pt.up{a e i j:Nat}{xs ys:List α}{v:Int}{Lo:Int->Prop}(h:Pt a e xs ys v Lo i j)(hij:i<=j)(hl:Lo (g ys i)):Pt a e xs ys v Lo (i+1) j:=by
 have h1:=h.ai
 refine⟨h.pi,h.len,h.v,by omega,by omega,h.je,fun k h1 h2=>?_,h.hi⟩
 by_cases hk:k=i
 ·subst hk;exact hl
 ·exact h.lo k h1 (by omega)
theorem Pt.dn{a e i j:Nat}{xs ys:List α}{v:Int}{Lo:Int->Prop}(h:Pt a e xs ys v Lo i j)(hij:i<=j)(hl:¬Lo (g ys j)):Pt a e xs ys v Lo i (j-1):=by
 have h1:=h.ai;have h2:=h.je
 refine⟨h.pi,h.len,h.v,h1,by omega,by omega,h.lo,fun k h1 h2=>?_⟩
 by_cases hk:k=j
 ·subst hk;exact hl
 ·exact h.hi k (by omega) h2
theorem Pt.sw{a e i j:Nat}{xs ys:List α}{v:Int}{Lo:Int->Prop}(h:Pt a e xs ys v Lo i j)(hij:i<=j)(h1:¬Lo (g ys i))(h2:Lo (g ys j)):Pt a e xs (swp ys i j) v Lo (i+1) (j-1):=by
 have hne:i≠j:=fun e=>h1 (e ▸ h2)
 have hl:=h.pi.len;have h3:=h.len;have h4:=h.ai;have h5:=h.je
 refine⟨.step h.pi (by omega) (by omega) (by omega) (by omega) (by omega),h3,?_,by omega,by omega,by omega,fun k h6 h7=>?_,fun k h6 h7=>?_⟩
 ·rw[g_swo (by omega) (by omega) (by omega) (by omega)];exact h.v
 ·by_cases hk:k=i
  ·subst hk;rw[g_swl (by omega) (by omega)];exact h2
  ·rw[g_swo (by omega) (by omega) (by omega) (by omega)];exact h.lo k h6 (by omega)
 ·by_cases hk:k=j
  ·subst hk;rw[g_swq (by omega) (by omega)];exact h1
  ·rw[g_swo (by omega) (by omega) (by omega) (by omega)];exact h.hi k (by omega) h7
theorem upPart[O:SrtOk α][L:SrtL α]{cl:Nat×Array Value}(hcp:CmpP α cl){s:Sl}{b a e i j:Nat}{w:World}{xs ys:List α}{v:Int}{y:Int->World->Prop}(hP:Pt a e xs ys v (fun x=>x<v) i j)(hA:Ar s b w.heap ys)
  (hy:∀(i':Nat)(w':World),Pt a e xs ys v (fun x=>x<v) i' j->(j<i'\/¬g ys i'<v)->i<=i'->Ext w w'->y (i':Int) w'):
  ∃y14:Nat->Int->World->Prop,(∃b15,y14 b15 (i:Int) w)/\∀(b16:Nat)(n17:Int)(w18:World)(_:Nat->Value),y14 b16 n17 w18->G9j6 α s a cl ((0:Int),(j:Int)) y y14 b16 n17 w18:=by
 refine⟨fun n x W=>∃i':Nat,n=j+1-i'/\x=(i':Int)/\i<=i'/\Pt a e xs ys v (fun x=>x<v) i' j/\Ext w W,⟨_,i,rfl,rfl,Nat.le_refl _,hP,Ch.refl _ _⟩,?_⟩
 rintro _ _ W _ ⟨i',rfl,rfl,hii,hP',hW⟩
 have hl:=hP'.pi.len;have h3:=hP'.len;have h4:=hP'.ai;have h5:=hP'.je;have h6:=hA.2.2.1
 have hd:=hW.trans (extDrew W)
 refine IfB.dec (fun hle=>?_) (fun hgt=>⟨rfl,hy i' _ hP' (.inl (by omega)) hii hd⟩)
 have hle:i'<=j:=by omega
 refine ls hcp (w:=W.drew) (hA.ch hd id) (by omega) (by omega) (by omega) (by omega) (fun nn ww hn eC=>have hd:=hd.trans eC;decC hn (fun hl1=>?_) (fun hl1=>⟨rfl,hy i' _ hP' (.inr ?_) hii hd⟩))
 ·rw[Int.toNat_natCast,Int.toNat_natCast,hP'.v] at hl1
  exact⟨rfl,_,by omega,i'+1,rfl,wp1 (by omega),by omega,hP'.up hle hl1,hd⟩
 ·rw[Int.toNat_natCast,Int.toNat_natCast,hP'.v] at hl1;exact hl1
theorem dnPart[O:SrtOk α][L:SrtL α]{cl:Nat×Array Value}(hcp:CmpP α cl){s:Sl}{b a e i j:Nat}{w:World}{xs ys:List α}{v:Int}{y:Int->World->Prop}(hP:Pt a e xs ys v (fun x=>x<v) i j)(hA:Ar s b w.heap ys)
  (hy:∀(j':Nat)(w':World),Pt a e xs ys v (fun x=>x<v) i j'->(j'<i\/g ys j'<v)->j'<=j->Ext w w'->y (j':Int) w'):
  ∃y14:Nat->Int->World->Prop,(∃b15,y14 b15 (j:Int) w)/\∀(b16:Nat)(n17:Int)(w18:World)(_:Nat->Value),y14 b16 n17 w18->G9j8 α s a cl (i:Int) y y14 b16 n17 w18:=by
 refine⟨fun n x W=>∃j':Nat,j'=n/\x=(j':Int)/\j'<=j/\Pt a e xs ys v (fun x=>x<v) i j'/\Ext w W,⟨_,j,rfl,rfl,Nat.le_refl _,hP,Ch.refl _ _⟩,?_⟩
 rintro _ _ W _ ⟨j',rfl,rfl,hjj,hP',hW⟩
 have hl:=hP'.pi.len;have h3:=hP'.len;have h4:=hP'.ai;have h5:=hP'.je;have h6:=hA.2.2.1
 have hd:=hW.trans (extDrew W)
 refine IfB.dec (fun hle=>?_) (fun hgt=>⟨rfl,hy j' _ hP' (.inl (by omega)) hjj hd⟩)
 have hle:i<=j':=by omega
 refine ls hcp (w:=W.drew) (hA.ch hd id) (by omega) (by omega) (by omega) (by omega) (fun nn ww hn eC=>have hd:=hd.trans eC;introC hn (fun hl1=>?_) (fun hl1=>⟨rfl,hy j' _ hP' (.inr ?_) hjj hd⟩))
 ·simp only[Int.toNat_natCast,hP'.v,Bool.not_eq_true',decide_eq_false_iff_not] at hl1
  exact⟨rfl,j'-1,by omega,j'-1,rfl,wm1 (by omega) (by omega),by omega,hP'.dn hle hl1,hd⟩
 ·simp only[Int.toNat_natCast,hP'.v,Bool.not_eq_false',decide_eq_true_eq] at hl1;exact hl1
theorem q9[O:SrtOk α][L:SrtL α]{cl:Nat×Array Value}(hcp:CmpP α cl){s:Sl}{b:Nat}{w:World}{xs:List α}{a e p:Nat}(h:Ar s b w.heap xs)(he:e<=xs.length)(hp:a<=p/\p<e):
  Cw (S.f 9) #[slV s,iv a,iv e,iv p,.func (.func cl.1) #[] cl.2] w fun v w'=>∃(m:Nat)(t:Bool),v=.tuple #[iv m,.bool t]/\(a<=m/\m<e)/\∃ys,PI a e xs ys/\(∀k,a<=k->k<m->g ys k<g ys m)/\(∀k,m<k->k<e->g ys m<=g ys k)/\Ar s b w'.heap ys/\CB b w w':=by
 have hl:=h.2.2.1
 refine O.k9 s a e p cl w _ ?_
 have hCd:CB b w w.drew:=(extDrew w).mono fun _ _ h=>h.elim
 refine sw (w:=w.drew) h (by omega) (by omega) (by omega) (by omega) fun w12 h12 C12=>?_
 rw[Int.toNat_natCast,Int.toNat_natCast] at h12
 have C12:=hCd.trans C12
 have hP0:Pt a e xs (swp xs a p) (g (swp xs a p) a) (fun x=>x<g (swp xs a p) a) (a+1) (e-1):=
  ⟨.step .refl (by omega) (by omega) (by omega) (by omega) he,he,rfl,by omega,by omega,by omega,fun k h1 h2=>by omega,fun k h1 h2=>by omega⟩
 generalize swp xs a p=ys0 at hP0 h12
 generalize g ys0 a=v at hP0
 have fin:∀ {ys:List α}{j:Nat}{W:World}{t:Bool},Pt a e xs ys v (fun x=>x<v) (j+1) j->Ar s b W.heap ys->CB b w W->
   ∀W2:World,Ar s b W2.heap (swp ys j a)->CB b W W2->∃(m:Nat)(t':Bool),Value.tuple #[iv j,.bool t]=.tuple #[iv m,.bool t']/\(a<=m/\m<e)/\∃ys,PI a e xs ys/\(∀k,a<=k->k<m->g ys k<g ys m)/\(∀k,m<k->k<e->g ys m<=g ys k)/\Ar s b W2.heap ys/\CB b w W2:=by
  intro ys j W t hP hA hC W2 hA2 hC2
  have hyl:=hP.pi.len;have h4:=hP.ai;have h5:=hP.je
  have gj:g (swp ys j a) j=v:=by rw[g_swl (by omega) (by omega)];exact hP.v
  refine⟨j,t,rfl,by omega,_,.step hP.pi (by omega) (by omega) (by omega) (by omega) (by omega),fun k h1 h2=>?_,fun k h1 h2=>?_,hA2,hC.trans hC2⟩
  ·rw[gj]
   by_cases hk:k=a
   ·subst hk;rw[g_swq (by omega) (by omega)];exact hP.lo j (by omega) (by omega)
   ·rw[g_swo (by omega) (by omega) (by omega) (by omega)];exact hP.lo k (by omega) (by omega)
  ·rw[gj,g_swo (by omega) (by omega) (by omega) (by omega)]
   have:=hP.hi k h1 h2
   omega
 refine⟨fun x W=>∃i:Nat,x=(i:Int)/\Pt a e xs ys0 v (fun x=>x<v) i (e-1)/\(e-1<i\/¬g ys0 i<v)/\Ar s b W.heap ys0/\CB b w W,?_,?_⟩
 ·unfold G9j1
  rw[wp1 (by omega),wm1 (by omega) (by omega)]
  exact upPart hcp hP0 h12 fun i' w' h1 h2 _ h3=>⟨i',rfl,h1,h2,h12.ch h3 id,C12.then h3 fun _ _ h=>h.elim⟩
 rintro _ W _ ⟨i,rfl,hP,hi,hA,hC⟩
 refine⟨fun x W'=>∃j:Nat,x=(j:Int)/\Pt a e xs ys0 v (fun x=>x<v) i j/\(j<i\/g ys0 j<v)/\(j<i\/¬g ys0 i<v)/\Ar s b W'.heap ys0/\CB b w W',?_,?_⟩
 ·unfold G9j3
  rw[wm1 (by omega) (by omega)]
  exact dnPart hcp hP hA fun j' w' h1 h2 h3 h4=>⟨j',rfl,h1,h2,by omega,hA.ch h4 id,hC.then h4 fun _ _ h=>h.elim⟩
 rintro _ W1 _ ⟨j,rfl,hP1,hj1,hj2,hA1,hC1⟩
 have hyl:=hP1.pi.len;have h4:=hP1.ai;have h5:=hP1.je;have h6:=hP1.ij
 have hC1d:CB b w W1.drew:=hC1.then (extDrew W1) fun _ _ h=>h.elim
 unfold G9j4
 refine IfB.dec (fun hlt=>?_) (fun hge=>?_)
 ·have hij:i=j+1:=by omega
  subst hij
  refine sw (w:=W1.drew) hA1 (by omega) (by omega) (by omega) (by omega) fun W2 h2 C2=>?_
  rw[Int.toNat_natCast,Int.toNat_natCast] at h2
  exact fin (W:=W1.drew) hP1 hA1 hC1d W2 h2 C2
 ·have hij:i<=j:=by omega
  refine sw (w:=W1.drew) hA1 (by omega) (by omega) (by omega) (by omega) fun W2 h2 C2=>?_
  rw[Int.toNat_natCast,Int.toNat_natCast] at h2
  have hP2:=hP1.sw hij (by omega) (by omega)
  have C2:=hC1d.trans C2
  refine⟨fun n x W=>∃(i j:Nat)(ys:List α),n=j+1-i/\x=((i:Int),(j:Int))/\Pt a e xs ys v (fun x=>x<v) i j/\Ar s b W.heap ys/\CB b w W,⟨_,i+1,j-1,_,rfl,by rw[wp1 (by omega),wm1 (by omega) (by omega)],hP2,h2,C2⟩,?_⟩
  rintro _ _ W3 _ ⟨i3,j3,ys3,rfl,rfl,hP3,hA3,hC3⟩
  unfold G9j5
  refine⟨fun x W=>∃i:Nat,x=(i:Int)/\i3<=i/\Pt a e xs ys3 v (fun x=>x<v) i j3/\(j3<i\/¬g ys3 i<v)/\Ar s b W.heap ys3/\CB b w W,?_,?_⟩
  ·exact upPart hcp hP3 hA3 fun i' w' h1 h2 h3 h4=>⟨i',rfl,h3,h1,h2,hA3.ch h4 id,hC3.then h4 fun _ _ h=>h.elim⟩
  rintro _ W4 _ ⟨i4,rfl,hi34,hP4,hi4,hA4,hC4⟩
  refine⟨fun x W'=>∃j:Nat,x=(j:Int)/\j<=j3/\Pt a e xs ys3 v (fun x=>x<v) i4 j/\(j<i4\/g ys3 j<v)/\(j<i4\/¬g ys3 i4<v)/\Ar s b W'.heap ys3/\CB b w W',?_,?_⟩
  ·exact dnPart hcp hP4 hA4 fun j' w' h1 h2 h3 h4=>⟨j',rfl,h3,h1,h2,by omega,hA4.ch h4 id,hC4.then h4 fun _ _ h=>h.elim⟩
  rintro _ W5 _ ⟨j5,rfl,hj5,hP5,hj51,hj52,hA5,hC5⟩
  have hyl:=hP5.pi.len;have h4:=hP5.ai;have h5:=hP5.je;have h6:=hP5.ij
  have hC5d:CB b w W5.drew:=hC5.then (extDrew W5) fun _ _ h=>h.elim
  unfold G9j9
  refine IfB.dec (fun hlt=>?_) (fun hge=>?_)
  ·have hij:i4=j5+1:=by omega
   subst hij
   refine sw (w:=W5.drew) hA5 (by omega) (by omega) (by omega) (by omega) fun W6 h6 C6=>?_
   rw[Int.toNat_natCast,Int.toNat_natCast] at h6
   exact fin (W:=W5.drew) hP5 hA5 hC5d W6 h6 C6
  ·have hij:i4<=j5:=by omega
   refine sw (w:=W5.drew) hA5 (by omega) (by omega) (by omega) (by omega) fun W6 h6 C6=>?_
   rw[Int.toNat_natCast,Int.toNat_natCast] at h6
   exact⟨rfl,_,by omega,i4+1,j5-1,_,rfl,by rw[wp1 (by omega),wm1 (by omega) (by omega)],hP5.sw hij (by omega) (by omega),h6,hC5d.trans C6⟩
theorem q8[O:SrtOk α][L:SrtL α]{cl:Nat×Array Value}(hcp:CmpP α cl){s:Sl}{b:Nat}{w:World}{xs:List α}{a e p:Nat}(h:Ar s b w.heap xs)(he:e<=xs.length)(hp:a<=p/\p<e):
  Cw (S.f 8) #[slV s,iv a,iv e,iv p,.func (.func cl.1) #[] cl.2] w fun v w'=>∃m:Nat,v=iv m/\(a<m/\m<=e)/\∃ys,PI a e xs ys/\g ys a=g xs p/\(∀k,a<=k->k<m->¬g xs p<g ys k)/\(∀k,m<=k->k<e->g xs p<g ys k)/\Ar s b w'.heap ys/\CB b w w':=by
 have hl:=h.2.2.1
 refine O.k8 s a e p cl w _ ?_
 have hCd:CB b w w.drew:=(extDrew w).mono fun _ _ h=>h.elim
 refine sw (w:=w.drew) h (by omega) (by omega) (by omega) (by omega) fun w12 h12 C12=>?_
 rw[Int.toNat_natCast,Int.toNat_natCast] at h12
 have C12:=hCd.trans C12
 have hv:g (swp xs a p) a=g xs p:=g_swl (by omega) (by omega)
 have hP0:Pt a e xs (swp xs a p) (g xs p) (fun x=>¬g xs p<x) (a+1) (e-1):=
  ⟨.step .refl (by omega) (by omega) (by omega) (by omega) he,he,hv,by omega,by omega,by omega,fun k h1 h2=>by omega,fun k h1 h2=>by omega⟩
 generalize swp xs a p=ys0 at hP0 h12
 clear hv
 generalize g xs p=v at hP0
 refine⟨fun n x W=>∃(i j:Nat)(ys:List α),n=j+1-i/\x=((i:Int),(j:Int))/\Pt a e xs ys v (fun x=>¬v<x) i j/\Ar s b W.heap ys/\CB b w W,⟨_,a+1,e-1,_,rfl,by rw[wp1 (by omega),wm1 (by omega) (by omega)],hP0,h12,C12⟩,?_⟩
 rintro _ _ W3 _ ⟨i3,j3,ys3,rfl,rfl,hP3,hA3,hC3⟩
 unfold G8j1
 refine⟨fun x W=>∃i:Nat,x=(i:Int)/\i3<=i/\Pt a e xs ys3 v (fun x=>¬v<x) i j3/\(j3<i\/v<g ys3 i)/\Ar s b W.heap ys3/\CB b w W,?_,?_⟩
 ·refine⟨fun n x W=>∃i:Nat,n=j3+1-i/\x=(i:Int)/\i3<=i/\Pt a e xs ys3 v (fun x=>¬v<x) i j3/\Ar s b W.heap ys3/\CB b w W,⟨_,i3,rfl,rfl,Nat.le_refl _,hP3,hA3,hC3⟩,?_⟩
  rintro _ _ W _ ⟨i,rfl,rfl,hii,hP,hA,hC⟩
  have hyl:=hP.pi.len;have h4:=hP.ai;have h5:=hP.je;have h6:=hP.ij
  have hd:CB b w W.drew:=hC.then (extDrew W) fun _ _ h=>h.elim
  unfold G8j2
  refine IfB.dec (fun hle=>?_) (fun hgt=>⟨rfl,i,rfl,hii,hP,.inl ?_,hA,hd⟩)
  ·have hle:i<=j3:=by
    have:(i:Int)<=(j3:Int):=hle
    omega
   refine ls hcp (w:=W.drew) hA (by omega) (by omega) (by omega) (by omega) (fun nn ww hn eC=>have hA:=Ar.ch (w:=W.drew) hA eC id;have hd:=CBe hd eC;introC hn (fun hl1=>?_) (fun hl1=>⟨rfl,i,rfl,hii,hP,.inr ?_,hA,hd⟩))
   ·simp only[Int.toNat_natCast,hP.v,Bool.not_eq_true',decide_eq_false_iff_not] at hl1
    exact⟨rfl,_,by omega,i+1,rfl,wp1 (by omega),by omega,hP.up hle hl1,hA,hd⟩
   ·simp only[Int.toNat_natCast,hP.v,Bool.not_eq_false',decide_eq_true_eq] at hl1;exact hl1
  ·have:¬(i:Int)<=(j3:Int):=hgt
   omega
 rintro _ W4 _ ⟨i4,rfl,hi34,hP4,hi4,hA4,hC4⟩
 refine⟨fun x W'=>∃j:Nat,x=(j:Int)/\j<=j3/\Pt a e xs ys3 v (fun x=>¬v<x) i4 j/\(j<i4\/¬v<g ys3 j)/\(j<i4\/v<g ys3 i4)/\Ar s b W'.heap ys3/\CB b w W',?_,?_⟩
 ·refine⟨fun n x W=>∃j:Nat,j=n/\x=(j:Int)/\j<=j3/\Pt a e xs ys3 v (fun x=>¬v<x) i4 j/\(j<i4\/v<g ys3 i4)/\Ar s b W.heap ys3/\CB b w W,⟨_,j3,rfl,rfl,Nat.le_refl _,hP4,by omega,hA4,hC4⟩,?_⟩
  rintro _ _ W _ ⟨j,rfl,rfl,hjj,hP,hi,hA,hC⟩
  have hyl:=hP.pi.len;have h4:=hP.ai;have h5:=hP.je;have h6:=hP.ij
  have hd:CB b w W.drew:=hC.then (extDrew W) fun _ _ h=>h.elim
  unfold G8j4
  refine IfB.dec (fun hle=>?_) (fun hgt=>⟨rfl,j,rfl,hjj,hP,.inl (by omega),hi,hA,hd⟩)
  have hle:i4<=j:=by omega
  refine ls hcp (w:=W.drew) hA (by omega) (by omega) (by omega) (by omega) (fun nn ww hn eC=>have hA:=Ar.ch (w:=W.drew) hA eC id;have hd:=CBe hd eC;decC hn (fun hl1=>?_) (fun hl1=>⟨rfl,j,rfl,hjj,hP,.inr ?_,hi,hA,hd⟩))
  ·rw[Int.toNat_natCast,Int.toNat_natCast,hP.v] at hl1
   exact⟨rfl,j-1,by omega,j-1,rfl,wm1 (by omega) (by omega),by omega,hP.dn hle (by omega),by omega,hA,hd⟩
  ·rw[Int.toNat_natCast,Int.toNat_natCast,hP.v] at hl1;exact hl1
 rintro _ W5 _ ⟨j5,rfl,hj5,hP5,hj51,hj52,hA5,hC5⟩
 have hyl:=hP5.pi.len;have h4:=hP5.ai;have h5:=hP5.je;have h6:=hP5.ij
 have hC5d:CB b w W5.drew:=hC5.then (extDrew W5) fun _ _ h=>h.elim
 unfold G8j5
 refine IfB.dec (fun hlt=>?_) (fun hge=>?_)
 ·refine⟨i4,rfl,by omega,ys3,hP5.pi,hP5.v,fun k h1 h2=>?_,fun k h1 h2=>?_,hA5,hC5⟩
  ·by_cases hk:k=a
   ·subst hk;rw[hP5.v];omega
   ·exact hP5.lo k (by omega) h2
  ·have:=hP5.hi k (by omega) h2
   omega
 ·have hij:i4<=j5:=by omega
  refine sw (w:=W5.drew) hA5 (by omega) (by omega) (by omega) (by omega) fun W6 h6 C6=>?_
  rw[Int.toNat_natCast,Int.toNat_natCast] at h6
  exact⟨rfl,_,by omega,i4+1,j5-1,_,rfl,by rw[wp1 (by omega),wm1 (by omega) (by omega)],hP5.sw hij (by omega) (by omega),h6,hC5d.trans C6⟩
theorem q7[O:SrtOk α][L:SrtL α]{cl:Nat×Array Value}(hcp:CmpP α cl){s:Sl}{b:Nat}{w:World}{xs:List α}{a e:Nat}(h:Ar s b w.heap xs)(he:e<=xs.length)(ha:a<e)(hb:0<a->∀k,a<=k->k<e->g xs (a-1)<=g xs k):
  Cw (S.f 7) #[slV s,iv a,iv e,.func (.func cl.1) #[] cl.2] w fun v w'=>∃t,v=.bool t/\∃ys,PI a e xs ys/\(t=true->SO ys a e)/\Ar s b w'.heap ys/\CB b w w':=by
 have hl:=h.2.2.1
 have lb:∀ {ys},PI a e xs ys->0<a->∀k,a<=k->k<e->g ys (a-1)<=g ys k:=fun{ys} hP h0 k h1 h2=>by
  rw[hP.out (.inl (by omega))]
  exact hP.all (Q:=fun v=>g xs (a-1)<=v) (fun i h3 h4=>hb h0 i h3 h4) k h1 h2
 refine O.k7 s a e cl w _ ⟨fun n x W=>∃(i j:Nat)(ys:List α),n=5-j/\x=((i:Int),(j:Int))/\j<=5/\(a+1<=i/\i<=e)/\PI a e xs ys/\SO ys a i/\Ar s b W.heap ys/\CB b w W,⟨_,a+1,0,xs,rfl,by rw[wp1 (by omega)];rfl,by omega,by omega,.refl,fun p q _ _ _=>by omega,h,Ch.refl _ _⟩,?_⟩
 rintro _ _ W _ ⟨i0,j0,ys,rfl,rfl,hj0,hi0,hP,hS0,hA,hC⟩
 have hyl:=hP.len
 refine IfB.dec (fun hlt=>?_) (fun hge=>⟨false,rfl,ys,hP,(fun h=>by cases h),hA,hC⟩)
 have hj5:j0<5:=by
  have:(j0:Int)<5:=hlt
  omega
 refine⟨fun x W=>∃i:Nat,x=(i:Int)/\(a+1<=i/\i<=e)/\SO ys a i/\Ar s b W.heap ys/\CB b w W,?_,?_⟩
 ·refine⟨fun n x W=>∃i:Nat,n=e-i/\x=(i:Int)/\(a+1<=i/\i<=e)/\SO ys a i/\Ar s b W.heap ys/\CB b w W,⟨_,i0,rfl,rfl,hi0,hS0,hA,hC⟩,?_⟩
  rintro _ _ W1 _ ⟨i,rfl,rfl,hi,hS,hA1,hC1⟩
  unfold G7j2
  refine IfB.dec (fun hlt=>?_) (fun hge=>⟨rfl,i,rfl,hi,hS,hA1,hC1.drew⟩)
  rw[wm1 (by omega) (by omega)]
  refine ls hcp (w:=W1.drew) hA1 (by omega) (by omega) (by omega) (by omega) (fun nn ww hn eC=>have hA1:=Ar.ch (w:=W1.drew) hA1 eC id;have hC1:=CBe (CB.drew hC1) eC;introC hn (fun hl1=>?_) (fun hl1=>⟨rfl,i,rfl,hi,hS,hA1,hC1⟩))
  simp only[Int.toNat_natCast,Bool.not_eq_true',decide_eq_false_iff_not] at hl1
  refine⟨rfl,_,by omega,i+1,rfl,wp1 (by omega),by omega,fun p q h1 h2 h3=>?_,hA1,hC1⟩
  by_cases hq:q=i
  ·subst hq
   by_cases hp:p=q-1
   ·subst hp;omega
   ·have:=hS p (q-1) h1 (by omega) (by omega)
    omega
  ·exact hS p q h1 h2 (by omega)
 rintro _ W2 _ ⟨i,rfl,hi,hS,hA2,hC2⟩
 unfold G7j3
 refine IfB.intro (fun hi3=>?_) (fun hi3=>?_)
 ·have hi3:(i:Int)=(e:Int):=by simpa using hi3
  have:i=e:=by omega
  subst this
  exact⟨true,rfl,ys,hP,fun _=>hS,hA2,hC2⟩
 have hie:i<e:=by
  have:(i:Int)≠(e:Int):=by simpa using hi3
  omega
 rw[wsb (by omega) (by omega)]
 refine @IfB.dec (((e-a:Nat):Int)<(50:Int)) _ _ _ (fun _=>⟨false,rfl,ys,hP,(fun h=>by cases h),hA2,hC2⟩) (fun _=>?_)
 rw[wm1 (by omega) (by omega)]
 refine sw (w:=W2.drew) hA2 (by omega) (by omega) (by omega) (by omega) fun W3 hA3 hC3=>?_
 rw[Int.toNat_natCast,Int.toNat_natCast] at hA3
 have hP3:PI a e xs (swp ys i (i-1)):=.step hP (by omega) (by omega) (by omega) (by omega) (by omega)
 have hC3:=(CB.drew hC2).trans hC3
 rw[wsb (by omega) (by omega)]
 refine⟨fun _ W=>∃zs,PI a e xs zs/\SO zs a i/\Ar s b W.heap zs/\CB b w W,?_,?_⟩
 ·refine IfB.dec (fun h2=>?_) (fun h2=>⟨rfl,_,hP3,fun p q _ _ _=>by omega,hA3,hC3⟩)
  refine⟨fun n x W=>∃(j:Nat)(zs:List α),j=n/\x=(j:Int)/\(a<=j/\j<=i-1)/\PI a e xs zs/\(∀p q,a<=p->p<q->q<i->q≠j->g zs p<=g zs q)/\Ar s b W.heap zs/\CB b w W,⟨_,i-1,_,rfl,rfl,by omega,hP3,fun p q h1 h2 h3 h4=>?_,hA3,hC3⟩,?_⟩
  ·rw[g_swo (by omega) (by omega) (by omega) (by omega),g_swo (by omega) (by omega) (by omega) (by omega)]
   exact hS p q h1 h2 h3
  rintro _ _ W4 _ ⟨j,zs,rfl,rfl,hj,hP4,hS4,hA4,hC4⟩
  have hzl:=hP4.len
  unfold G7j4
  refine IfB.dec (fun hj1=>?_) (fun hj1=>⟨rfl,zs,hP4,fun p q h1 h2 h3=>hS4 p q h1 h2 h3 (by omega),hA4,hC4⟩)
  rw[wm1 (by omega) (by omega)]
  refine ls hcp (w:=W4.drew) hA4 (by omega) (by omega) (by omega) (by omega) (fun nn ww hn eC=>have hA4:=Ar.ch (w:=W4.drew) hA4 eC id;have hC4:=CBe (CB.drew hC4) eC;introC hn (fun hl1=>?_) (fun hl1=>?_))
  ·simp only[Int.toNat_natCast,Bool.not_eq_true',decide_eq_false_iff_not] at hl1
   refine⟨rfl,zs,hP4,fun p q h1 h2 h3=>?_,hA4,hC4⟩
   by_cases hq:q=j
   ·subst hq
    by_cases hp:p=q-1
    ·subst hp;omega
    ·have:=hS4 p (q-1) h1 (by omega) (by omega) (by omega)
     omega
   ·exact hS4 p q h1 h2 h3 hq
  ·simp only[Int.toNat_natCast,Bool.not_eq_false',decide_eq_true_eq] at hl1
   have haj:a<j:=by
    rcases Nat.lt_or_ge a j with h|h
    ·exact h
    ·have:a=j:=by omega
     subst this
     have:=lb hP4 (by omega) a (Nat.le_refl _) (by omega)
     omega
   refine sw (w:=ww.drew) hA4 (by omega) (by omega) (by omega) (by omega) fun W5 hA5 hC5=>?_
   rw[Int.toNat_natCast,Int.toNat_natCast] at hA5
   refine⟨rfl,j-1,by omega,j-1,_,rfl,rfl,by omega,.step hP4 (by omega) (by omega) (by omega) (by omega) (by omega),fun p q h1 h2 h3 h4=>?_,hA5,(CB.drew hC4).trans hC5⟩
   rw[g_swp (by omega) (by omega),g_swp (by omega) (by omega)]
   have A1:=hS4 p (j-1) h1
   have A2:=hS4 p q h1 h2 h3
   have A3:=hS4 j q (by omega)
   have A4:=hS4 (j-1) q (by omega)
   split<;>split<;>(try split)<;>(try split)<;>first|omega|skip
 rintro _ W6 _ ⟨zs,hP6,hS6,hA6,hC6⟩
 have hzl:=hP6.len
 have next:∀ {us:List α}{W:World},PI a e xs us->SO us a i->Ar s b W.heap us->CB b w W->([]:List Nat)=[]/\∃b112,b112<5-j0/\∃(i' j':Nat)(ys:List α),b112=5-j'/\((i:Int),IntKind.i64.wrap ((j0:Int)+(1:Int)))=((i':Int),(j':Int))/\j'<=5/\(a+1<=i'/\i'<=e)/\PI a e xs ys/\SO ys a i'/\Ar s b W.heap ys/\CB b w W:=
  fun h1 h2 h3 h4=>⟨rfl,5-(j0+1),by omega,i,j0+1,_,rfl,by rw[wp1 (by omega)],by omega,by omega,h1,h2,h3,h4⟩
 unfold G7j5
 refine⟨fun t W=>W=W6,⟨rfl,rfl⟩,?_⟩
 rintro t _ _ rfl
 refine IfB.intro (fun _=>?_) (fun _=>next hP6 hS6 hA6 hC6)
 refine⟨fun n x W=>∃(j:Nat)(us:List α),n=e-j/\x=(j:Int)/\(i+1<=j/\j<=e)/\PI a e xs us/\SO us a i/\Ar s b W.heap us/\CB b w W,⟨_,i+1,zs,rfl,wp1 (by omega),by omega,hP6,hS6,hA6,hC6⟩,?_⟩
 rintro _ _ W7 _ ⟨j,us,rfl,rfl,hj,hP7,hS7,hA7,hC7⟩
 have hul:=hP7.len
 unfold G7j7
 refine IfB.dec (fun hlt=>?_) (fun _=>next hP7 hS7 hA7 hC7)
 rw[wm1 (by omega) (by omega)]
 refine ls hcp (w:=W7.drew) hA7 (by omega) (by omega) (by omega) (by omega) (fun nn ww hn eC=>have hA7:=Ar.ch (w:=W7.drew) hA7 eC id;have hC7:=CBe (CB.drew hC7) eC;introC hn (fun _=>next hP7 hS7 hA7 hC7) (fun _=>?_))
 refine sw (w:=ww.drew) hA7 (by omega) (by omega) (by omega) (by omega) fun W8 hA8 hC8=>?_
 rw[Int.toNat_natCast,Int.toNat_natCast] at hA8
 refine⟨rfl,_,by omega,j+1,_,rfl,wp1 (by omega),by omega,.step hP7 (by omega) (by omega) (by omega) (by omega) (by omega),fun p q h1 h2 h3=>?_,hA8,(CB.drew hC7).trans hC8⟩
 rw[g_swo (by omega) (by omega) (by omega) (by omega),g_swo (by omega) (by omega) (by omega) (by omega)]
 exact hS7 p q h1 h2 h3
theorem q4[O:SrtOk α][L:SrtL α]{cl:Nat×Array Value}(hcp:CmpP α cl){s:Sl}{b:Nat}{w:World}{xs:List α}{a e:Nat}(h:Ar s b w.heap xs)(he:e<=xs.length)(ha:a+12<e):
  Cw (S.f 4) #[slV s,iv a,iv e,.func (.func cl.1) #[] cl.2] w fun v w'=>v=.tuple #[]/\∃ys,PI a e xs ys/\Ar s b w'.heap ys/\CB b w w':=by
 have hl:=h.2.2.1
 have hlt:=h.lt
 refine O.k4 s a e cl w _ ?_
 unfold G4
 rw[wsb (by omega) (by omega)]
 refine IfB.yes (decide_eq_true (by omega)) ?_
 intro b1 w2 h2
 have p2:=h2.here;have z2:=h2.size
 rw[wu64 (by omega)]
 refine⟨rfl,store_all h2.new rfl (by intro u hu;simp at hu;subst hu;rfl) fun w3 h3=>?_⟩
 have e3:Ext w w3:=Ext.fresh h2 h3
 have hne:b1≠b:=by omega
 refine(c243 (x:=e-a) (by omega) w3).use ?_
 rintro _ _ ⟨L,rfl,hL,rfl⟩
 have hq:IntKind.i64.wrap ((((e-a:Nat):Int)).tdiv (4:Int))=(((e-a)/4:Nat):Int):=by
  rw[Int.tdiv_eq_ediv_of_nonneg (by omega),wrap_of (by omega) (by omega)];omega
 obtain⟨hL1,hL2,hL3⟩:=hL
 obtain⟨hL4,hL5⟩:=hL2 (by omega)
 have h2L:2^L<=2*(e-a):=by
  have:2^L=2^(L-1)*2:=by rw[<-Nat.pow_succ];congr 1;omega
  omega
 have hLpos:0<2^L:=Nat.pow_pos (by decide)
 generalize 2^L=M at*
 rw[hq,wmul (k:=(2:Int)) (m:=2) rfl (by omega) (by omega),wad (by omega),wm1 (by omega) (by omega)]
 generalize hqq:(e-a)/4=q at*
 refine⟨_,rfl,by decide,fun n x W=>∃(i:Nat)(ys:List α),n=a+q*2+2-i/\x=(i:Int)/\(a+q*2-1<=i/\i<=a+q*2+2)/\PI a e xs ys/\Ar s b W.heap ys/\Ct .u64 b1 W/\CB b w W,⟨_,_,xs,rfl,rfl,by omega,.refl,h.ch e3 id,⟨_,_,h3.new⟩,e3.mono fun _ _ h=>h.elim⟩,?_⟩
 rintro _ _ W _ ⟨i,ys,rfl,rfl,hi,hP,hA,hK,hC⟩
 have hyl:=hP.len
 unfold G4j1
 rw[wsb (by omega) (by omega),hq,wmul (k:=(2:Int)) (m:=2) rfl (by omega) (by omega),wad (by omega),wp1 (by omega)]
 refine⟨by decide,IfB.dec (fun hle=>?_) (fun hgt=>⟨rfl,ys,hP,hA,hC⟩)⟩
 refine(c244 hK).use ?_
 rintro _ w15 ⟨n16,rfl,hK2,hC2⟩
 have hA2:=hA.ch hC2 (Ne.symm hne)
 have hC3:CB b w w15:=hC.then hC2 fun j hj h=>by omega
 have hm:IntKind.u64.wrap ((M:Int)-(1:Int))=((M-1:Nat):Int):=by
  rw[show ((M:Int)-(1:Int))=((M-1:Nat):Int) by omega,wu64 (by omega)]
 obtain⟨k,hk,hkM⟩:=and_le (n:=n16) (m:=M-1) (by omega)
 refine⟨n16,rfl,fun x W=>∃t:Nat,x=(t:Int)/\t<e-a/\w15=W,?_,?_⟩
 ·rw[hm,hk,wrap_of (n:=(k:Int)) (by omega) (by omega)]
  refine IfB.dec (fun h1=>⟨rfl,k-(e-a),wsb (by omega) (by omega),by omega,rfl⟩) (fun h1=>⟨rfl,k,rfl,by omega,rfl⟩)
 rintro _ _ _ ⟨t,rfl,ht,rfl⟩
 unfold G4j2
 rw[wad (by omega)]
 refine sw (w:=w15.drew) hA2 (by omega) (by omega) (by omega) (by omega) fun W5 hA5 hC5=>?_
 rw[Int.toNat_natCast,Int.toNat_natCast] at hA5
 exact⟨rfl,_,by omega,i+1,_,rfl,wp1 (by omega),by omega,.step hP (by omega) (by omega) (by omega) (by omega) (by omega),hA5,by
  obtain⟨T,n,hn⟩:=hK2
  exact⟨T,n,hC5.at (w:=w15.drew) hn hne⟩,hC3.drew.trans hC5⟩
theorem SO.split{ys:List α}{a m e:Nat}(h1:SO ys a m)(h2:SO ys (m+1) e)(hl:∀k,a<=k->k<m->g ys k<=g ys m)(hr:∀k,m<k->k<e->g ys m<=g ys k):SO ys a e:=by
 intro p q hp hpq hq
 rcases Nat.lt_trichotomy p m with h|h|h
 ·rcases Nat.lt_trichotomy q m with k|k|k
  ·exact h1 p q hp hpq k
  ·subst k;exact hl p hp h
  ·have:=hl p hp h;have:=hr q k hq;omega
 ·subst h;exact hr q hpq hq
 ·exact h2 p q (by omega) hpq hq
theorem PI.trans'{a b a' b':Nat}{xs ys zs:List α}(h:PI a b xs ys)(k:PI a' b' ys zs)(h1:a<=a')(h2:b'<=b)(h3:b<=xs.length):PI a b xs zs:=
 h.trans (k.mono h1 h2 (by rw[h.len];exact h3))
def LB(xs:List α)(a e:Nat):Prop:=0<a->∀k,a<=k->k<e->g xs (a-1)<=g xs k
theorem LB.pi{xs ys:List α}{a e:Nat}(h:LB xs a e)(hP:PI a e xs ys):LB ys a e:=fun h0 k h1 h2=>by
 rw[hP.out (.inl (by omega))]
 exact hP.all (Q:=fun v=>g xs (a-1)<=v) (fun i h3 h4=>h h0 i h3 h4) k h1 h2
def Pd(ys:List α)(a m e:Nat):Prop:=(∀k,a<=k->k<m->g ys k<=g ys m)/\(∀k,m<k->k<e->g ys m<=g ys k)
theorem Pd.left{ys zs:List α}{a m e:Nat}(h:Pd ys a m e)(hP:PI a m ys zs):Pd zs a m e:=by
 have em:g zs m=g ys m:=hP.out (.inr (Nat.le_refl _))
 refine⟨fun k h1 h2=>?_,fun k h1 h2=>?_⟩
 ·rw[em];exact hP.all (Q:=fun v=>v<=g ys m) (fun i h3 h4=>h.1 i h3 h4) k h1 h2
 ·rw[em,hP.out (.inr (by omega))];exact h.2 k h1 h2
theorem Pd.right{ys zs:List α}{a m e:Nat}(h:Pd ys a m e)(hP:PI (m+1) e ys zs):Pd zs a m e:=by
 have em:g zs m=g ys m:=hP.out (.inl (by omega))
 refine⟨fun k h1 h2=>?_,fun k h1 h2=>?_⟩
 ·rw[em,hP.out (.inl (by omega))];exact h.1 k h1 h2
 ·rw[em];exact hP.all (Q:=fun v=>g ys m<=v) (fun i h3 h4=>h.2 i (by omega) h4) k (by omega) h2
theorem SO.keep{ys zs:List α}{a e a' e':Nat}(h:SO ys a e)(hP:PI a' e' ys zs)(hd:e<=a'\/e'<=a):SO zs a e:=by
 intro p q h1 h2 h3
 rw[hP.out (by omega),hP.out (by omega)]
 exact h p q h1 h2 h3
theorem q1[O:SrtOk α][L:SrtL α]{cl:Nat×Array Value}(hcp:CmpP α cl)(n:Nat):∀ {s:Sl}{b:Nat}{w:World}{xs:List α}{a e:Nat}(lim:Int),e-a=n->Ar s b w.heap xs->e<=xs.length->a<=e->LB xs a e->
  Cw (S.f 1) #[slV s,iv a,iv e,iv lim,.func (.func cl.1) #[] cl.2] w fun v w'=>v=.tuple #[]/\∃ys,PI a e xs ys/\SO ys a e/\Ar s b w'.heap ys/\CB b w w':=by
 induction n using Nat.strongRecOn with
 | _ n ih=>
 intro s b w xs a e lim hn h he hae hLB
 have hl:=h.2.2.1
 refine O.k1 s a e lim cl w _ ⟨fun k x W=>∃(a' e':Nat)(lm:Int)(wb wp:Bool)(ys:List α),k=e'-a'/\x=((a':Int),(e':Int),lm,wb,wp)/\(a<=a'/\a'<=e'/\e'<=e)/\PI a e xs ys/\LB ys a' e'/\
  (∀zs,PI a' e' ys zs->SO zs a' e'->SO zs a e)/\Ar s b W.heap ys/\CB b w W,⟨_,a,e,lim,true,true,xs,rfl,rfl,by omega,.refl,hLB,fun _ _ h=>h,h,Ch.refl _ _⟩,?_⟩
 rintro _ _ W _ ⟨a',e',lm,wb,wp,ys,rfl,rfl,hae',hP,hB,hG,hA,hC⟩
 have hyl:=hP.len
 have up:∀ {zs},PI a' e' ys zs->PI a e xs zs:=fun k=>hP.trans' k (by omega) (by omega) he
 unfold G1j1
 dsimp only
 rw[wsb (by omega) (by omega)]
 refine IfB.dec (fun h12=>?_) (fun h12=>?_)
 ·refine(q2 hcp hA (by omega) (by omega)).use ?_
  rintro _ W2 ⟨rfl,zs,hP2,hS2,hA2,hC2⟩
  exact⟨(),rfl,rfl,zs,up hP2,hG zs hP2 hS2,hA2,hC.trans hC2⟩
 have hbig:a'+12<e':=by omega
 refine IfB.intro (fun _=>?_) (fun _=>?_)
 ·refine(q3 hcp hA (by omega) (by omega)).use ?_
  rintro _ W2 ⟨rfl,zs,hP2,hS2,hA2,hC2⟩
  exact⟨(),rfl,rfl,zs,up hP2,hG zs hP2 hS2,hA2,hC.trans hC2⟩
 refine⟨fun _ W=>∃zs,PI a' e' ys zs/\Ar s b W.heap zs/\CB b w W,?_,?_⟩
 ·refine IfB.intro (fun _=>?_) (fun _=>⟨rfl,ys,.refl,hA,hC⟩)
  refine(q4 hcp hA (by omega) hbig).use ?_
  rintro _ W2 ⟨rfl,zs,hP2,hA2,hC2⟩
  exact⟨(),rfl,rfl,zs,hP2,hA2,hC.trans hC2⟩
 rintro lm2 W2 _ ⟨zs,hP2,hA2,hC2⟩
 have hzl:=hP2.len
 unfold G1j2
 dsimp only
 refine(q5 hcp hA2 (by omega) hbig).use ?_
 rintro _ W3 ⟨p,t,rfl,hp,hA3,e3⟩
 have hC3:CB b w W3:=hC2.then e3 fun _ _ h=>h.elim
 refine⟨((p:Int),t),rfl,fun x W=>∃(p:Nat)(us:List α),x.1=(p:Int)/\(a'<=p/\p<e')/\PI a' e' ys us/\Ar s b W.heap us/\CB b w W,?_,?_⟩
 ·refine IfB.intro (fun _=>?_) (fun _=>⟨rfl,p,zs,rfl,hp,hP2,hA3,hC3⟩)
  refine(q6 hcp hA3 (by omega) (by omega)).use ?_
  rintro _ W4 ⟨rfl,us,hP4,hA4,hC4⟩
  refine⟨(),rfl,rfl,e'-1-(p-a'),us,?_,by omega,hP2.trans hP4,hA4,hC3.trans hC4⟩
  show IntKind.i64.wrap (IntKind.i64.wrap ((e':Int)-1)-IntKind.i64.wrap ((p:Int)-(a':Int)))=_
  rw[wm1 (by omega) (by omega),wsb (by omega) (by omega),wsb (by omega) (by omega)]
 rintro⟨_,t2⟩ W5 _ ⟨p,us,rfl,hp,hP5,hA5,hC5⟩
 have hul:=hP5.len
 unfold G1j3
 dsimp only
 refine⟨fun _ W=>∃us,PI a' e' ys us/\Ar s b W.heap us/\CB b w W,?_,?_⟩
 ·refine IfB.intro (fun _=>IfB.intro (fun _=>IfB.intro (fun _=>?_) (fun _=>⟨rfl,us,hP5,hA5,hC5⟩)) (fun _=>⟨rfl,us,hP5,hA5,hC5⟩)) (fun _=>⟨rfl,us,hP5,hA5,hC5⟩)
  refine(q7 hcp hA5 (by omega) (by omega) (hB.pi hP5)).use ?_
  rintro _ W6 ⟨t,rfl,vs,hP6,hS6,hA6,hC6⟩
  exact⟨t,rfl,IfB.intro (fun ht=>⟨rfl,vs,up (hP5.trans hP6),hG vs (hP5.trans hP6) (hS6 ht),hA6,hC5.trans hC6⟩) (fun _=>⟨rfl,vs,hP5.trans hP6,hA6,hC5.trans hC6⟩)⟩
 rintro _ W7 _ ⟨us,hP7,hA7,hC7⟩
 have hul:=hP7.len
 have hB7:=hB.pi hP7
 have hG7:∀zs,PI a' e' us zs->SO zs a' e'->SO zs a e:=fun zs k=>hG zs (hP7.trans k)
 have part:∀ {W8:World},Ar s b W8.heap us->CB b w W8->Cx (S.f 9) #[slV s,iv a',iv e',iv p,.func (.func cl.1) #[] cl.2] W8 fun v65 w66=>∃x67:Int×Bool,v65=.tuple #[.int .i64 x67.1,.bool x67.2]/\¬(8:Int)=0/\
   IfB (decide (IntKind.i64.wrap (x67.fst-(a':Int))<IntKind.i64.wrap ((e':Int)-x67.fst))) (G1k2 α s ((a':Int),(e':Int),lm,wb,wp) x67 lm2 cl w66 (e'-a') (fun k x W=>∃(a' e':Nat)(lm:Int)(wb wp:Bool)(ys:List α),k=e'-a'/\x=((a':Int),(e':Int),lm,wb,wp)/\(a<=a'/\a'<=e'/\e'<=e)/\PI a e xs ys/\LB ys a' e'/\
  (∀zs,PI a' e' ys zs->SO zs a' e'->SO zs a e)/\Ar s b W.heap ys/\CB b w W))
    (G1k1 α s x67 ((a':Int),(e':Int),lm,wb,wp) lm2 cl w66 (e'-a') (fun k x W=>∃(a' e':Nat)(lm:Int)(wb wp:Bool)(ys:List α),k=e'-a'/\x=((a':Int),(e':Int),lm,wb,wp)/\(a<=a'/\a'<=e'/\e'<=e)/\PI a e xs ys/\LB ys a' e'/\
  (∀zs,PI a' e' ys zs->SO zs a' e'->SO zs a e)/\Ar s b W.heap ys/\CB b w W)):=by
  intro W8 hA8 hC8
  refine(q9 hcp hA8 (by omega) hp).use ?_
  rintro _ W9 ⟨m,t,rfl,hm,vs,hP9,h1,h2,hA9,hC9⟩
  have hvl:=hP9.len
  have hPd:Pd vs a' m e':=⟨fun k h3 h4=>Int.le_of_lt (h1 k h3 h4),h2⟩
  have hB9:=hB7.pi hP9
  have hC9:=hC8.trans hC9
  refine⟨((m:Int),t),rfl,by decide,IfB.intro (fun _=>?_) (fun _=>?_)⟩
  ·unfold G1k2
   refine(ih (m-a') (by omega) lm2 rfl hA9 (by omega) (by omega) fun h0 k h3 h4=>hB9 h0 k h3 (by omega)).use ?_
   rintro _ W10 ⟨rfl,ts,hP10,hS10,hA10,hC10⟩
   have hPd2:=hPd.left hP10
   refine⟨(),rfl,rfl,e'-(m+1),by omega,m+1,e',_,_,_,ts,rfl,by rw[wp1 (by omega)],by omega,hP.trans' (hP7.trans (hP9.trans' hP10 (by omega) (by omega) (by omega))) (by omega) (by omega) he,fun _ k h3 h4=>hPd2.2 k (by omega) h4,fun zs hz hSz=>?_,hA10,hC9.trans hC10⟩
   have hPz:PI a' e' us zs:=(hP9.trans' hP10 (by omega) (by omega) (by omega)).trans' hz (by omega) (by omega) (by omega)
   have hPd3:=hPd2.right hz
   exact hG7 zs hPz ((hS10.keep hz (.inl (by omega))).split hSz hPd3.1 hPd3.2)
  ·unfold G1k1
   dsimp only
   rw[wp1 (by omega)]
   refine(ih (e'-(m+1)) (by omega) lm2 rfl hA9 (by omega) (by omega) fun h0 k h3 h4=>hPd.2 k (by omega) h4).use ?_
   rintro _ W10 ⟨rfl,ts,hP10,hS10,hA10,hC10⟩
   have hPd2:=hPd.right hP10
   have hB10:LB ts a' m:=fun h0 k h3 h4=>by
    rw[hP10.out (.inl (by omega)),hP10.out (.inl (by omega))]
    exact hB9 h0 k h3 (by omega)
   refine⟨(),rfl,rfl,m-a',by omega,a',m,_,_,_,ts,rfl,rfl,by omega,hP.trans' (hP7.trans (hP9.trans' hP10 (by omega) (by omega) (by omega))) (by omega) (by omega) he,hB10,fun zs hz hSz=>?_,hA10,hC9.trans hC10⟩
   have hPz:PI a' e' us zs:=(hP9.trans' hP10 (by omega) (by omega) (by omega)).trans' hz (by omega) (by omega) (by omega)
   have hPd3:=hPd2.left hz
   exact hG7 zs hPz (hSz.split (hS10.keep hz (.inr (by omega))) hPd3.1 hPd3.2)
 unfold G1j4
 dsimp only
 refine IfB.dec (fun h0=>?_) (fun h0=>part (W8:=W7.drew) hA7 hC7.drew)
 have h0:0<a':=by omega
 rw[wm1 (by omega) (by omega)]
 refine ls hcp (w:=W7.drew) hA7 (by omega) (by omega) (by omega) (by omega) (fun nn ww hn eC=>have hA7:=Ar.ch (w:=W7.drew) hA7 eC id;have hC7:=CBe (CB.drew hC7) eC;introC hn (fun hl1=>?_) (fun _=>part hA7 hC7))
 simp only[Int.toNat_natCast,Bool.not_eq_true',decide_eq_false_iff_not] at hl1
 refine(q8 hcp (w:=ww) hA7 (by omega) hp).use ?_
 rintro _ W8 ⟨m,rfl,hm,vs,hP8,hv,h1,h2,hA8,hC8⟩
 have hvl:=hP8.len
 have hB8:=hB7.pi hP8
 have ho:g vs (a'-1)=g us (a'-1):=hP8.out (.inl (by omega))
 have hv1:∀k,a'<=k->k<m->g vs k=g us p:=fun k h3 h4=>by
  have:=h1 k h3 h4
  have:=hB8 h0 k h3 (by omega)
  omega
 refine⟨_,rfl,rfl,e'-m,by omega,m,e',lm2,wb,wp,vs,rfl,rfl,by omega,up (hP7.trans hP8),fun _ k h3 h4=>?_,fun zs hz hSz=>?_,hA8,hC7.trans hC8⟩
 ·rw[hv1 (m-1) (by omega) (by omega)]
  have:=h2 k h3 h4
  omega
 ·have hlow:∀k,a'<=k->k<m->g zs k=g us p:=fun k h3 h4=>by rw[hz.out (.inl h4)];exact hv1 k h3 h4
  have hhigh:∀k,m<=k->k<e'->g us p<g zs k:=hz.all (Q:=fun v=>g us p<v) h2
  refine hG7 zs (hP8.trans' hz (by omega) (by omega) (by omega)) fun i j h3 h4 h5=>?_
  by_cases hj:j<m
  ·rw[hlow i h3 (by omega),hlow j (by omega) hj];exact Int.le_refl _
  ·by_cases hi:i<m
   ·rw[hlow i h3 hi]
    have:=hhigh j (by omega) h5
    omega
   ·exact hSz i j (by omega) h4 h5
theorem SO.sorted{ys:List α}(h:SO ys 0 ys.length):ys.Pairwise (fun x y=>key x<=key y):=by
 rw[List.pairwise_iff_getElem]
 intro i j hi hj hij
 have:=h i j (Nat.zero_le _) hij hj
 have e1:=ge_eq hi;have e2:=ge_eq hj
 rw[List.getElem?_eq_getElem hi] at e1
 rw[List.getElem?_eq_getElem hj] at e2
 rw[Option.some.injEq] at e1 e2
 rw[e1,e2];exact this
theorem c125e[O:SrtOk α][L:SrtL α](cl:Nat×Array Value)(s:Sl)(w:World):Cw (S.f 2) #[slV s,iv 0,iv 0,.func (.func cl.1) #[] cl.2] w fun v w'=>v=.tuple #[]/\w=w':=by
 refine O.k2 s (0:Int) (0:Int) cl w _ ⟨fun k x W'=>x=(1:Int)/\w=W',⟨0,by decide,rfl⟩,?_⟩
 rintro k _ _ _ ⟨rfl,rfl⟩
 exact IfB.no (by decide) ⟨rfl,rfl⟩
theorem c120e[O:SrtOk α][L:SrtL α](cl:Nat×Array Value)(s:Sl)(L:Int)(w:World):Cw (S.f 1) #[slV s,iv 0,iv 0,iv L,.func (.func cl.1) #[] cl.2] w fun v w'=>v=.tuple #[]/\w=w':=by
 refine O.k1 s (0:Int) (0:Int) L cl w _ ⟨fun k x W=>x=((0:Int),(0:Int),L,true,true)/\w=W,⟨0,rfl,rfl⟩,?_⟩
 rintro k _ _ _ ⟨rfl,rfl⟩
 unfold G1j1
 refine IfB.yes (show decide (IntKind.i64.wrap ((0:Int)-(0:Int))<=(12:Int))=true by decide) ((c125e cl s w).use ?_)
 rintro _ _ ⟨rfl,rfl⟩
 exact⟨(),rfl,rfl,rfl⟩
theorem q0[O:SrtOk α][L:SrtL α]{cl:Nat×Array Value}(hcp:CmpP α cl){w:World}{s:Sl}{xs:List α}(h:OwS w s S.z (xs.flatMap sv))(hl:xs.length<=1000000)(hq:∀x∈xs,Q x):
  Cw (S.f 0) #[slV s,.func (.func cl.1) #[] cl.2] w fun v w'=>v=.tuple #[]/\∃ys:List α,ys.Perm xs/\ys.Pairwise (fun x y=>key x<=key y)/\OwS w' s S.z (ys.flatMap sv)/\Ch (fun i=>i∈blk s) w w':=by
 have hn:=owsN sv_len L.z0 h
 refine O.k0 s cl w _ ?_
 unfold G0
 rw[show (s.2:Int)=((xs.length:Nat):Int) by show (s.n:Int)=_;rw[hn],wu64 (by omega)]
 refine(c156 hl w).use ?_
 rintro _ _ ⟨L,rfl,hL,rfl⟩
 refine⟨_,rfl,?_⟩
 by_cases h0:xs.length=0
 ·have:xs=[]:=List.length_eq_zero_iff.1 h0
  subst this
  refine(c120e cl s L w).use ?_
  rintro _ _ ⟨rfl,rfl⟩
  exact⟨(),rfl,rfl,[],.refl _,.nil,h,Ch.refl _ _⟩
 ·obtain⟨b,hA,hb⟩:=Ar.of h (by omega) hl hq
  refine(q1 hcp _ (L:Int) rfl hA (Nat.le_refl _) (Nat.zero_le _) (fun h0=>absurd h0 (by decide))).use ?_
  rintro _ W2 ⟨rfl,ys,hP,hS,hA2,hC2⟩
  have hyl:=hP.len
  exact⟨(),rfl,rfl,ys,hP.perm,SO.sorted (by rw[hyl];exact hS),hA2.own,hC2.mono fun i _ hi=>by rw[hb];simpa using hi⟩
end Go.Proofs.YtlpgdngcgbeegaaGreat.Gx.SfG
namespace Go.Proofs.YtlpgdngcgbeegaaGreat.Gx.SfS
open Go Go.Proofs.YtlpgdngcgbeegaaGreat.Gx
abbrev El:=Int×Int
def key(x:El):Int:=x.1
def Q(_:El):Prop:=True
@[reducible] def ins:SrtC El:=⟨fun i=>[233,269,287,288,289,290,291,292,293,294,305,306,307,309].getD i 0,fun x=>[.int .i64 x.1,.int .i64 x.2],2,(0,0),key,Q⟩
set_option linter.unusedVariables false
set_option maxRecDepth 100000
theorem k0(t0:Sl)(t1:Nat×Array Value)(w:World)(R:RV)(h: @G0 El ins t0 t1 w R):Cw 233 #[Value.slice t0.1 t0.2 t0.3,Value.func (Fn.func t1.1) #[] t1.2] w R:=
 call_of tbOk mixed en233 Tryz.func233 rfl .nil (by kernel_rfl) (Nat.le_of_ble_eq_true (by kernel_rfl)) (Eq.mp (α:= @G0 El ins t0 t1 w R) (by kernel_rfl) h)
theorem k1(t0:Sl)(t1:Int)(t2:Int)(t3:Int)(t4:Nat×Array Value)(w:World)(R:RV)(h: @G1 El ins t0 t1 t2 t3 t4 w R):Cw 269 #[Value.slice t0.1 t0.2 t0.3,Value.int IntKind.i64 t1,Value.int IntKind.i64 t2,Value.int IntKind.i64 t3,Value.func (Fn.func t4.1) #[] t4.2] w R:=
 call_of tbOk mixed en269 Tryz.func269 rfl (nd (nd (.loop [(1,oi),(2,oi),(3,oi),(10,ob),(11,ob)] (rg [1,3,10,147]) (nd (nd (nd (.join [(3,oi)] (rg [3,3,38,46]) .nil (nd (.join [(13,oi),(14,oi)] (rg [13,14,55,67]) .nil (.join [] (rg [68,80]) .nil (.node (.node (.draw (sts [0,1,2,3,4,5,6,7,8,9,10,11,12] (.ac 13 [] (sts [14,15,16] .fin) .non))) .nil) .nil))))))))))) (by kernel_rfl) (Nat.le_of_ble_eq_true (by kernel_rfl)) (Eq.mp (α:= @G1 El ins t0 t1 t2 t3 t4 w R) (by kernel_rfl) h)
theorem k2(t0:Sl)(t1:Int)(t2:Int)(t3:Nat×Array Value)(w:World)(R:RV)(h: @G2 El ins t0 t1 t2 t3 w R):Cw 287 #[Value.slice t0.1 t0.2 t0.3,Value.int IntKind.i64 t1,Value.int IntKind.i64 t2,Value.func (Fn.func t3.1) #[] t3.2] w R:=
 call_of tbOk mixed en287 Tryz.func287 rfl (nd (.loop [(8,oi)] (rg [8,9,12,52]) (nd (.node (nd (.loop [(9,oi)] (rg [9,9,18,52]) (.node (.node (.draw (sts [0,1,2,3,4,5,6,7,8,9,10,11,12,13] (.ac 14 [] (sts [15,16] .fin) .non))) .nil) (.node (.draw (sts [0,1,2,3,4,5,6,7,8,9,10,11,12,13,14] (.ac 15 [4,3,2] (.st 16 (.ac 17 [] .fin .non)) .non))) .nil)))) .nil)))) (by kernel_rfl) (Nat.le_of_ble_eq_true (by kernel_rfl)) (Eq.mp (α:= @G2 El ins t0 t1 t2 t3 w R) (by kernel_rfl) h)
theorem k3(t0:Sl)(t1:Int)(t2:Int)(t3:Nat×Array Value)(w:World)(R:RV)(h: @G3 El ins t0 t1 t2 t3 w R):Cw 288 #[Value.slice t0.1 t0.2 t0.3,Value.int IntKind.i64 t1,Value.int IntKind.i64 t2,Value.func (Fn.func t3.1) #[] t3.2] w R:=
 call_of tbOk mixed en288 Tryz.func288 rfl (nd (nd (nd (.node (nd (.loop [(11,oi)] (rg [11,11,20,29]) .nil)) (nd (.loop [(12,oi)] (rg [12,12,32,59]) (nd (.node (.node (.draw (sts [0,1,2,3,4,5,6,7,8,9,10,11,12,13,14,15,16] (.ac 17 [5,4,3,2] (.st 18 (.ac 19 [] .fin .non)) .non))) .nil) .nil)))))))) (by kernel_rfl) (Nat.le_of_ble_eq_true (by kernel_rfl)) (Eq.mp (α:= @G3 El ins t0 t1 t2 t3 w R) (by kernel_rfl) h)
theorem k4(t0:Sl)(t1:Int)(t2:Int)(t3:Nat×Array Value)(w:World)(R:RV)(h: @G4 El ins t0 t1 t2 t3 w R):Cw 289 #[Value.slice t0.1 t0.2 t0.3,Value.int IntKind.i64 t1,Value.int IntKind.i64 t2,Value.func (Fn.func t3.1) #[] t3.2] w R:=
 call_of tbOk mixed en289 Tryz.func289 rfl (nd (nd (.node (nd (nd (nd (.loop [(11,oi)] (rg [11,12,28,66]) (nd (.node (nd (.join [(12,oi)] (rg [12,12,43,48]) .nil (.draw (sts [0,1,2,3,4,5,6,7,8,9,10,11,12,13,14,15,16] (.ac 17 [5,4,3,2] (.st 18 (.ac 19 [] .fin .non)) .non))))) .nil)))))) .nil))) (by kernel_rfl) (Nat.le_of_ble_eq_true (by kernel_rfl)) (Eq.mp (α:= @G4 El ins t0 t1 t2 t3 w R) (by kernel_rfl) h)
theorem k5(t0:Sl)(t1:Int)(t2:Int)(t3:Nat×Array Value)(w:World)(R:RV)(h: @G5 El ins t0 t1 t2 t3 w R):Cw 290 #[Value.slice t0.1 t0.2 t0.3,Value.int IntKind.i64 t1,Value.int IntKind.i64 t2,Value.func (Fn.func t3.1) #[] t3.2] w R:=
 call_of tbOk mixed en290 Tryz.func290 rfl (nd (nd (nd (nd (nd (nd (.join [(13,oi)] (rg [12,14,33,54]) (nd (.node (.join [(12,oi),(13,oi),(14,oi)] (rg [12,14,35,48]) .nil .nil) .nil)) .nil))))))) (by kernel_rfl) (Nat.le_of_ble_eq_true (by kernel_rfl)) (Eq.mp (α:= @G5 El ins t0 t1 t2 t3 w R) (by kernel_rfl) h)
theorem k6(t0:Sl)(t1:Int)(t2:Int)(t3:Nat×Array Value)(w:World)(R:RV)(h: @G6 El ins t0 t1 t2 t3 w R):Cw 291 #[Value.slice t0.1 t0.2 t0.3,Value.int IntKind.i64 t1,Value.int IntKind.i64 t2,Value.func (Fn.func t3.1) #[] t3.2] w R:=
 call_of tbOk mixed en291 Tryz.func291 rfl (nd (nd (.loop [(8,oi),(9,oi)] (rg [8,9,13,33]) (nd (.node (.draw (sts [0,1,2,3,4,5,6,7,8,9,10,11,12] (.ac 13 [3,2] (.st 14 (.ac 15 [] .fin .non)) .non))) .nil))))) (by kernel_rfl) (Nat.le_of_ble_eq_true (by kernel_rfl)) (Eq.mp (α:= @G6 El ins t0 t1 t2 t3 w R) (by kernel_rfl) h)
theorem k7(t0:Sl)(t1:Int)(t2:Int)(t3:Nat×Array Value)(w:World)(R:RV)(h: @G7 El ins t0 t1 t2 t3 w R):Cw 292 #[Value.slice t0.1 t0.2 t0.3,Value.int IntKind.i64 t1,Value.int IntKind.i64 t2,Value.func (Fn.func t3.1) #[] t3.2] w R:=
 call_of tbOk mixed en292 Tryz.func292 rfl (nd (nd (.node (nd (.loop [(9,oi),(10,oi)] (rg [8,12,15,140]) (nd (.node (.join [(9,oi)] (rg [9,9,19,38]) (.loop [(9,oi)] (rg [9,9,19,38]) (.node (.node (.draw (sts [0,1,2,3,4,5,6,7,8,9,10,11,12,13] (.ac 14 [] (sts [15,16,17] .fin) .non))) .nil) .nil)) (nd (nd (.node (.draw (sts [0,1,2,3,4,5,6,7,8,9,10,11,12,13,14] (.ac 15 [4,3,2] (.st 16 (.ac 17 [] .fin .non)) .non))) (.join [] (rg [11,11,62,100]) (nd (.node (nd (.loop [(11,oi)] (rg [11,11,68,100]) (nd (.node (.node (.node (.draw (sts [0,1,2,3,4,5,6,7,8,9] (.ac 10 [] (sts [11,12] .fin) .non))) .nil) (.draw (sts [0,1,2,3,4,5,6,7,8,9,10,11,12,13,14] (.ac 15 [4,3,2] (.st 16 (.ac 17 [] .fin .non)) .non)))) .nil)))) .nil)) (.join [(104,ob)] [101,102,103,104] .nil (.node (nd (.loop [(12,oi)] (rg [12,12,107,140]) (nd (.node (.node (.node (.draw (sts [0,1,2,3,4,5,6,7,8,9] (.ac 10 [] (sts [11,12] .fin) .non))) .nil) (.draw (sts [0,1,2,3,4,5,6,7,8,9,10,11,12,13,14] (.ac 15 [4,3,2] (.st 16 (.ac 17 [] .fin .non)) .non)))) .nil)))) .nil))))))) .nil)))) .nil))) (by kernel_rfl) (Nat.le_of_ble_eq_true (by kernel_rfl)) (Eq.mp (α:= @G7 El ins t0 t1 t2 t3 w R) (by kernel_rfl) h)
theorem k8(t0:Sl)(t1:Int)(t2:Int)(t3:Int)(t4:Nat×Array Value)(w:World)(R:RV)(h: @G8 El ins t0 t1 t2 t3 t4 w R):Cw 293 #[Value.slice t0.1 t0.2 t0.3,Value.int IntKind.i64 t1,Value.int IntKind.i64 t2,Value.int IntKind.i64 t3,Value.func (Fn.func t4.1) #[] t4.2] w R:=
 call_of tbOk mixed en293 Tryz.func293 rfl (nd (.node (.draw (sts [0,1,2,3,4,5,6,7,8,9,10,11,12] (.ac 13 [3,2] (.st 14 (.ac 15 [] .fin .non)) .non))) (nd (.node (.loop [(11,oi),(12,oi)] (rg [11,12,31,88]) (.join [(11,oi)] (rg [11,11,31,49]) (.loop [(11,oi)] (rg [11,11,31,49]) (.node (.node (.draw (sts [0,1,2,3,4,5,6,7,8,9,10,11,12] (.ac 13 [] (sts [14,15,16] .fin) .non))) .nil) .nil)) (.join [(12,oi)] (rg [12,12,50,67]) (.loop [(12,oi)] (rg [12,12,50,67]) (.node (.node (.draw (sts [0,1,2,3,4,5,6,7,8,9,10,11,12] (.ac 13 [] (sts [14,15] .fin) .non))) .nil) .nil)) (nd (.node (.draw (sts [0,1,2,3,4,5,6,7,8,9,10,11,12] (.ac 13 [3,2] (.st 14 (.ac 15 [] .fin .non)) .non))) .nil))))) .nil)))) (by kernel_rfl) (Nat.le_of_ble_eq_true (by kernel_rfl)) (Eq.mp (α:= @G8 El ins t0 t1 t2 t3 t4 w R) (by kernel_rfl) h)
theorem k9(t0:Sl)(t1:Int)(t2:Int)(t3:Int)(t4:Nat×Array Value)(w:World)(R:RV)(h: @G9 El ins t0 t1 t2 t3 t4 w R):Cw 294 #[Value.slice t0.1 t0.2 t0.3,Value.int IntKind.i64 t1,Value.int IntKind.i64 t2,Value.int IntKind.i64 t3,Value.func (Fn.func t4.1) #[] t4.2] w R:=
 call_of tbOk mixed en294 Tryz.func294 rfl (nd (.node (.draw (sts [0,1,2,3,4,5,6,7,8,9,10,11,12] (.ac 13 [3,2] (.st 14 (.ac 15 [] .fin .non)) .non))) (nd (.join [(12,oi)] (rg [12,12,32,49]) (.loop [(12,oi)] (rg [12,12,32,49]) (.node (.node (.draw (sts [0,1,2,3,4,5,6,7,8,9,10,11,12] (.ac 13 [] (sts [14,15] .fin) .non))) .nil) .nil)) (.join [(13,oi)] (rg [13,13,50,68]) (.loop [(13,oi)] (rg [13,13,50,68]) (.node (.node (.draw (sts [0,1,2,3,4,5,6,7,8,9,10,11,12] (.ac 13 [] (sts [14,15,16] .fin) .non))) .nil) .nil)) (.node (nd (.node (.node (.draw (sts [0,1,2,3,4,5,6,7,8,9,10,11,12] (.ac 13 [3,2] (.st 14 (.ac 15 [] .fin .non)) .non))) .nil) .nil)) (.node (.draw (sts [0,1,2,3,4,5,6,7,8,9,10,11,12] (.ac 13 [3,2] (.st 14 (.ac 15 [] .fin .non)) .non))) (nd (nd (.node (.loop [(12,oi),(13,oi)] (rg [12,13,105,162]) (.join [(12,oi)] (rg [12,12,105,122]) (.loop [(12,oi)] (rg [12,12,105,122]) (.node (.node (.draw (sts [0,1,2,3,4,5,6,7,8,9,10,11,12] (.ac 13 [] (sts [14,15] .fin) .non))) .nil) .nil)) (.join [(13,oi)] (rg [13,13,123,141]) (.loop [(13,oi)] (rg [13,13,123,141]) (.node (.node (.draw (sts [0,1,2,3,4,5,6,7,8,9,10,11,12] (.ac 13 [] (sts [14,15,16] .fin) .non))) .nil) .nil)) (nd (.node (.draw (sts [0,1,2,3,4,5,6,7,8,9,10,11,12] (.ac 13 [3,2] (.st 14 (.ac 15 [] .fin .non)) .non))) .nil))))) (.node (.draw (sts [0,1,2,3,4,5,6,7,8,9,10,11,12] (.ac 13 [3,2] (.st 14 (.ac 15 [] .fin .non)) .non))) .nil))))))))))) (by kernel_rfl) (Nat.le_of_ble_eq_true (by kernel_rfl)) (Eq.mp (α:= @G9 El ins t0 t1 t2 t3 t4 w R) (by kernel_rfl) h)
theorem k10(t0:Sl)(t1:Int)(t2:Int)(t3:Int)(t4:Nat×Array Value)(w:World)(R:RV)(h: @G10 El ins t0 t1 t2 t3 t4 w R):Cw 305 #[Value.slice t0.1 t0.2 t0.3,Value.int IntKind.i64 t1,Value.int IntKind.i64 t2,Value.int IntKind.i64 t3,Value.func (Fn.func t4.1) #[] t4.2] w R:=
 call_of tbOk mixed en305 Tryz.func305 rfl (nd (.loop [(10,oi)] (rg [10,11,13,81]) (nd (nd (.join [(11,oi)] (rg [11,11,19,42]) (.node (.draw (sts [0,1,2,3,4,5,6,7,8,9,10,11,12,13,14,15,16,17,18] (.ac 19 [] (sts [20,21] .fin) .non))) .nil) (.node (.node (.draw (sts [0,1,2,3,4,5,6,7,8,9,10,11,12] (.ac 13 [] (sts [14,15] .fin) .non))) .nil) (.node (.draw (sts [0,1,2,3,4,5,6,7,8,9,10,11,12,13,14,15,16,17,18,19,20] (.ac 21 [7,6,5,4] (.st 22 (.ac 23 [] .fin .non)) .non))) .nil))))))) (by kernel_rfl) (Nat.le_of_ble_eq_true (by kernel_rfl)) (Eq.mp (α:= @G10 El ins t0 t1 t2 t3 t4 w R) (by kernel_rfl) h)
theorem k11(t0:Sl)(t1:Int)(t2:Option Addr)(t3:Nat×Array Value)(w:World)(R:RV)(h: @G11 El ins t0 t1 t2 t3 w R):Cw 306 #[Value.slice t0.1 t0.2 t0.3,Value.int IntKind.i64 t1,Value.pointer t2,Value.func (Fn.func t3.1) #[] t3.2] w R:=
 call_of tbOk mixed en306 Tryz.func306 rfl .nil (by kernel_rfl) (Nat.le_of_ble_eq_true (by kernel_rfl)) (Eq.mp (α:= @G11 El ins t0 t1 t2 t3 w R) (by kernel_rfl) h)
theorem k12(t0:Sl)(t1:Int)(t2:Int)(t3:Int)(t4:Option Addr)(t5:Nat×Array Value)(w:World)(R:RV)(h: @G12 El ins t0 t1 t2 t3 t4 t5 w R):Cw 307 #[Value.slice t0.1 t0.2 t0.3,Value.int IntKind.i64 t1,Value.int IntKind.i64 t2,Value.int IntKind.i64 t3,Value.pointer t4,Value.func (Fn.func t5.1) #[] t5.2] w R:=
 call_of tbOk mixed en307 Tryz.func307 rfl .nil (by kernel_rfl) (Nat.le_of_ble_eq_true (by kernel_rfl)) (Eq.mp (α:= @G12 El ins t0 t1 t2 t3 t4 t5 w R) (by kernel_rfl) h)
theorem k13(t0:Sl)(t1:Int)(t2:Int)(t3:Option Addr)(t4:Nat×Array Value)(w:World)(R:RV)(h: @G13 El ins t0 t1 t2 t3 t4 w R):Cw 309 #[Value.slice t0.1 t0.2 t0.3,Value.int IntKind.i64 t1,Value.int IntKind.i64 t2,Value.pointer t3,Value.func (Fn.func t4.1) #[] t4.2] w R:=
 call_of tbOk mixed en309 Tryz.func309 rfl (nd (.node (.node (.draw (sts [0,1,2,3,4,5,6,7,8] (.ac 9 [] (.st 10 .fin) .non))) .nil) .nil)) (by kernel_rfl) (Nat.le_of_ble_eq_true (by kernel_rfl)) (Eq.mp (α:= @G13 El ins t0 t1 t2 t3 t4 w R) (by kernel_rfl) h)
theorem ok: @SrtOk El ins:= @SrtOk.mk El ins k0 k1 k2 k3 k4 k5 k6 k7 k8 k9 k10 k11 k12 k13
abbrev sv(x:El):List Value:=[.int .i64 x.1,.int .i64 x.2]
theorem ol: @SfG.SrtL El ins:= @SfG.SrtL.mk El ins (fun _=>rfl) (fun x=>by intro v hv;change v∈sv x at hv;simp at hv;rcases hv with rfl|rfl<;>rfl) (by decide)
def CmpP(cl:Nat×Array Value):Prop:=∀(x y:El)(W:World),Cw cl.1 { toList:=Value.agg (sv x).toArray::Value.agg (sv y).toArray::cl.2.toList } W fun v w'=>∃n:Int,v=iv n/\(n<0↔key x<key y)/\Ext W w'
theorem c233{cl:Nat×Array Value}(hcp:CmpP cl){w:World}{s:Sl}{xs:List El}(h:OwS w s 2 (xs.flatMap sv))(hl:xs.length<=1000000):
  Cw 233 #[slV s,.func (.func cl.1) #[] cl.2] w fun v w'=>v=.tuple #[]/\∃ys:List El,ys.Perm xs/\ys.Pairwise (fun x y=>key x<=key y)/\OwS w' s 2 (ys.flatMap sv)/\Ch (fun i=>i∈blk s) w w':=
 @SfG.q0 El ins ok ol cl (fun x y W _ _=>hcp x y W) w s xs h hl fun _ _=>trivial
end Go.Proofs.YtlpgdngcgbeegaaGreat.Gx.SfS
namespace Go.Proofs.YtlpgdngcgbeegaaGreat.Gx
open Go
set_option linter.unusedSimpArgs false
set_option linter.unusedVariables false
structure Kp(U:World->Nat->Prop)(n:Nat)(W W':World):Prop where
 at':∀i:Nat,n<=i->i<W.heap.size->¬U W i->W'.heap[i]? =W.heap[i]?
 own:∀i:Nat,U W' i->U W i\/W.heap.size<=i
theorem Kp.upd{U:World->Nat->Prop}{n l:Nat}{W A B:World}{o:Obj}(h:Kp U n W A)(hu:IsUpd A l o B)(hl:l<n)(hU:∀i,U B i->U A i):Kp U n W B:=
 ⟨fun i h1 h2 h3=>(hu.old i (by omega)).trans (h.at' i h1 h2 h3),fun i hi=>h.own i (hU i hi)⟩
def IterU{α:Type}(P:Program)(g:FuncId)(lb:Array Value)(enc:α->Array Value)(bnd:Bool)(Nxt:List α->α->Prop)(Fin:List α->Prop)(Inv:World->Prop):Prop:=
 Entr P g/\∀(l:Nat)(J Jx:List α->World->Prop)(U:World->Nat->Prop)(W:World),Abid W.heap.size J->Abid W.heap.size Jx->(∀pre W',J pre W'->Inv W')->(∀pre W',J pre W'->W.heap.size<=W'.heap.size)->
  (bnd=true->∃B,∀pre W',J pre W'->pre.length<=B)->
  (∀A B,Stb W.heap.size A B->∀i,U B i->U A i)->(∀pre W',J pre W'->∀i,U W' i->i<W'.heap.size)->
  (∀pre x W1,J pre W1->Nxt pre x->YW P l (enc x) W1 fun b W'=>match b with|true=>J (pre++[x]) W'/\Its W1 W'/\Kp U W.heap.size W1 W'|false=>Jx (pre++[x]) W')->J [] W->
  CW P g (#[.func (.yield l) #[] #[]]++lb) W fun _ W'=>(∃xs,Fin xs/\J xs W')\/(∃pre,Jx pre W')
section
variable {P:Program} {tb:Tab}
theorem range_noneU(hT:tb.Ok P)(hm:P.follows .mixedOrders=true){α:Type}{N:Nat}{an:An}{g:Operand}{ps:Array Tmp}{assign body:Code}{f:Fr}{ds:List Nat}{w:World}{Kn Kr:List Nat->World->Prop}{Kx:Nat->List Nat->World->Prop}
  {gf:FuncId}{lb:Array Value}(hg:ev f g=.func (.func gf) #[] lb){enc:α->Array Value}{bnd:Bool}{Nxt:List α->α->Prop}{Fin:List α->Prop}{Inv:World->Prop}(spec:IterU P gf lb enc bnd Nxt Fin Inv)
  (hok1:okC tb N assign .nil=true)(hok2:okC tb N body an=true)(hps:ps.toList.all (fun p=>Nat.blt p N)=true)(henc:∀x,(enc x).size=ps.size)
  (U:World->Nat->Prop)(hU:∀W W',Stb w.heap.size W W'->∀i,U W' i->U W i)(I:List α->World->Prop)(Ix:Code->List α->World->Prop)(hI:Abid w.heap.size I)(hIx:∀c,Abid w.heap.size (Ix c))(hInv:∀pre W,I pre W->Inv W)
  (hbnd:bnd=true->∃B,∀pre W,I pre W->pre.length<=B)(hU1:∀pre W,I pre W->∀i,U W i->i<W.heap.size)(h0:I [] w)
  (hbody:∀pre x W,I pre W->Nxt pre x->w.heap.size+1<W.heap.size->BodyP P tb N (w.heap.size+1) w.heap.size w.heap.size an ps assign body f (fun W'=>I (pre++[x]) W'/\Its W W'/\Kp U (w.heap.size+2) W W') (fun c=>Ix c (pre++[x])) (enc x).toList W)
  (hdone:∀xs W,Fin xs->I xs W->W.heap[w.heap.size]? =some (.deferred (some []))->Kn (w.heap.size::ds) W)
  (hstop:∀c pre W,Ix c pre W->W.heap[w.heap.size]? =some (.deferred (some []))->jumpQ Kr Kx (w.heap.size::ds) W c):
  RangeP P tb N none an g ps assign body f ds w Kn Kr Kx:=by
 intro a hR
 refine wpIn_rangeFunc ?_
 intro fn _
 obtain⟨rec,hrec⟩:∃rec:Loop,rec={ state:=.ready,pending:=none,fn,tmps:=a.tmps,params:=ps,assign,body,defers:=w.heap.size }:=⟨_,rfl⟩
 obtain⟨W1,hW1⟩:∃W1,(w.alloc (.deferred (some []))).alloc (.loop rec)=W1:=⟨_,rfl⟩
 have e1:IsAlloc w (.deferred (some [])) w.heap.size (w.alloc (.deferred (some []))):=isAlloc_push w _ w.drawn
 have e2:IsAlloc (w.alloc (.deferred (some []))) (.loop rec) (w.heap.size+1) W1:=by
  have:=isAlloc_push (w.alloc (.deferred (some []))) (.loop rec) (w.alloc (.deferred (some []))).drawn
  rw[e1.size] at this
  rw[<-hW1];exact this
 have hL1:W1.heap[w.heap.size+1]? =some (.loop rec):=e2.new
 have hK1:W1.heap[w.heap.size]? =some (.deferred (some [])):=by rw[e2.old _ (by rw[e1.size];omega)];exact e1.new
 have hS1:Stb w.heap.size w W1:=(Stb.alloc e1 (Nat.le_refl _)).trans (Stb.alloc e2 (by rw[e1.size];omega))
 have hsz1:W1.heap.size=w.heap.size+2:=by rw[e2.size,e1.size]
 have hev:a.eval g=.func (.func gf) #[] lb:=by rw[hR.eval];exact hg
 have hpsN:∀p∈ps.toList,p<N:=fun p hp=>by have:=List.all_eq_true.1 hps p hp;rw[Nat.blt_eq] at this;exact this
 refine⟨w.heap.size+1,[{ target:=.collected w.heap.size,args:=#[] }],W1,{ target:=.fn (.func gf) lb,args:=#[.func (.yield (w.heap.size+1)) #[] #[]] },W1,gf,
  #[.func (.yield (w.heap.size+1)) #[] #[]]++lb,W1,?_,?_,fun f' _=>trivial,?_,fz_depth none,?_⟩
 ·rw[<-hW1,hrec];exact run_enterLoop_outer _ _ _ _ _
 ·simp only[resolve]
  rw[hev]
  simp[Deferred.ofValue,Act.eval]
 ·simp only[invoke]
  exact spec.1 _ _
 ·refine fz_callsIn.2 ?_
  have hc:=spec.2 (w.heap.size+1)
   (fun pre W=>I pre W/\W.heap[w.heap.size+1]? =some (.loop rec)/\W.heap[w.heap.size]? =some (.deferred (some [])))
   (fun pre W=>∃c,Ix c pre W/\W.heap[w.heap.size+1]? =some (.loop { rec with state:=.done,pending:=some c })/\W.heap[w.heap.size]? =some (.deferred (some [])))
   U W1
   (fun s A B hs hS=>⟨hI s A B hs.1 (hS.mono (by omega)),(hS.low _ (by omega)).trans hs.2.1,(hS.low _ (by omega)).trans hs.2.2⟩)
   (fun s A B hs hS=>by obtain⟨c,hc,h1,h2⟩:=hs;exact⟨c,hIx c s A B hc (hS.mono (by omega)),(hS.low _ (by omega)).trans h1,(hS.low _ (by omega)).trans h2⟩)
   (fun pre W h=>hInv pre W h.1)
   (fun pre W h=>by have:w.heap.size+1<W.heap.size:=(Array.getElem?_eq_some_iff.1 h.2.1).1;omega)
   (fun hb=>by obtain⟨B,hB⟩:=hbnd hb;exact⟨B,fun pre W h=>hB pre W h.1⟩)
   (fun A B hS=>hU A B (hS.mono (by omega)))
   (fun pre W h=>hU1 pre W h.1)
   (fun pre x W h hx=>by
    have hlt:w.heap.size+1<W.heap.size:=(Array.getElem?_eq_some_iff.1 h.2.1).1
    refine(round_of hT hm (l:=w.heap.size+1) (D:=w.heap.size) (n₀:=w.heap.size) hR.size hR.val hpsN hok1 hok2 (henc x) (by omega) hrec h.2.1 hI hIx (E:=fun W'=>Its W W'/\Kp U (w.heap.size+2) W W') (fun A B o hE hu hl=>by obtain⟨rc,hl⟩:=hl;exact⟨hE.1.trans (Its.upd hu hl (by simp)),hE.2.upd hu (by omega) (hU _ _ (Stb.upd hu hl rfl (by omega)))⟩) (hbody pre x W h.1 hx hlt)).mono ?_
    rintro b W' ⟨hD,hb⟩
    cases b with
    | true=>exact⟨⟨hb.2.1,hb.1,(hD (by omega)).trans h.2.2⟩,hb.2.2.1,by rw[hsz1];exact hb.2.2.2⟩
    | false=>obtain⟨c,h1,h2⟩:=hb;exact⟨c,h2,h1,(hD (by omega)).trans h.2.2⟩)
   ⟨hI _ _ _ h0 hS1,hL1,hK1⟩
  refine hc.2.mono ?_
  rintro e W2 ⟨v,rfl,h⟩
  have hds:∀(a':Act),a'={ a with defers:=[{ target:=.collected w.heap.size,args:=#[] }]++a.defers }->Rel N a' f (w.heap.size::ds):=fun a' e=>by
   subst e
   exact⟨hR.size,hR.val,by rw[hR.defers];rfl⟩
  rcases h with ⟨xs,hF,hi,hl,hk⟩|⟨pre,c,hi,hl,hk⟩
  ·obtain⟨w4,o4,hr4,hu⟩:∃w4 o4,(Instr.endLoop (w.heap.size+1)).run P W2=.ok rec.pending w4/\IsUpd W2 (w.heap.size+1) o4 w4:=
    ⟨_,_,run_endLoop (P:=P) hl (by rw[hrec];simp),isUpd_putObj hl _⟩
   have hp:rec.pending=none:=by rw[hrec]
   rw[hp] at hr4
   refine⟨none,w4,hr4,?_⟩
   exact⟨f,w.heap.size::ds,hds _ rfl,rfl,hdone xs _ hF (hI _ _ _ hi (Stb.upd hu hl rfl (by omega))) ((hu.old _ (by omega)).trans hk)⟩
  ·have hu:=isUpd_putObj hl (.loop { rec with state:=.exhausted,pending:=some c })
   refine⟨some c,_,by have:=run_endLoop (P:=P) hl (by simp);exact this,?_⟩
   have hj:=hstop c pre _ (hIx c _ _ _ hi (Stb.upd hu hl rfl (by omega))) ((hu.old _ (by omega)).trans hk)
   unfold jumpQ at hj
   split at hj
   ·exact wpIn_ret ⟨f,w.heap.size::ds,hds _ rfl,rfl,hj⟩
   ·exact wpIn_exit ⟨f,w.heap.size::ds,hds _ rfl,rfl,hj⟩
   ·exact hj.elim
end
abbrev Spn:=Int×Int
abbrev sv(x:Spn):List Value:=[.int .i64 x.1,.int .i64 x.2]
theorem sv_len(x:Spn):(sv x).length=2:=rfl
theorem sv_one(x:Spn):One (sv x):=by intro v hv;simp at hv;rcases hv with rfl|rfl<;>rfl
abbrev spV(x:Spn):Value:=.agg #[.int .i64 x.1,.int .i64 x.2]
theorem boxCells{w:World}{vs:List Value}{n:Nat}{z:Array Value}{T:TypeId}(hn:vs.length=n)(h1:One vs)(hz:z.size=n){K:Nat->World->Prop}(hK:∀b w',w.heap.size=b->w'.heap.size=b+1->w'.heap[b]? =some (.cells vs.toArray T (0,0))->Ext w w'->(∀n,n<=w.heap.size->Stb n w w')->K b w'):
  AllocP w (.cells z T) fun b w2=>vs.toArray.size=n/\StoreP w2 b 0 vs (K b):=by
 intro b w2 h2
 refine⟨by simpa using hn,store_all (vs:=vs) h2.new (by rw[hz,hn]) h1 fun w3 h3=>hK b w3 h2.here.symm ?_ h3.new (Ext.fresh h2 h3) fun n hn=>Stb.fresh h2 h3 hn⟩
 have:=h2.here;have:=h2.size;have:=h3.size;omega
theorem boxSp{w:World}{x:Spn}{z:Array Value}{T:TypeId}(hz:z.size=2){K:Nat->World->Prop}(hK:∀b w',w.heap.size=b->w'.heap.size=b+1->w'.heap[b]? =some (.cells #[.int .i64 x.1,.int .i64 x.2] T (0,0))->Ext w w'->(∀n,n<=w.heap.size->Stb n w w')->K b w'):
  AllocP w (.cells z T) fun b w2=>#[Value.int .i64 x.1,Value.int .i64 x.2].size=2/\StoreP w2 b 0 [.int .i64 x.1,.int .i64 x.2] (K b):=
 boxCells (vs:=sv x) rfl (sv_one x) hz hK
def mayS(x:Spn):Prop:=0<=x.1/\x.1<=x.2/\x.2<=999
instance(x:Spn):Decidable (mayS x):=inferInstanceAs (Decidable (_/\_))
def hasS(l:List Spn)(k:Int):Prop:=∃x∈l,mayS x/\x.1<=k/\k<=x.2
instance(l:List Spn)(k:Int):Decidable (hasS l k):=inferInstanceAs (Decidable (∃x∈l,_))
theorem c158(x y:Int)(w:World):Cw 158 #[.int .i64 x,.int .i64 y] w fun v w'=>∃n:Int,v=iv n/\(n<0↔x<y)/\w=w':=by
 refine F158_ok _ _ _ _ ((c214 x w).use ?_)
 rintro _ _ ⟨rfl,rfl⟩
 refine⟨false,rfl,(c214 y w).use ?_⟩
 rintro _ _ ⟨rfl,rfl⟩
 refine⟨false,rfl,IfB.no rfl (IfB.no rfl (IfB.dec (fun h=>⟨_,rfl,by simp;omega,rfl⟩) fun h=>IfB.dec (fun h'=>⟨_,rfl,by simp;omega,rfl⟩) fun h'=>⟨_,rfl,by simp;omega,rfl⟩))⟩
theorem c201(x:Spn)(w:World):Cw 201 #[spV x] w fun v w'=>v=.bool (decide (mayS x))/\Ext w w':=by
 refine F201_ok x w _ fun b w2 h2=>?_
 have p0:w2.cell? ⟨b,0+0,none⟩=some (.int .i64 x.1):=by rw[cell_of h2.new];rfl
 have p1:w2.cell? ⟨b,0+1,none⟩=some (.int .i64 x.2):=by rw[cell_of h2.new];rfl
 have e:Ext w w2:=h2.ch _
 refine⟨_,p0,IfB.dec (fun h0=>⟨_,p0,_,p1,IfB.dec (fun h1=>⟨_,p1,?_,e⟩) fun h1=>⟨?_,e⟩⟩) fun h0=>⟨?_,e⟩⟩
 ·have:(x.2<=999)↔mayS x:=by unfold mayS;omega
  rw[decide_eq_decide.2 this]
 ·have:¬mayS x:=by unfold mayS;omega
  simp[this]
 ·have:¬mayS x:=by unfold mayS;omega
  simp[this]
theorem c232(x:Spn)(w:World):Cw 232 #[spV x] w fun v w'=>v=.bool (!decide (mayS x))/\Ext w w':=by
 refine F232_ok x w _ fun b w2 h2=>⟨x,cellsAt_of h2.new fun i v hv=>by simpa using hv,(c201 x w2).use ?_⟩
 rintro _ w3 ⟨rfl,e3⟩
 exact⟨_,rfl,rfl,(h2.ch _).trans e3⟩
theorem c234:SfS.CmpP (234,#[]):=by
 intro x y w
 refine F234_ok x y w _ fun b1 w2 h2 b3 w4 h4=>?_
 refine⟨x.1,by rw[cell_of (h4.at h2.new)];rfl,y.1,by rw[cell_of h4.new];rfl,(c158 _ _ w4).use ?_⟩
 rintro _ _ ⟨n,rfl,hn,rfl⟩
 exact⟨n,rfl,n,rfl,hn,(h2.ch _).trans (h4.ch _)⟩
theorem c241{w:World}{t:Sl}{xs:List Spn}{t1:Nat×Array Value}{q:Spn->Bool}(h:Rd w t 2 (xs.flatMap sv))(hl:xs.length<=1000000)
  (hq:∀(x:Spn)(W:World),x∈xs->Ext w W->∀R':RV,(∀w',Ext W w'->R' (.bool (q x)) w')->Cx t1.1 { toList:=spV x::t1.2.toList } W R'):
  Cw 241 #[slV t,.func (.func t1.1) #[] t1.2] w fun v w'=>v=iv (idxV (xs.findIdx? q))/\Ext w w':=by
 refine F241_ok t t1 w _ ?_
 have hn:=rdN sv_len (by omega) h
 have e:F241 t t1 w (fun v w'=>v=iv (idxV (xs.findIdx? q))/\Ext w w')=IndexF Tryz.prog (fun W b o i (x:Spn)=>CellsAt W b (o+i*2) [.int .i64 x.1,.int .i64 x.2]) spV t t1 w (fun v w'=>v=iv (idxV (xs.findIdx? q))/\Ext w w'):=rfl
 rw[e]
 refine IndexF_of xs id q hn (by omega) (fun i x W hx e=>?_) (fun i x W hx e R' hR=>hq x W (List.mem_of_getElem? hx) e R' hR) fun w' e=>⟨rfl,e⟩
 obtain⟨hi,_⟩:=List.getElem?_eq_some_iff.1 hx
 obtain⟨b,o,hp,hc⟩:=(h.ext e).elem (i:=i) (by omega) (by omega) (flatGet sv_len hx)
 exact⟨b,o,hp,hc⟩
theorem c230{w:World}{t0:Sl}{xs:List Spn}{t1:Nat×Array Value}{q:Spn->Bool}(ho:OwS w t0 2 (xs.flatMap sv))(hn:xs.length<=1000000)
  (hq:∀(x:Spn)(W:World),x∈xs->Ch (fun i=>i∈blk t0) w W->∀R':RV,(∀w',Ext W w'->R' (.bool (q x)) w')->Cx t1.1 { toList:=spV x::t1.2.toList } W R'):
  Cw 230 #[slV t0,.func (.func t1.1) #[] t1.2] w fun v w'=>∃t',v=slV t'/\OwS w' t' 2 ((xs.filter fun x=> !q x).flatMap sv)/\t'.p=t0.p/\Ch (fun i=>i∈blk t0) w w':=by
 have htn:=owsN sv_len (by omega) ho
 have hl:=sv_len
 refine F230_ok t0 t1 w _ ((c241 ho.rd hn fun x W hx e=>hq x W hx (e.mono fun _ _ h=>h.elim)).use ?_)
 rintro _ w2 ⟨rfl,e2⟩
 refine⟨_,rfl,?_⟩
 cases hf:xs.findIdx? q with
 | none=>
  refine IfB.yes rfl ?_
  have:(xs.filter fun x=> !q x)=xs:=List.filter_eq_self.2 fun x hx=>by rw[List.findIdx?_eq_none_iff.1 hf x hx];rfl
  exact⟨t0,rfl,by rw[this];exact ho.ext e2,rfl,e2.mono fun _ _ h=>h.elim⟩
 | some i0=>
  obtain⟨hi0,hqi,hlow⟩:=List.findIdx?_eq_some_iff_getElem.1 hf
  refine IfB.no (by simp[idxV]) ?_
  have hx0:xs[i0]? =some xs[i0]:=List.getElem?_eq_getElem hi0
  have hkeep0:(xs.take i0).filter (fun x=> !q x)=xs.take i0:=List.filter_eq_self.2 fun x hx=>by
   obtain⟨j,hj,rfl⟩:=List.getElem_of_mem hx
   rw[List.length_take] at hj
   rw[List.getElem_take]
   have:=hlow j (by omega)
   simpa using this
  have hkeep1:(xs.take (i0+1)).filter (fun x=> !q x)=xs.take i0:=by rw[takeFilter hx0,hkeep0,hqi];simp
  refine⟨fun n x W=>∃(j:Nat)(gs:List Spn),gs≠[]/\n+j=xs.length/\((xs.take j).filter fun x=> !q x).length+gs.length=j/\j<=xs.length/\x=((((xs.take j).filter fun x=> !q x).length:Int),(j:Int))/\OwS W t0 2 ((((xs.take j).filter fun x=> !q x)++gs++xs.drop j).flatMap sv)/\Ch (fun i=>i∈blk t0) w W,
   ⟨xs.length-(i0+1),i0+1,[xs[i0]],by simp,by omega,by rw[hkeep1,List.length_take];simp;omega,by omega,?_,?_,e2.mono fun _ _ h=>h.elim⟩,?_⟩
  ·rw[hkeep1,List.length_take,Nat.min_eq_left (by omega)]
   show ((i0:Int),IntKind.i64.wrap ((i0:Int)+1))=_
   rw[wrap_of (by omega) (by omega)];rfl
  ·rw[hkeep1]
   have:xs.take i0++[xs[i0]]++xs.drop (i0+1)=xs:=by
    rw[List.append_assoc,List.singleton_append,<-List.drop_eq_getElem_cons hi0,List.take_append_drop]
   rw[this]
   exact ho.ext e2
  ·rintro n _ W g ⟨j,gs,hgs,hnj,hlen,hj,rfl,hO,hC⟩
   generalize hkd:(xs.take j).filter (fun x=> !q x)=kd at hlen hO
   have hg0:0<gs.length:=List.length_pos_iff.2 hgs
   have hcap:=ho.cap
   obtain⟨b,hp⟩:=ho.ptr (by omega)
   have hbl:b<w.heap.size:=ho.lt b (by simp[blk,hp])
   unfold F230j1
   refine IfB.dec (fun hlt=>?_) fun hge=>?_
   ·have hj':j<xs.length:=by dsimp only at hlt;omega
    have hx:xs[j]? =some xs[j]:=List.getElem?_eq_getElem hj'
    have hxm:=List.mem_of_getElem? hx
    have htf:=takeFilter (p:=fun x=> !q x) hx
    rw[hkd] at htf
    have hdrop:xs.drop j=xs[j]::xs.drop (j+1):=List.drop_eq_getElem_cons hj'
    generalize xs[j]=x at hx hxm htf hdrop
    have hLx:(kd++gs++xs.drop j)[j]? =some x:=by
     rw[List.getElem?_append_right (by rw[List.length_append];omega),List.length_append,show j-(kd.length+gs.length)=0 by omega,hdrop];rfl
    obtain⟨b',hp',hc⟩:=hO.elem (i:=j) (by omega) (flatGet hl hLx)
    rw[hp] at hp';cases hp'
    refine⟨b,0,hp,⟨by dsimp only;omega,hlt⟩,x,?_,boxSp rfl fun b14 w16 hb14 hs16 h16 e16 _=>⟨x,cellsAt_of h16 fun i v hv=>by simpa using hv,hq x w16 hxm (hC.then e16 fun _ _ h=>h.elim) _ fun w19 e19=>⟨q x,rfl,?_⟩⟩⟩
    ·dsimp only
     rw[Int.toNat_natCast,Nat.zero_add]
     exact hc
    ·have e15:Ext W w19:=e16.trans e19
     have h19:=e19.at h16
     have hO15:=hO.ext e15
     have hC15:=hC.then e15 fun _ _ h=>h.elim
     refine IfB.intro (fun hk=>?_) fun hk=>?_
     ·have hqx:q x=false:=by simpa using hk
      rw[hqx] at htf
      simp only[Bool.not_false,if_true] at htf
      refine⟨x,cellsAt_of h19 fun i v hv=>by simpa using hv,b,0,hp,⟨by dsimp only;omega,by show (kd.length:Int)<(t0.n:Int);omega⟩,rfl,?_⟩
      dsimp only
      rw[Int.toNat_natCast,Nat.zero_add]
      have hLl:(kd++gs++xs.drop j).length=xs.length:=by rw[List.length_append,List.length_append,List.length_drop];omega
      refine hO15.store (vs:=sv x) hp (by rw[hl];omega) (sv_one x) fun w19 hO19 hC19=>⟨rfl,n-1,by omega,j+1,gs.tail++[x],by simp,by omega,?_,by omega,?_,?_,hC15.then hC19 fun i _ e=>by simp[blk,hp,e]⟩
      ·rw[htf];simp;omega
      ·rw[htf,wrap_of (by omega) (by omega),wrap_of (by omega) (by omega)];simp
      ·rw[hl,flatSet hl (by omega)] at hO19
       rw[htf]
       have:(kd++gs++xs.drop j).set kd.length x=kd++[x]++(gs.tail++[x])++xs.drop (j+1):=by
        rw[hdrop]
        cases gs with
        | nil=>exact absurd rfl hgs
        | cons g0 gs=>simp
       rw[<-this];exact hO19
     ·have hqx:q x=true:=by simpa using hk
      rw[hqx] at htf
      simp only[Bool.not_true,Bool.false_eq_true,if_false,List.append_nil] at htf
      refine⟨rfl,n-1,by omega,j+1,gs++[x],by simp,by omega,by rw[htf];simp;omega,by omega,?_,?_,hC15⟩
      ·rw[htf];dsimp only;rw[wrap_of (by omega) (by omega)];rfl
      ·rw[htf]
       rw[hdrop] at hO15
       simpa using hO15
   ·have hjn:j=xs.length:=by dsimp only at hge;omega
    subst hjn
    rw[List.take_length] at hkd
    rw[List.drop_length,List.append_nil] at hO
    have hkl:kd.length<t0.n:=by omega
    refine⟨⟨by dsimp only;omega,by show (kd.length:Int)<=(t0.n:Int);omega⟩,?_⟩
    dsimp only
    rw[Int.toNat_natCast,hp,slAddr_some]
    have hcut:=hO.cut (k:=kd.length) (by omega)
    rw[flatTake hl,List.take_append_of_le_length (Nat.le_refl _),List.take_length] at hcut
    dsimp only
    rw[if_neg (by omega),Nat.zero_add]
    refine hcut.storeTail hp (Nat.le_refl _) (by rw[zc_len];show kd.length*2+(t0.n-kd.length)*2<=t0.c*2;omega) (zc_one (by intro y hy;simp at hy;rcases hy with rfl|rfl<;>rfl) _) fun w25 hO25 hC25=>⟨⟨by omega,by omega⟩,⟨t0.p,kd.length,t0.c⟩,?_,by rw[hkd];exact hO25,hp,hC.then hC25 fun i _ e=>by simp[blk,hp,e]⟩
    rw[<-hp,slAddr_zero]
theorem F268_eq(t0:Sl)(t1:Int)(w:World)(R:RV):F268 t0 t1 w R=GrowF tt101 101 2 t0 t1 w R:=by kernel_rfl
theorem c268{k:Nat}(hk:k<=1000000)(w:World):Cw 268 #[.slice none 0 0,.int .i64 k] w fun v w'=>∃t',v=slV t'/\OwS w' t' 2 []/\t'.n=0/\Ext w w'/\∀j∈blk t',w.heap.size<=j:=by
 refine F268_ok ⟨none,0,0⟩ k w _ ?_
 rw[F268_eq]
 refine GrowF_nil rfl rfl (by intro y hy;simp[Value.cells] at hy;rcases hy with rfl|rfl<;>rfl) ⟨by omega,by dsimp only;omega⟩ (by decide) (by omega) ?_
 intro s' w' ho hn he hb
 exact⟨s',rfl,ho,hn,he,hb⟩
abbrev SpL:=Sl×List Spn
abbrev hS(x:SpL):Value:=slV x.1
def sumS(xs:List SpL):Nat:=(xs.flatMap (·.2)).length
theorem sumS_take{xs:List SpL}{i:Nat}{x:SpL}(h:xs[i]? =some x):sumS (xs.take (i+1))=sumS (xs.take i)+x.2.length:=by
 unfold sumS;rw[take_succ_get h];simp
theorem sumS_le(xs:List SpL)(i:Nat):sumS (xs.take i)<=sumS xs:=by
 unfold sumS
 conv=>rhs;rw[<-List.take_append_drop i xs]
 rw[List.flatMap_append,List.length_append];omega
theorem c231{w:World}{t:Sl}{xs:List SpL}(h:Rd w t 1 (xs.map hS))(hx:∀x∈xs,Rd w x.1 2 (x.2.flatMap sv))(hl:sumS xs<=1000000)(hn:xs.length<=1000):
  Cw 231 #[slV t] w fun v w'=>∃t',v=slV t'/\OwS w' t' 2 ((xs.flatMap (·.2)).flatMap sv)/\Ext w w'/\∀j∈blk t',w.heap.size<=j:=by
 have htn:t.n=xs.length:=by rw[h.len1,List.length_map]
 have elem:∀(i:Nat)(w5:World),Ext w w5->i<xs.length->∃x a o,xs[i]? =some x/\t.p=some ⟨a,o,none⟩/\w5.cell? ⟨a,o+i,none⟩=some (slV x.1)/\Rd w5 x.1 2 (x.2.flatMap sv)/\x.1.n=x.2.length:=by
  intro i w5 e hi
  have hxi:xs[i]? =some xs[i]:=List.getElem?_eq_getElem hi
  obtain⟨a,o,ha,hc⟩:=(h.ext e).elem1 (i:=i) (v:=hS xs[i]) (by rw[List.getElem?_map,hxi];rfl)
  have ho:=(hx xs[i] (List.getElem_mem hi)).ext e
  exact⟨xs[i],a,o,hxi,ha,hc,ho,rdN sv_len (by omega) ho⟩
 refine F231_ok t w _ ?_
 refine⟨fun n x w5=>∃i:Nat,i<=xs.length/\n+i=xs.length/\x=((sumS (xs.take i):Int),(i:Int))/\w5=w,⟨xs.length,0,Nat.zero_le _,rfl,rfl,rfl⟩,?_⟩
 rintro n x w5 g ⟨i,hi,hni,rfl,rfl⟩
 unfold F231j1
 refine IfB.dec (fun hlt=>?_) (fun hge=>?_)
 ·have hi':i<xs.length:=by
   have:(i:Int)<(t.n:Int):=hlt
   omega
  obtain⟨y,a,o,hy,ha,hc,ho,hyn⟩:=elem i w5 (Ch.refl _ _) hi'
  have h1:=sumS_take hy
  have h2:=sumS_le xs (i+1)
  have e1:IntKind.i64.wrap ((sumS (xs.take i):Int)+(y.1.n:Int))=(sumS (xs.take (i+1)):Int):=by rw[wrap_of (by omega) (by omega)];omega
  refine⟨a,o,ha,(⟨by omega,by omega⟩:(0:Int)<=(i:Int)/\(i:Int)<(t.n:Int)),y.1,by rw[Int.toNat_natCast];exact hc,?_⟩
  dsimp only
  rw[e1]
  refine IfB.no (by simp) ⟨rfl,n-1,by omega,i+1,hi',by omega,?_,rfl⟩
  rw[wrap_of (by omega) (by omega)];rfl
 ·have hi':i=xs.length:=by
   have:¬(i:Int)<(t.n:Int):=hge
   omega
  subst hi'
  have hT:sumS (xs.take xs.length)=sumS xs:=by rw[List.take_length]
  dsimp only
  rw[hT]
  refine(c268 hl w5).use ?_
  rintro _ w13 ⟨t1,rfl,ho1,hn1,e13,hb1⟩
  refine⟨t1,rfl,fun n x w19=>∃i t2,i<=xs.length/\n+i=xs.length/\x=(t2,(i:Int))/\OwS w19 t2 2 (((xs.take i).flatMap (·.2)).flatMap sv)/\Ext w5 w19/\∀j∈blk t2,w5.heap.size<=j,⟨xs.length,0,t1,Nat.zero_le _,rfl,rfl,ho1,e13,hb1⟩,?_⟩
  rintro n x w19 g ⟨i,t2,hi,hni,rfl,ho2,e19,hb2⟩
  unfold F231j2
  refine IfB.dec (fun hlt=>?_) (fun hge=>?_)
  ·have hi':i<xs.length:=by
    have:(i:Int)<(t.n:Int):=hlt
    omega
   obtain⟨y,a,o,hy,ha,hc,ho,hyn⟩:=elem i w19 e19 hi'
   have h1:=sumS_take hy
   have h2:=sumS_le xs (i+1)
   have ht2:t2.n=sumS (xs.take i):=owsN sv_len (by omega) ho2
   refine⟨a,o,ha,(⟨by omega,by omega⟩:(0:Int)<=(i:Int)/\(i:Int)<(t.n:Int)),y.1,by rw[Int.toNat_natCast];exact hc,y.2.flatMap sv,ho.2,?_⟩
   refine ho2.append (cnt:=y.1.n) rfl rfl ho.1 (flatOne sv_one _) ⟨by omega,by dsimp only;omega⟩ ?_
   intro s' w' ho' hn' hc' hb' _
   refine⟨rfl,n-1,by omega,i+1,s',hi',by omega,?_,?_,?_,?_⟩
   ·rw[wrap_of (by dsimp only;omega) (by dsimp only;omega)];rfl
   ·rw[take_succ_get hy,List.flatMap_append,List.flatMap_append]
    simpa using ho'
   ·exact e19.then hc' fun j hj hjb=>by have:=hb2 j hjb;omega
   ·intro j hj
    rcases hb' j hj with h|h
    ·exact hb2 j h
    ·have:=e19.size;omega
  ·have hi':i=xs.length:=by
    have:¬(i:Int)<(t.n:Int):=hge
    omega
   subst hi'
   rw[List.take_length] at ho2
   exact⟨t2,rfl,ho2,e19,hb2⟩
def NormS(l:List Spn):Prop:=l.Pairwise (fun a b=>a.2+1<b.1)/\∀x∈l,mayS x
structure PlI(os ds:List Spn):Prop where
 norm:NormS os
 has:∀k,hasS os k↔hasS ds k
 lo:∀y∈os,∃d∈ds,y.1=d.1
 len:os.length<=ds.length
theorem PlI.nil:PlI [] []:=⟨⟨.nil,by simp⟩,fun k=>Iff.rfl,by simp,Nat.le_refl _⟩
theorem hasS_append(a b:List Spn)(k:Int):hasS (a++b) k↔hasS a k\/hasS b k:=by
 unfold hasS
 constructor
 ·rintro⟨x,hx,h⟩
  rcases List.mem_append.1 hx with hx|hx
  ·exact .inl ⟨x,hx,h⟩
  ·exact .inr ⟨x,hx,h⟩
 ·rintro(⟨x,hx,h⟩|⟨x,hx,h⟩)
  ·exact⟨x,List.mem_append.2 (.inl hx),h⟩
  ·exact⟨x,List.mem_append.2 (.inr hx),h⟩
theorem hasS_one(s:Spn)(k:Int):hasS [s] k↔mayS s/\s.1<=k/\k<=s.2:=by simp[hasS]
theorem PlI.add{os ds:List Spn}{s:Spn}(h:PlI os ds)(hs:mayS s)(hb:∀y∈os,y.2+1<s.1):PlI (os++[s]) (ds++[s]):=by
 refine⟨⟨List.pairwise_append.2 ⟨h.norm.1,by simp,fun a ha b hb'=>?_⟩,fun x hx=>?_⟩,fun k=>?_,fun y hy=>?_,?_⟩
 ·rw[List.mem_singleton.1 hb'];exact hb a ha
 ·rcases List.mem_append.1 hx with hx|hx
  ·exact h.norm.2 x hx
  ·rw[List.mem_singleton.1 hx];exact hs
 ·rw[hasS_append,hasS_append,h.has]
 ·rcases List.mem_append.1 hy with hy|hy
  ·obtain⟨d,hd,e⟩:=h.lo y hy
   exact⟨d,List.mem_append.2 (.inl hd),e⟩
  ·exact⟨y,List.mem_append.2 (.inr hy),rfl⟩
 ·have:=h.len;simp;omega
theorem PlI.grow{pre ds:List Spn}{l s:Spn}{m:Int}(h:PlI (pre++[l]) ds)(hs:mayS s)(hd:∀d∈ds,d.1<=s.1)(hb:s.1<=l.2+1)(hm:m=if l.2<s.2 then s.2 else l.2):PlI (pre++[(l.1,m)]) (ds++[s]):=by
 obtain⟨d0,hd0,e0⟩:=h.lo l (by simp)
 have hls:l.1<=s.1:=by rw[e0];exact hd d0 hd0
 have hml:=h.norm.2 l (by simp)
 obtain⟨p1,_,p3⟩:=List.pairwise_append.1 h.norm.1
 have hm1:l.2<=m:=by subst hm;split<;>omega
 have hm2:s.2<=m:=by subst hm;split<;>omega
 have hm3:m=s.2\/m=l.2:=by subst hm;split<;>simp
 have hmm:mayS (l.1,m):=by unfold mayS at*;dsimp only;omega
 refine⟨⟨List.pairwise_append.2 ⟨p1,by simp,fun a ha b hb'=>?_⟩,fun x hx=>?_⟩,fun k=>?_,fun y hy=>?_,?_⟩
 ·rw[List.mem_singleton.1 hb'];exact p3 a ha l (by simp)
 ·rcases List.mem_append.1 hx with hx|hx
  ·exact h.norm.2 x (by simp[hx])
  ·rw[List.mem_singleton.1 hx];exact hmm
 ·rw[hasS_append,hasS_append,<-h.has,hasS_append,hasS_one,hasS_one,hasS_one,or_assoc]
  refine or_congr Iff.rfl ?_
  unfold mayS at*
  dsimp only at*
  omega
 ·rcases List.mem_append.1 hy with hy|hy
  ·obtain⟨d,hd,e⟩:=h.lo y (by simp[hy])
   exact⟨d,List.mem_append.2 (.inl hd),e⟩
  ·rw[List.mem_singleton.1 hy]
   exact⟨d0,List.mem_append.2 (.inl hd0),e0⟩
 ·have:=h.len;simp at this ⊢;omega
theorem hasS_filter(xs:List Spn)(k:Int):hasS (xs.filter fun x=> !!decide (mayS x)) k↔hasS xs k:=by
 unfold hasS
 constructor
 ·rintro⟨x,hx,h⟩;exact⟨x,(List.mem_filter.1 hx).1,h⟩
 ·rintro⟨x,hx,h⟩;exact⟨x,List.mem_filter.2 ⟨hx,by simp[h.1]⟩,h⟩
theorem hasS_perm{xs ys:List Spn}(h:xs.Perm ys)(k:Int):hasS xs k↔hasS ys k:=by
 unfold hasS
 exact⟨fun⟨x,hx,r⟩=>⟨x,h.mem_iff.1 hx,r⟩,fun⟨x,hx,r⟩=>⟨x,h.mem_iff.2 hx,r⟩⟩
theorem last_split{os:List Spn}(h:0<os.length):∃pre l,os=pre++[l]:=by
 have hne:os≠[]:=List.length_pos_iff.1 h
 exact⟨os.dropLast,os.getLast hne,(List.dropLast_concat_getLast hne).symm⟩
theorem c189{w:World}{t:Sl}{xs:List SpL}(h:Rd w t 1 (xs.map hS))(hx:∀x∈xs,Rd w x.1 2 (x.2.flatMap sv))(hl:sumS xs<=1000000)(hn:xs.length<=1000):
  Cw 189 #[slV t] w fun v w'=>∃t' os,v=slV t'/\NormS os/\(∀k,hasS os k↔hasS (xs.flatMap (·.2)) k)/\OwS w' t' 2 (os.flatMap sv)/\os.length<=sumS xs/\Ext w w'/\∀j∈blk t',w.heap.size<=j:=by
 refine F189_ok t w _ ((c231 h hx hl hn).use ?_)
 rintro _ w2 ⟨s3,rfl,ho3,e2,hb3⟩
 obtain⟨all,hall⟩:∃all,all=xs.flatMap (·.2):=⟨_,rfl⟩
 have hal:all.length=sumS xs:=by rw[hall];rfl
 rw[<-hall] at ho3 ⊢
 refine⟨s3,rfl,(c230 (t1:=(232,#[])) (q:=fun x=> !decide (mayS x)) ho3 (by omega) fun x W hx hC R' hR=>(c232 x W).use fun v w' ⟨hv,e⟩=>hv ▸ hR w' e).use ?_⟩
 rintro _ w5 ⟨s6,rfl,ho6,hp6,hC5⟩
 have hb6:blk s6=blk s3:=by simp[blk,hp6]
 have e5:Ext w w5:=e2.then hC5 fun i hi h=>by have:=hb3 i h;omega
 have hfl:=List.length_filter_le (fun x:Spn=> !!decide (mayS x)) all
 refine⟨s6,rfl,(SfS.c233 c234 ho6 (by omega)).use ?_⟩
 rintro _ w8 ⟨rfl,zs,hperm,hsort,ho8,hC8⟩
 have e8:Ext w w8:=e5.then hC8 fun i hi h=>by rw[hb6] at h;have:=hb3 i h;omega
 have hzl:zs.length<=sumS xs:=by have:=hperm.length_eq;omega
 have hzm:∀x∈zs,mayS x:=fun x hx=>by
  have:=(List.mem_filter.1 (hperm.mem_iff.1 hx)).2
  simpa using this
 have hzk:∀k,hasS zs k↔hasS all k:=fun k=>(hasS_perm hperm k).trans (hasS_filter all k)
 have hzn:=owsN sv_len (by omega) ho8
 have hzs:∀i(hi:i<zs.length),∀d∈zs.take i,d.1<=zs[i].1:=fun i hi d hd=>by
  obtain⟨j,hj,rfl⟩:=List.getElem_of_mem hd
  rw[List.length_take] at hj
  rw[List.getElem_take]
  exact List.pairwise_iff_getElem.1 hsort j i (by omega) hi (by omega)
 have hR8:=ho8.rd
 refine⟨(),rfl,fun n x W=>∃(i:Nat)(so:Sl)(os:List Spn),i<=zs.length/\n+i=zs.length/\x=(so,(i:Int))/\PlI os (zs.take i)/\OwS W so 2 (os.flatMap sv)/\Ext w8 W/\∀j∈blk so,w8.heap.size<=j,
  ⟨zs.length,0,⟨none,0,0⟩,[],Nat.zero_le _,rfl,rfl,.nil,.nil _ _,Ch.refl _ _,by simp[blk]⟩,?_⟩
 rintro n _ W g ⟨i,so,os,hi,hni,rfl,hI,ho,hE,hbo⟩
 have hon:=owsN sv_len (by omega) ho
 have hol:=hI.len
 rw[List.length_take] at hol
 unfold F189j1
 refine IfB.dec (fun hlt=>?_) fun hge=>?_
 ·have hi':i<zs.length:=by
   have:(i:Int)<(s6.n:Int):=hlt
   omega
  have hz:zs[i]? =some zs[i]:=List.getElem?_eq_getElem hi'
  have hms:=hzm _ (List.getElem_mem hi')
  have hds:=hzs i hi'
  generalize zs[i]=s at hz hms hds
  obtain⟨a,o,hp,hc⟩:=(hR8.ext hE).elem (i:=i) (by omega) (by omega) (flatGet sv_len hz)
  have htk:=take_succ_get hz
  refine⟨a,o,hp,(⟨by omega,by omega⟩:(0:Int)<=(i:Int)/\(i:Int)<(s6.n:Int)),s,by rw[Int.toNat_natCast];exact hc,boxSp rfl fun b20 w22 hb20 hs22 h22 e22 _=>?_⟩
  have ho22:=ho.ext e22
  have hi1:IntKind.i64.wrap ((i:Int)+1)=((i+1:Nat):Int):=by rw[wrap_of (by omega) (by omega)];rfl
  have app:(∀y∈os,y.2+1<s.1)->∀(w2:World),Ext w22 w2->∃(x42:Int×Int),CellsAt w2 b20 0 [.int .i64 x42.1,.int .i64 x42.2]/\1*2<=16777216/\
    AllocP w2 (.cells #[.int .i64 x42.1,.int .i64 x42.2] 101) fun b43 w44=>∃l45,ReadC w44 (some ⟨b43,0,none⟩) (1*2) l45/\
    AppendP tt101 101 w44 so.1 so.2 so.3 1 l45 fun s46 w47=>([]:List Nat)=[]/\∃b48,b48<n/\∃(i':Nat)(so':Sl)(os:List Spn),i'<=zs.length/\b48+i'=zs.length/\(({ p:=s46.1,n:=s46.2,c:=s46.3 }:Sl),IntKind.i64.wrap ((i:Int)+1))=(so',(i':Int))/\PlI os (zs.take i')/\OwS w47 so' 2 (os.flatMap sv)/\Ext w8 w47/\∀j∈blk so',w8.heap.size<=j:=by
   intro hb w2 e2
   refine⟨s,cellsAt_of (e2.at h22) fun i v hv=>by simpa using hv,by decide,fun b43 w44 h44=>?_⟩
   have e44:Ext w22 w44:=e2.trans (h44.ch _)
   refine(ho22.ext e44).lit (new:=sv s) (T':=101) h44.new rfl (sv_one s) rfl rfl (by omega) (by decide) fun s' w' ho' hn' hC' hb'=>⟨rfl,n-1,by omega,i+1,s',os++[s],hi',by omega,by rw[hi1],?_,?_,?_,?_⟩
   ·rw[htk];exact hI.add hms hb
   ·rw[List.flatMap_append];simpa using ho'
   ·exact(hE.trans (e22.trans e44)).then hC' fun j hj h=>by have:=hbo j h;omega
   ·intro j hj
    rcases hb' j hj with h|h
    ·exact hbo j h
    ·have:=hE.size;have:=(e22.trans e44).size;omega
  refine IfB.dec (fun h0=>?_) fun h0=>?_
  ·have h0':0<os.length:=by
    have:(0:Int)<(so.n:Int):=h0
    omega
   obtain⟨pre,l,hos⟩:=last_split h0'
   have hol':os.length=pre.length+1:=by rw[hos];simp
   have hgl:os[pre.length]? =some l:=by rw[hos];simp
   have hml:mayS l:=hI.norm.2 l (by rw[hos];simp)
   have hd:∀W2,Ext w22 W2->∃a2,so.p=some ⟨a2,0,none⟩/\CellsAt W2 a2 (pre.length*2) [.int .i64 l.1,.int .i64 l.2]:=fun W2 e=>(ho22.ext e).elem (i:=pre.length) (by omega) (flatGet sv_len hgl)
   have ed:=extDrew w22
   have edd:=ed.trans (extDrew w22.drew)
   obtain⟨a2,hp2,hc2⟩:=hd _ ed
   obtain⟨a3,hp3,hc3⟩:=hd _ edd
   rw[hp2] at hp3;cases hp3
   have hwn:IntKind.i64.wrap ((so.n:Int)-1)=((pre.length:Nat):Int):=by rw[wrap_of (by omega) (by omega)];omega
   have hw2:IntKind.i64.wrap (l.2+1)=l.2+1:=by unfold mayS at hml;rw[wrap_of (by omega) (by omega)]
   have q0:∀W2,Ext w22 W2->W2.cell? ⟨b20,0+0,none⟩=some (.int .i64 s.1):=fun W2 e=>by rw[cell_of (e.at h22)];rfl
   have q1:∀W2,Ext w22 W2->W2.cell? ⟨b20,0+1,none⟩=some (.int .i64 s.2):=fun W2 e=>by rw[cell_of (e.at h22)];rfl
   refine⟨s.1,q0 _ ed,a2,0,hp2,?_,l.2,?_,?_⟩
   ·dsimp only;rw[hwn];omega
   ·dsimp only;rw[hwn,Int.toNat_natCast,Nat.zero_add];exact hc2.snd
   ·try dsimp only
    rw[hw2]
    refine IfB.dec (fun hle=>?_) fun hgt=>?_
    ·refine⟨a2,0,hp2,?_,l.2,?_,s.2,q1 _ edd,a2,0,hp2,?_,rfl,?_⟩
     ·(try dsimp only);rw[hwn];omega
     ·(try dsimp only);rw[hwn,Int.toNat_natCast,Nat.zero_add];exact hc3.snd
     ·(try dsimp only);rw[hwn];omega
     ·(try dsimp only);rw[hwn,Int.toNat_natCast,Nat.zero_add]
      refine(ho22.ext edd).store (vs:=[.int .i64 (if l.2<s.2 then s.2 else l.2)]) hp2 (by simp;omega) (by intro v hv;rw[List.mem_singleton.1 hv];rfl) fun w33 ho33 hC33=>?_
      refine⟨rfl,n-1,by omega,i+1,so,pre++[(l.1,if l.2<s.2 then s.2 else l.2)],hi',by omega,by rw[hi1],?_,?_,?_,hbo⟩
      ·rw[htk];exact PlI.grow (hos ▸ hI) hms hds hle rfl
      ·have e1:(os.flatMap sv)=(pre.flatMap sv++[.int .i64 l.1])++[.int .i64 l.2]:=by rw[hos];simp
       have e2:(pre.flatMap sv++[Value.int .i64 l.1]).length=pre.length*2+1:=by simp[flatLen sv_len]
       rw[e1,<-e2,List.take_append_of_le_length (Nat.le_refl _),List.take_length,List.drop_of_length_le (by simp)] at ho33
       simpa using ho33
      ·exact(hE.trans (e22.trans edd)).then hC33 fun j hj e=>by have:=hbo j (by simp[blk,hp2,e]);omega
    ·unfold F189k1
     refine app (fun y hy=>?_) _ ed
     have hgt':l.2+1<s.1:=by omega
     rw[hos] at hy
     rcases List.mem_append.1 hy with hy|hy
     ·have:=(List.pairwise_append.1 (hos ▸ hI.norm.1)).2.2 y hy l (by simp)
      unfold mayS at hml;omega
     ·rw[List.mem_singleton.1 hy];exact hgt'
  ·have h0':os=[]:=List.length_eq_zero_iff.1 (by
    have:¬(0:Int)<(so.n:Int):=h0
    omega)
   unfold F189k1
   exact app (by rw[h0'];simp) _ (extDrew _)
 ·have hi':i=zs.length:=by
   have:¬(i:Int)<(s6.n:Int):=hge
   omega
  subst hi'
  rw[List.take_length] at hI
  exact⟨so,os,rfl,hI.norm,fun k=>(hI.has k).trans (hzk k),ho,by omega,e8.trans hE,fun j hj=>by have:=hbo j hj;have:=e8.size;omega⟩
set_option maxRecDepth 100000
theorem F275_ok(t0:Int×Int)(w:World)(R:RV)(h:AllocP w (Obj.cells #[Qz t0.1,Qz t0.2] 93) fun b1 w2=>∃(x3:Int×Int),CellsAt w2 b1 0 [Qz x3.1,Qz x3.2]/\1*9<=16777216/\AllocP w2 (Obj.cells #[Qz 1,Qz 0,Qz 0,Qz 0,Qz x3.1,Qz x3.2,Qz 0,Qz 0,Qz 0] 95) fun b4 w5=>R (Value.slice (some ⟨b4,0,none⟩) 1 1) w5):Cw 275 #[Value.agg #[Qz t0.1,Qz t0.2]] w R:=
 ckF Tryz.func275 .nil h (by kernel_rfl) (by kernel_rfl)
theorem F237_ok(t0:Sl)(t1:Int)(w:World)(R:RV)(h:AllocP w (Obj.cells #[Qz t1] 3) fun b1 w2=>Qi w2 b1 0 fun n3=>IfB (decide (0<=n3)) (Qi w2 b1 0 fun n4=>IfB (decide (n4<=3)) (IfB (decide ((t0.n:Int)<=4)) (Qv' 276 #[Qy t0,Value.func (Fn.func 274) #[] #[Value.pointer (some ⟨b1,0,none⟩)]] w2 fun t7 w6=>R (Value.bool !t7) w6) (R (Value.bool false) w2)) (R (Value.bool false) w2)) (R (Value.bool false) w2)):Cw 237 #[Qy t0,Qz t1] w R:=
 ckF Tryz.func237 .nil h (by kernel_rfl) (by kernel_rfl)
theorem F274_ok(t0:Int×Int×Int×Int×Bool)(t1:Nat)(w:World)(R:RV)(h:AllocP w (Obj.cells (lC217 t0).toArray 217) fun b1 w2=>∃(x3:Int×Int),CellsAt w2.drew b1 (0+0) [Qz x3.1,Qz x3.2]/\∃n4:Int,w2.drew.cell? ⟨t1,0,none⟩=some (Qz n4)/\Qu' 275 #[Value.agg #[Qz x3.1,Qz x3.2]] w2.drew fun s7 w6=>w6.cell? ⟨t1,0,none⟩=some (Qz n4)/\Qv' 236 #[Qy s7,Qz n4] w6 fun t10 w9=>IfB (!t10) (R (Value.bool true) w9) (∃(x11:Int×Int),CellsAt w9 b1 (0+2) [Qz x11.1,Qz x11.2]/\∃n12:Int,w9.cell? ⟨t1,0,none⟩=some (Qz n12)/\Qu' 275 #[Value.agg #[Qz x11.1,Qz x11.2]] w9 fun s15 w14=>w14.cell? ⟨t1,0,none⟩=some (Qz n12)/\Qv' 236 #[Qy s15,Qz n12] w14 fun t18 w17=>R (Value.bool !t18) w17)):Cw 274 #[(.agg (lC217 t0).toArray),Value.pointer (some ⟨t1,0,none⟩)] w R:=
 ckF Tryz.func274 (nd (.node (.draw (sts [0,1,3] (.ac 2 [3] (.ac 4 [] (sts [5,6,7,8,10] (.ac 9 [10] (.ac 11 [] (sts [12,13,14] .fin) .non) .non)) .non) .non))) .nil)) h (by kernel_rfl) (by kernel_rfl)
theorem F276_ok(t0:Sl)(t1:Nat×Array Value)(w:World)(R:RV)(h:Cx 301 #[Qy t0,Value.func (Fn.func t1.1) #[] t1.2] w fun v1 w2=>∃n3:Int,v1=Qz n3/\R (Value.bool (decide (0<=n3))) w2):Cw 276 #[Qy t0,Value.func (Fn.func t1.1) #[] t1.2] w R:=
 ckF Tryz.func276 .nil h (by kernel_rfl) (by kernel_rfl)
def F301j1(t0:Sl)(t1:Nat×Array Value)(R:RV)(y1:Nat->Int->World->Prop)(b3:Nat)(n4:Int)(w5:World):Prop:=IfB (decide (n4<(t0.n:Int))) (Qx t0.1 n4 (t0.2:Int) fun b8 b9=>∃(x10:Int×Int×Int×Int×Bool),CellsAt w5 b8 (b9+n4.toNat*5) (lC217 x10)/\Cx t1.1 { toList:=(.agg (lC217 x10).toArray)::t1.snd.1 } w5 fun v11 w12=>∃t13:Bool,v11=Value.bool t13/\IfB t13 (R (Qz n4) w12) (Qn y1 b3 (IntKind.i64.wrap (n4+1)) w12)) (R (Qz (-1:Int)) w5)
def F301(t0:Sl)(t1:Nat×Array Value)(w:World)(R:RV):Prop:=Ql (α:=Int) 0 w fun y1 b3 n4 w5=>(F301j1 t0 t1 R y1 b3 n4 w5)
theorem F301_ok(t0:Sl)(t1:Nat×Array Value)(w:World)(R:RV)(h:F301 t0 t1 w R):Cw 301 #[Qy t0,Value.func (Fn.func t1.1) #[] t1.2] w R:=
 ckF Tryz.func301 (nd (.node (nd (.loop [(8,oi)] (rg [4,5,8,18]) .nil)) .nil)) h (by kernel_rfl) (by kernel_rfl)
def getIns(k:KeyD):InsD:=(1,0,0,0,k,(0,0),0)
theorem getIns_ok(k:KeyD)(n:Int):CodeOk [getIns k] n↔(0<=n/\n<=3)/\KeyOk k n:=by
 constructor
 ·rintro⟨h1,h2,_,_,h⟩
  exact⟨⟨h1,h2⟩,(h (getIns k) (by simp)).ko (show (1:Int)<=4 by decide)⟩
 ·rintro⟨⟨h1,h2⟩,h⟩
  refine⟨h1,h2,by simp,by simp,fun x hx=>?_⟩
  rw[List.mem_singleton.1 hx]
  refine⟨?_,?_,?_,?_,?_,?_,?_,?_,?_,?_,?_,?_⟩<;>simp[getIns]<;>exact h
theorem c275(k:KeyD)(w:World):Cw 275 #[keyV k] w fun v w'=>∃t',v=slV t'/\Rd w' t' 9 ([getIns k].flatMap insC)/\Ext w w':=by
 refine F275_ok k w _ fun b1 w2 a2=>⟨k,boxAll (cs:=keyC k) a2.new (Ch.refl _ _),by decide,fun b4 w5 a5=>⟨⟨some ⟨b4,0,none⟩,1,1⟩,rfl,?_,(a2.ch _).trans (a5.ch _)⟩⟩
 exact(OwS.new (sz:=9) (n:=1) (cs:=insC (getIns k)) a5 rfl).rd
abbrev spX(s:SpTD):Int×Int×Int×Int×Bool:=(s.1.1,s.1.2,s.2.1.1,s.2.1.2,s.2.2)
abbrev spTV(s:SpTD):Value:=.agg (spTC s).toArray
theorem c274(s:SpTD){b:Nat}{n:Int}{w:World}(hn:0<=n/\n<=3)(hb:∃T,w.heap[b]? =some (.cells #[iv n] T (0,0))):
  Cw 274 #[spTV s,.pointer (some ⟨b,0,none⟩)] w fun v w'=>v=.bool (bq (¬(KeyOk s.1 n/\KeyOk s.2.1 n)))/\Ext w w':=by
 obtain⟨T,hb⟩:=hb
 refine F274_ok (spX s) b w _ fun b1 w2 a2=>?_
 have e2:Ext w w2.drew:=(a2.ch _).trans (extDrew w2)
 have B1:=Ext.at (extDrew w2) a2.new
 have rdB:∀ {W:World},Ext w2.drew W->CellsAt W b1 (0+0) (keyC s.1)/\CellsAt W b1 (0+2) (keyC s.2.1)/\W.cell? ⟨b,0,none⟩=some (iv n):=fun e=>⟨cellsAt_of (e.at B1) fun i v hv=>by
  match i,hv with
  | 0,hv=>exact hv
  | 1,hv=>exact hv,cellsAt_of (e.at B1) fun i v hv=>by
  match i,hv with
  | 0,hv=>exact hv
  | 1,hv=>exact hv,by rw[cell_of ((e2.trans e).at hb fun h=>h)];rfl⟩
 have r0:=rdB (Ch.refl _ _)
 refine⟨s.1,r0.1,n,r0.2.2,(c275 s.1 _).use ?_⟩
 rintro _ w6 ⟨s7,rfl,hr7,e6⟩
 refine⟨s7,rfl,(rdB e6).2.2,(c236 hr7 n).use ?_⟩
 rintro _ w9 ⟨r1,rfl,hr1,e9⟩
 rw[getIns_ok] at hr1
 refine⟨r1,rfl,IfB.intro (fun h=>⟨?_,(e2.trans e6).trans e9⟩) fun h=>?_⟩
 ·rw[bq_iff.2 fun h'=>by rw[hr1.2 ⟨hn,h'.1⟩] at h;cases h]
 have k1:=hr1.1 (by simpa using h)
 have r9:=rdB (e6.trans e9)
 refine⟨s.2.1,r9.2.1,n,r9.2.2,(c275 s.2.1 _).use ?_⟩
 rintro _ w14 ⟨s15,rfl,hr15,e14⟩
 refine⟨s15,rfl,(rdB ((e6.trans e9).trans e14)).2.2,(c236 hr15 n).use ?_⟩
 rintro _ w17 ⟨r2,rfl,hr2,e17⟩
 rw[getIns_ok] at hr2
 refine⟨r2,rfl,?_,(((e2.trans e6).trans e9).trans e14).trans e17⟩
 rw[bq_neg hr2]
 congr 1
 rw[Bool.eq_iff_iff,bq_iff,bq_iff]
 exact⟨fun h h'=>h ⟨hn,h'.2⟩,fun h h'=>h ⟨k1.2,h'.2⟩⟩
theorem c301{w:World}{t:Sl}{xs:List SpTD}{t1:Nat×Array Value}{q:SpTD->Bool}(h:Rd w t 5 (xs.flatMap spTC))(hl:xs.length<=1000000)
  (hq:∀(x:SpTD)(W:World),x∈xs->Ext w W->∀R':RV,(∀w',Ext W w'->R' (.bool (q x)) w')->Cx t1.1 { toList:=spTV x::t1.2.toList } W R'):
  Cw 301 #[slV t,.func (.func t1.1) #[] t1.2] w fun v w'=>v=iv (idxV (xs.findIdx? q))/\Ext w w':=by
 refine F301_ok t t1 w _ ?_
 have hn:=rdN spTC_len (by omega) h
 have e:∀R,F301 t t1 w R=IndexF Tryz.prog (fun W b o i (x:Int×Int×Int×Int×Bool)=>CellsAt W b (o+i*5) (lC217 x)) (fun x=>.agg (lC217 x).toArray) t t1 w R:=fun _=>rfl
 rw[e]
 refine IndexF_of xs spX q hn (by omega) (fun i x W hx e=>?_) (fun i x W hx e R' hR=>hq x W (List.mem_of_getElem? hx) e R' hR) fun w' e=>⟨rfl,e⟩
 obtain⟨hi,_⟩:=List.getElem?_eq_some_iff.1 hx
 exact(h.ext e).elem (i:=i) (by omega) (by omega) (flatGet spTC_len hx)
theorem c276{w:World}{t:Sl}{xs:List SpTD}{t1:Nat×Array Value}{q:SpTD->Bool}(h:Rd w t 5 (xs.flatMap spTC))(hl:xs.length<=1000000)
  (hq:∀(x:SpTD)(W:World),x∈xs->Ext w W->∀R':RV,(∀w',Ext W w'->R' (.bool (q x)) w')->Cx t1.1 { toList:=spTV x::t1.2.toList } W R'):
  Cw 276 #[slV t,.func (.func t1.1) #[] t1.2] w fun v w'=>v=.bool (xs.any q)/\Ext w w':=
 F276_ok t t1 w _ ((c301 h hl hq).use fun v w' ⟨hv,e⟩=>⟨_,hv,by rw[any_idx],e⟩)
theorem c237{w:World}{t:Sl}{l:List SpTD}(h:Rd w t 5 (l.flatMap spTC))(n:Int):Cw 237 #[slV t,iv n] w fun v w'=>∃r,v=.bool r/\(r=true↔FootOk l n)/\Ext w w':=by
 have hn:=rdN spTC_len (by omega) h
 refine F237_ok t n w _ fun b1 w2 a2=>?_
 have e2:Ext w w2:=a2.ch _
 have no:¬FootOk l n->∃r,Value.bool false=.bool r/\(r=true↔FootOk l n)/\Ext w w2:=fun h=>⟨false,rfl,⟨fun h=>(by cases h),fun h'=>absurd h' h⟩,e2⟩
 have q:w2.cell? ⟨b1,0,none⟩=some (iv n):=by rw[cell_of a2.new];rfl
 refine⟨n,q,IfB.dec (fun h1=>⟨n,q,IfB.dec (fun h2=>IfB.dec (fun h3=>?_) fun h3=>no fun h=>by have:=h.l4;omega) fun h2=>no fun h=>h2 h.n3⟩) fun h1=>no fun h=>h1 h.n0⟩
 refine(c276 (t1:=(274,#[.pointer (some ⟨b1,0,none⟩)])) (q:=fun s=>bq (¬(KeyOk s.1 n/\KeyOk s.2.1 n))) (h.ext e2) (by omega) fun x W _ e R' hR=>(c274 x ⟨h1,h2⟩ ⟨_,e.at a2.new⟩).use fun v w' ⟨hv,e'⟩=>hv ▸ hR w' e').use ?_
 rintro _ w6 ⟨rfl,e6⟩
 refine⟨_,rfl,_,rfl,?_,e2.trans e6⟩
 rw[Bool.not_eq_true',any_bq]
 exact⟨fun h=>⟨h1,h2,by omega,h⟩,fun h=>h.all⟩
theorem F238_ok(t0:Sl×Sl)(t1:Int)(w:World)(R:RV)(h:AllocP w (Obj.cells #[Qy t0.fst,Qy t0.snd] 99) fun b1 w2=>Qs w2 b1 (0+0) fun s3=>IfB ((s3.2:Int) == 0) (Qs w2 b1 (0+1) fun s4=>Qv' 237 #[Qy s4,Qz t1] w2 fun t7 w6=>R (Value.bool t7) w6) (Qs w2 b1 (0+0) fun s8=>Qv' 236 #[Qy s8,Qz t1] w2 fun t11 w10=>IfB t11 (Qs w10 b1 (0+0) fun s12=>Qv' 277 #[Qy s12] w10 fun t15 w14=>IfB t15 (Qs w14 b1 (0+1) fun s16=>Qv' 237 #[Qy s16,Qz t1] w14 fun t19 w18=>R (Value.bool t19) w18) (R (Value.bool false) w14)) (R (Value.bool false) w10))):Cw 238 #[Value.agg #[Qy t0.fst,Qy t0.snd],Qz t1] w R:=
 ckF Tryz.func238 .nil h (by kernel_rfl) (by kernel_rfl)
theorem F235_ok(t0:ByteArray×Int×Sl×Sl×Bool)(w:World)(R:RV)(h:AllocP w (Obj.cells (lC49 t0).toArray 49) fun b1 w2=>R (Value.func (Fn.func 270) #[] #[Value.pointer (some ⟨b1,0,none⟩)]) w2):Cw 235 #[(.agg (lC49 t0).toArray)] w R:=
 ckF Tryz.func235 .nil h (by kernel_rfl) (by kernel_rfl)
def F270j1(t0:Nat)(t1:Nat)(R:RV)(s1:Sl)(s2:Sl)(y3:Nat->Int->World->Prop)(b5:Nat)(n6:Int)(w7:World):Prop:=IfB (decide (n6<if (s2.n:Int)<(s1.n:Int) then (s2.n:Int) else (s1.n:Int))) (∃s10:Sl,w7.drew.cell? ⟨t1,0+2,none⟩=some (Qy s10)/\Qx s10.1 n6 (s10.2:Int) fun b11 b12=>∃(x13:Sl×Sl),CellsAt w7.drew b11 (b12+n6.toNat*2) [Qy x13.fst,Qy x13.snd]/\∃s14:Sl,w7.drew.cell? ⟨t1,0+3,none⟩=some (Qy s14)/\Qx s14.1 n6 (s14.2:Int) fun b15 b16=>∃(x17:Sl×Sl),CellsAt w7.drew b15 (b16+n6.toNat*2) [Qy x17.fst,Qy x17.snd]/\YW Tryz.prog t0 #[Value.agg #[Qy x13.fst,Qy x13.snd],Value.agg #[Qy x17.fst,Qy x17.snd]] w7.drew fun(t18:Bool) (w19:World)=>IfB (!t18) (R (Value.tuple #[]) w19) (Qn y3 b5 (IntKind.i64.wrap (n6+1)) w19)) (R (Value.tuple #[]) w7)
theorem F270_ok(t0:Nat)(t1:Nat)(w:World)(R:RV)(h:∃s1:Sl,w.cell? ⟨t1,0+2,none⟩=some (Qy s1)/\∃s2:Sl,w.cell? ⟨t1,0+3,none⟩=some (Qy s2)/\Ql (α:=Int) 0 w fun y3 b5 n6 w7=>(F270j1 t0 t1 R s1 s2 y3 b5 n6 w7)):Cw 270 #[Value.func (Fn.yield t0) #[] #[],Value.pointer (some ⟨t1,0,none⟩)] w R:=
 ckF Tryz.func270 (nd (.loop [(11,oi)] (rg [3,3,11,27]) (nd (nd (.node (nd (.node (.draw (sts [0,1,2,3,4,5,6,7,8,9,10] (.ac 11 [] (.st 12 .fin) .non))) .nil)) .nil))))) h (by kernel_rfl) (by kernel_rfl)
noncomputable def R190_0:Code:=codeAt [1,1,1,0,1,0] (bodyOf Tryz.f190)
def R190_0a:An:=.nil
theorem R190_0ok1:okC tb Tryz.f190.ntmps (rA R190_0) .nil=true:=by kernel_rfl
theorem R190_0ok2:okC tb Tryz.f190.ntmps (rB R190_0) R190_0a=true:=by kernel_rfl
theorem R190_0okp:(rP R190_0).toList.all (fun p=>Nat.blt p Tryz.f190.ntmps)=true:=by kernel_rfl
def F190k1(w4:World)(b1:Nat)(b3:Nat)(R:RV)(s5:Sl):Prop:=Qi w4 b1 (0+1) fun n15=>IfB (decide (3<n15)) (#[Value.bool false].size=1/\StoreP w4 b3 0 [Value.bool false] fun w16=>Qb w16 b3 0 fun t17=>R (Value.bool t17) w16) (IfB (decide ((s5.n:Int)<1)) (#[Value.bool false].size=1/\StoreP w4 b3 0 [Value.bool false] fun w18=>Qb w18 b3 0 fun t19=>R (Value.bool t19) w18) (IfB (decide (4<(s5.n:Int))) (#[Value.bool false].size=1/\StoreP w4 b3 0 [Value.bool false] fun w20=>Qb w20 b3 0 fun t21=>R (Value.bool t21) w20) (Qs w4 b1 (0+3) fun s22=>IfB ((s22.2:Int) != (s5.2:Int)) (#[Value.bool false].size=1/\StoreP w4 b3 0 [Value.bool false] fun w23=>Qb w23 b3 0 fun t24=>R (Value.bool t24) w23) (∃(x25:ByteArray×Int×Sl×Sl×Bool),CellsAt w4 b1 0 (lC49 x25)/\Cx 235 #[Value.agg (lC49 x25).toArray] w4 fun v26 w27=>∃(x28:Nat×Array Value),v26=Value.func (Fn.func x28.1) #[] x28.2/\∀(y29:Nat->Value),RangeP Tryz.prog tb (nat_lit 69) none R190_0a (rG R190_0) (rP R190_0) (rA R190_0) (rB R190_0) (frC y29 [(1,Value.pointer (some ⟨b1,0,none⟩)),(2,Value.pointer (some ⟨b3,0,none⟩)),(45,Value.func (Fn.func x28.1) #[] x28.2)]) [] w27 (fun(l30:List Nat) (w31:World)=>#[Value.bool true].size=1/\StoreP w31 b3 0 [Value.bool true] fun w32=>marksP w32 l30 fun w33=>Qb w33 b3 0 fun t34=>R (Value.bool t34) w33) (fun(l35:List Nat) (w36:World)=>marksP w36 l35 fun w37=>Qb w37 b3 0 fun t38=>R (Value.bool t38) w37) fun(b39:Nat) (l40:List Nat) (w41:World)=>match b39.beq 0 with|true=>#[Value.bool true].size=1/\StoreP w41 b3 0 [Value.bool true] fun w43=>marksP w43 l40 fun w44=>Qb w44 b3 0 fun t45=>R (Value.bool t45) w44|false=>False))))
theorem F190_ok(t0:ByteArray×Int×Sl×Sl×Bool)(w:World)(R:RV)(h:AllocP w (Obj.cells (lC49 t0).toArray 49) fun b1 w2=>AllocP w2 (Obj.cells #[Value.bool false] 4) fun b3 w4=>Qs w4 b1 (0+2) fun s5=>∃z6:ByteArray,w4.cell? ⟨b1,0+0,none⟩=some (Value.string z6)/\IfB (decide ((z6.size:Int)<1)) (#[Value.bool false].size=1/\StoreP w4 b3 0 [Value.bool false] fun w7=>Qb w7 b3 0 fun t8=>R (Value.bool t8) w7) (∃z9:ByteArray,w4.cell? ⟨b1,0+0,none⟩=some (Value.string z9)/\IfB (decide (16<(z9.size:Int))) (#[Value.bool false].size=1/\StoreP w4 b3 0 [Value.bool false] fun w10=>Qb w10 b3 0 fun t11=>R (Value.bool t11) w10) (Qi w4 b1 (0+1) fun n12=>IfB (decide (n12<0)) (#[Value.bool false].size=1/\StoreP w4 b3 0 [Value.bool false] fun w13=>Qb w13 b3 0 fun t14=>R (Value.bool t14) w13) (F190k1 w4 b1 b3 R s5)))):Cw 190 #[(.agg (lC49 t0).toArray)] w R:=
 ckF Tryz.func190 (nd (nd (nd (.node (nd (.rng [(1,.one (.box)),(2,.one (.box)),(45,.one (.clo))] .nil)) .nil)))) h (by kernel_rfl) (by kernel_rfl)
theorem F190b0_ok(t1:Nat)(t2:Nat)(t45:Nat×Array Value)(x46:Sl×Sl)(x47:Sl×Sl)(l D n₀:Nat)(Jn:World->Prop)(Jx:Code->World->Prop)(W:World){g:Nat->Value}(h:AllocP W (Obj.cells #[Value.slice none 0 0,Value.slice none 0 0] 99) fun b1 w2=>#[Qy x46.fst,Qy x46.snd].size=2/\StoreP w2 b1 0 [Qy x46.fst,Qy x46.snd] fun w3=>AllocP w3 (Obj.cells #[Value.slice none 0 0,Value.slice none 0 0] 99) fun b4 w5=>#[Qy x47.fst,Qy x47.snd].size=2/\StoreP w5 b4 0 [Qy x47.fst,Qy x47.snd] fun w6=>([]:List Nat)=[]/\(w6.1[l]? =W.1[l]? /\w6.1[D]? =W.1[D]?)/\∀(w15:World),Stb n₀ w6 w15->Its w6 w15->(∃y18:Loop,w15.1[l]? =some (Obj.loop y18))->Qs w15 b1 (0+0) fun s22=>∃n23:Int,w15.cell? ⟨t1,0+1,none⟩=some (Qz n23)/\Qv' 236 #[Qy s22,Qz n23] w15 fun t26 w25=>IfB (!t26) (#[Value.bool false].size=1/\StoreP w25 t2 0 [Value.bool false] fun w27=>(w27.1[l]? =w15.1[l]? /\w27.1[D]? =w15.1[D]?)/\Jx Code.ret w27) (Qs w25 b1 (0+1) fun s36=>∃n37:Int,w25.cell? ⟨t1,0+1,none⟩=some (Qz n37)/\Qv' 237 #[Qy s36,Qz n37] w25 fun t40 w39=>IfB (!t40) (#[Value.bool false].size=1/\StoreP w39 t2 0 [Value.bool false] fun w41=>(w41.1[l]? =w15.1[l]? /\w41.1[D]? =w15.1[D]?)/\Jx Code.ret w41) (∃(x50:Sl×Sl),CellsAt w39 b4 0 [Qy x50.fst,Qy x50.snd]/\∃n51:Int,w39.cell? ⟨t1,0+1,none⟩=some (Qz n51)/\Qv' 238 #[Value.agg #[Qy x50.fst,Qy x50.snd],Qz n51] w39 fun t54 w53=>IfB (!t54) (#[Value.bool false].size=1/\StoreP w53 t2 0 [Value.bool false] fun w55=>(w55.1[l]? =w15.1[l]? /\w55.1[D]? =w15.1[D]?)/\Jx Code.ret w55) ((w53.1[l]? =w15.1[l]? /\w53.1[D]? =w15.1[D]?)/\Jn w53)))):
  BodyP Tryz.prog tb Tryz.f190.ntmps l D n₀ R190_0a (rP R190_0) (rA R190_0) (rB R190_0) (frC g [(1,Value.pointer (some ⟨t1,0,none⟩)),(2,Value.pointer (some ⟨t2,0,none⟩)),(45,Value.func (Fn.func t45.1) #[] t45.2)]) Jn Jx [Value.agg #[Value.slice x46.fst.1 x46.fst.2 x46.fst.3,Value.slice x46.snd.1 x46.snd.2 x46.snd.3],Value.agg #[Value.slice x47.fst.1 x47.fst.2 x47.fst.3,Value.slice x47.snd.1 x47.snd.2 x47.snd.3]] W:=
 Eq.mp (by kernel_rfl) h
abbrev stC(s:Sl×Sl):List Value:=[slV s.1,slV s.2]
abbrev stV(s:Sl×Sl):Value:=.agg (stC s).toArray
theorem stC_len(s:Sl×Sl):(stC s).length=2:=rfl
theorem stC_one(s:Sl×Sl):One (stC s):=by intro v hv;simp at hv;rcases hv with rfl|rfl<;>rfl
theorem StsR.list{w:World}{s:Sl}{l:List StpD}(h:StsR w s l):∃ss:List (Sl×Sl),ss.length=l.length/\Rd w s 2 (ss.flatMap stC)/\∀(i:Nat) y x,ss[i]? =some y->l[i]? =some x->StpR w y x:=by
 obtain⟨t,ns,ht,h1,h2,h3,h4,h5,h6⟩:=rep_list (f:=stC) (Q:=fun x n=>StpR w n x) h fun x _ c hc=>rep_stp hc
 have:=slEq ht;subst this
 exact⟨ns,h2,h1,fun i y x hy hx=>h6 i x y hx hy⟩
theorem c238{w:World}{s:Sl×Sl}{x:StpD}(h:StpR w s x)(n:Int):Cw 238 #[stV s,iv n] w fun v w'=>∃r,v=.bool r/\(r=true↔CompOk x n)/\Ext w w':=by
 refine F238_ok s n w _ fun b1 w2 a2=>?_
 have e2:Ext w w2:=a2.ch _
 have h2:=h.ext e2
 have q:=fun{W:World} (o:Nat) (e:Ext w2 W)=>boxAt (cs:=stC s) a2.new o e
 have r0:=Ch.refl (fun _=>False) w2
 have hcn:=h.cn
 refine⟨_,q 0 r0,IfB.intro (fun h0=>⟨_,q 1 r0,(c237 h2.foot n).use ?_⟩) fun h0=>⟨_,q 0 r0,(c236 h2.code n).use ?_⟩⟩
 ·rintro _ w6 ⟨r,rfl,hr,e6⟩
  have h0:s.1.n=0:=by
   have:(s.1.n:Int)=0:=by simpa using h0
   omega
  have:x.1=[]:=List.eq_nil_of_length_eq_zero (by omega)
  exact⟨r,rfl,r,rfl,hr.trans ⟨fun h=>⟨.inl this,h⟩,fun h=>h.2⟩,e2.trans e6⟩
 ·have h0:¬s.1.n=0:=by
   have:¬(s.1.n:Int)=0:=by simpa using h0
   omega
  have hne:x.1≠[]:=fun h=>by rw[h] at hcn;exact h0 hcn
  have no:∀ {W:World},¬CompOk x n->Ext w W->∃r,Value.bool false=.bool r/\(r=true↔CompOk x n)/\Ext w W:=fun h e=>⟨false,rfl,⟨fun h=>(by cases h),fun h'=>absurd h' h⟩,e⟩
  rintro _ w10 ⟨r,rfl,hr,e10⟩
  refine⟨r,rfl,IfB.intro (fun h1=>⟨_,q 0 e10,(c277 (h2.ext e10).code (by have:=(hr.1 h1).l8;omega)).use ?_⟩) fun h1=>no (fun h=>h.1.elim hne fun h=>?_) (e2.trans e10)⟩
  ·rintro _ w14 ⟨r2,rfl,hr2,e14⟩
   have hc:=hr.1 h1
   refine⟨r2,rfl,IfB.intro (fun h3=>⟨_,q 1 (e10.trans e14),(c237 ((h2.ext e10).ext e14).foot n).use ?_⟩) fun h3=>no (fun h=>h.1.elim hne fun h=>?_) ((e2.trans e10).trans e14)⟩
   ·rintro _ w18 ⟨r4,rfl,hr4,e18⟩
    refine⟨r4,rfl,r4,rfl,hr4.trans ⟨fun h=>⟨.inr ⟨hc,fun y hy=>?_⟩,h⟩,fun h=>h.2⟩,((e2.trans e10).trans e14).trans e18⟩
    have:=hr2.1 h3 y hy;have:=(hc.all y hy).o8;omega
   ·have h3:r2=false:=h3
    rw[hr2.2 fun y hy=>by have:=h.2 y hy;omega] at h3;cases h3
  ·have h1:r=false:=h1
   rw[hr.2 h.1] at h1;cases h1
abbrev eaV(y:(Sl×Sl)×(Sl×Sl)):Array Value:=#[stV y.1,stV y.2]
structure InvE(b:Nat)(v:ClsV)(ss cs:List (Sl×Sl))(W:World):Prop where
 box:∃T,W.heap[b]? =some (.cells (clsC v).toArray T (0,0))
 st:Rd W v.2.2.1 2 (ss.flatMap stC)
 co:Rd W v.2.2.2.1 2 (cs.flatMap stC)
theorem InvE.stb{n b:Nat}{v:ClsV}{ss cs:List (Sl×Sl)}{W W':World}(h:InvE b v ss cs W)(hS:Stb n W W'):InvE b v ss cs W':=by
 obtain⟨⟨T,h1⟩,h2,h3⟩:=h
 exact⟨⟨T,hS.keep _ _ h1 rfl⟩,rd_stb h2 hS,rd_stb h3 hS⟩
theorem InvE.ext{b:Nat}{v:ClsV}{ss cs:List (Sl×Sl)}{W W':World}(h:InvE b v ss cs W)(e:Ext W W'):InvE b v ss cs W':=by
 obtain⟨⟨T,h1⟩,h2,h3⟩:=h
 exact⟨⟨T,e.at h1⟩,h2.ext e,h3.ext e⟩
theorem itE(b:Nat)(v:ClsV)(ss cs:List (Sl×Sl))(hl:ss.length<=1000000)(hlc:cs.length<=1000000):
  Iter Tryz.prog 270 #[.pointer (some ⟨b,0,none⟩)] eaV false (fun pre y=>ss[pre.length]? =some y.1/\cs[pre.length]? =some y.2) (fun xs=>xs.length=min ss.length cs.length) (InvE b v ss cs):=by
 refine⟨en270,fun l J Jx W hJ hJx hInv hSz _ hstep h0=>?_⟩
 have hI0:=hInv _ _ h0
 have hn1:=rdN stC_len (by omega) hI0.st
 have hn2:=rdN stC_len (by omega) hI0.co
 obtain⟨T1,hT1⟩:=hI0.box
 have r0:=Ch.refl (fun _=>False) W
 obtain⟨m,hm⟩:∃m,m=min ss.length cs.length:=⟨_,rfl⟩
 refine F270_ok l b W _ ⟨_,boxAt (cs:=clsC v) hT1 2 r0,_,boxAt (cs:=clsC v) hT1 3 r0,fun n x W'=>∃pre:List ((Sl×Sl)×(Sl×Sl)),n+pre.length=m/\x=(pre.length:Int)/\J pre W',⟨m,[],rfl,rfl,h0⟩,?_⟩
 rintro n _ W7 g ⟨pre,hp,rfl,hj⟩
 unfold F270j1
 have hmi:(if ((v.2.2.2.1.n:Nat):Int)<(v.2.2.1.n:Int) then (v.2.2.2.1.n:Int) else (v.2.2.1.n:Int))=(m:Int):=by
  rw[hn1,hn2,hm];split<;>omega
 refine IfB.dec (fun hlt=>?_) fun hge=>?_
 ·have hlt:(pre.length:Int)<(if ((v.2.2.2.1.n:Nat):Int)<(v.2.2.1.n:Int) then (v.2.2.2.1.n:Int) else (v.2.2.1.n:Int)):=hlt
  rw[hmi] at hlt
  have hj':=hJ _ _ _ hj (Stb.drawn W.heap.size W7 (W7.drawn+1))
  have hj':J pre W7.drew:=hj'
  have hI:=hInv _ _ hj'
  obtain⟨T2,hT2⟩:=hI.box
  have r7:=Ch.refl (fun _=>False) W7.drew
  have h1:ss[pre.length]? =some (ss[pre.length]'(by omega)):=List.getElem?_eq_getElem _
  have h2:cs[pre.length]? =some (cs[pre.length]'(by omega)):=List.getElem?_eq_getElem _
  generalize ss[pre.length]'_=y1 at h1
  generalize cs[pre.length]'_=y2 at h2
  obtain⟨b1,o1,hp1,hc1⟩:=hI.st.elem (i:=pre.length) (by omega) (by omega) (flatGet stC_len h1)
  obtain⟨b2,o2,hp2,hc2⟩:=hI.co.elem (i:=pre.length) (by omega) (by omega) (flatGet stC_len h2)
  refine⟨_,boxAt (cs:=clsC v) hT2 2 r7,b1,o1,hp1,⟨by omega,by omega⟩,y1,by rw[Int.toNat_natCast];exact hc1,_,boxAt (cs:=clsC v) hT2 3 r7,b2,o2,hp2,⟨by omega,by omega⟩,y2,by rw[Int.toNat_natCast];exact hc2,(hstep pre (y1,y2) _ hj' ⟨h1,h2⟩).mono fun r w' hr=>?_⟩
  cases r with
  | false=>exact IfB.yes rfl (.inr ⟨_,hr⟩)
  | true=>exact IfB.no rfl ⟨rfl,n-1,by omega,pre++[(y1,y2)],by simp;omega,by rw[wrap_of (by omega) (by omega)];simp,hr.1⟩
 ·have hge:¬(pre.length:Int)<(if ((v.2.2.2.1.n:Nat):Int)<(v.2.2.1.n:Int) then (v.2.2.2.1.n:Int) else (v.2.2.1.n:Int)):=hge
  rw[hmi] at hge
  exact .inl ⟨pre,by omega,hj⟩
abbrev clV(v:ClsV):Value:=.agg (clsC v).toArray
theorem c235(v:ClsV)(w:World):Cw 235 #[clV v] w fun r w'=>∃b T,r=.func (.func 270) #[] #[.pointer (some ⟨b,0,none⟩)]/\IsAlloc w (.cells (clsC v).toArray T (0,0)) b w':=
 F235_ok v w _ fun b w' a=>⟨b,_,rfl,a⟩
theorem retB{w4:World}{b3:Nat}{z:Array Value}{T:TypeId}{R:RV}(h3:w4.heap[b3]? =some (.cells z T (0,0)))(hz:z.size=1)(r:Bool)(hR:∀w',IsUpd w4 b3 (.cells #[.bool r] T (0,0)) w'->R (.bool r) w'):
  #[Value.bool r].size=1/\StoreP w4 b3 0 [.bool r] fun w'=>∃t:Bool,w'.cell? ⟨b3,0,none⟩=some (.bool t)/\R (.bool t) w':=
 ⟨rfl,store_all (vs:=[.bool r]) h3 hz (by intro v hv;rw[List.mem_singleton.1 hv];rfl) fun w' hu=>⟨r,by rw[cell_of hu.new];rfl,hR w' hu⟩⟩
theorem c190{w:World}{v:ClsV}{x:ClsD}(h:ClsM w v x):Cw 190 #[clV v] w fun v w'=>∃r,v=.bool r/\(r=true↔ClsOk x)/\Ext w w':=by
 refine F190_ok v w _ fun b1 w2 a2 b3 w4 a4=>?_
 have e2:Ext w w2:=a2.ch _
 have e4:Ext w w4:=e2.trans (a4.ch _)
 have p2:=a2.here;have z2:=a2.size;have p4:=a4.here;have z4:=a4.size
 have B1:w4.heap[b1]? =some (.cells (clsC v).toArray 49 (0,0)):=a4.at a2.new
 have B3:=a4.new
 have r4:=Ch.refl (fun _=>False) w4
 have q:=fun(o:Nat)=>boxAt (cs:=clsC v) B1 o r4
 have hsn:=h.st.n
 have hcn:=h.co.n
 have hnm:=h.nm
 have har:=h.ar
 have no:=fun(hn:¬ClsOk x)=>retB (R:=fun(v:Value) (w':World)=>∃r,v=.bool r/\(r=true↔ClsOk x)/\Ext w w') B3 rfl false fun w' hu=>⟨false,rfl,⟨fun h=>(by cases h),fun h'=>absurd h' hn⟩,e4.chN hu.ch fun j e=>by omega⟩
 refine⟨_,q 2,_,q 0,IfB.dec (fun c1=>no fun k=>?_) fun c1=>⟨_,q 0,IfB.dec (fun c2=>no fun k=>?_) fun c2=>⟨_,q 1,IfB.dec (fun c3=>no fun k=>?_) fun c3=>⟨_,q 1,IfB.dec (fun c4=>no fun k=>?_) fun c4=>IfB.dec (fun c5=>no fun k=>?_) fun c5=>IfB.dec (fun c6=>no fun k=>?_) fun c6=>⟨_,q 3,IfB.intro (fun c7=>no fun k=>?_) fun c7=>?_⟩⟩⟩⟩⟩
 ·have:=k.s1;rw[hnm] at c1;omega
 ·have:=k.s16;rw[hnm] at c2;omega
 ·have:=k.a0;rw[har] at c3;omega
 ·have:=k.a3;rw[har] at c4;omega
 ·have:=k.l1;have c5:(v.2.2.1.n:Int)<1:=c5;omega
 ·have:=k.l4;have c6:4<(v.2.2.1.n:Int):=c6;omega
 ·have:=k.cl
  have c7:(v.2.2.2.1.n:Int)≠(v.2.2.1.n:Int):=by simpa using c7
  omega
 have c5:¬(v.2.2.1.n:Int)<1:=c5
 have c6:¬4<(v.2.2.1.n:Int):=c6
 have c7:(v.2.2.2.1.n:Int)=(v.2.2.1.n:Int):=by simpa using c7
 refine⟨v,boxAll (cs:=clsC v) B1 r4,(c235 v w4).use ?_⟩
 rintro _ w27 ⟨pb,T,rfl,a27⟩
 have p27:=a27.here;have z27:=a27.size
 refine⟨(270,#[.pointer (some ⟨pb,0,none⟩)]),rfl,fun g=>?_⟩
 obtain⟨ss,hs1,hs2,hs3⟩:=h.st.list
 obtain⟨cs,hc1,hc2,hc3⟩:=h.co.list
 have e27:Ext w w27:=e4.trans (a27.ch _)
 let Ok:Nat->Prop:=fun n=>∀i,i<n->∀s c,x.2.2.1[i]? =some s->x.2.2.2.1[i]? =some c->CodeOk s.1 x.2.1/\FootOk s.2 x.2.1/\CompOk c x.2.1
 refine range_none tbOk mixed (gf:=270) (lb:=#[.pointer (some ⟨pb,0,none⟩)]) rfl (itE pb v ss cs (by omega) (by omega)) R190_0ok1 R190_0ok2 R190_0okp (fun _=>rfl)
  (fun pre W=>Ok pre.length/\InvE pb v ss cs W/\W.heap[b1]? =some (.cells (clsC v).toArray 49 (0,0))/\W.heap[b3]? =some (.cells #[.bool false] 4 (0,0))/\Ext w W)
  (fun c pre W=>c=.ret/\¬ClsOk x/\W.heap[b3]? =some (.cells #[.bool false] 4 (0,0))/\Ext w W) ?_ ?_ (fun _ _ h=>h.2.1) (fun h=>by cases h) ?_ ?_ ?_ ?_
 ·rintro pre A B ⟨h1,h2,h3,h4,h5⟩ hS
  exact⟨h1,h2.stb hS,hS.keep _ _ h3 rfl,hS.keep _ _ h4 rfl,h5.stbE hS (by omega)⟩
 ·rintro c pre A B ⟨h1,h2,h3,h4⟩ hS
  exact⟨h1,h2,hS.keep _ _ h3 rfl,h4.stbE hS (by omega)⟩
 ·exact⟨fun i hi=>by simp at hi,⟨⟨_,a27.new⟩,hs2.ext e27,hc2.ext e27⟩,a27.at B1,a27.at B3,e27⟩
 ·rintro pre ⟨y1,y2⟩ W ⟨hOk,hI,hB1,hB3,hX⟩ ⟨hy1,hy2⟩ hW
  dsimp only at hy1 hy2
  have hi1:pre.length<x.2.2.1.length:=by have:=(List.getElem?_eq_some_iff.1 hy1).1;omega
  have hi2:pre.length<x.2.2.2.1.length:=by have:=(List.getElem?_eq_some_iff.1 hy2).1;omega
  have hx1:x.2.2.1[pre.length]? =some x.2.2.1[pre.length]:=List.getElem?_eq_getElem hi1
  have hx2:x.2.2.2.1[pre.length]? =some x.2.2.2.1[pre.length]:=List.getElem?_eq_getElem hi2
  have hS1:=hs3 _ _ _ hy1 hx1
  have hS2:=hc3 _ _ _ hy2 hx2
  have hm1:x.2.2.1[pre.length]∈x.2.2.1:=List.getElem_mem hi1
  have hm2:x.2.2.2.1[pre.length]∈x.2.2.2.1:=List.getElem_mem hi2
  generalize x.2.2.1[pre.length]=s1 at hx1 hS1 hm1
  generalize x.2.2.2.1[pre.length]=s2 at hx2 hS2 hm2
  refine F190b0_ok b1 b3 (270,#[.pointer (some ⟨pb,0,none⟩)]) y1 y2 _ _ _ _ _ W ?_
  intro c1 V2 A2
  refine⟨rfl,store_all (vs:=stC y1) A2.new rfl (stC_one y1) fun V3 U3=>?_⟩
  have E3:Ext W V3:=Ext.fresh A2 U3
  intro c4 V5 A5
  refine⟨rfl,store_all (vs:=stC y2) A5.new rfl (stC_one y2) fun V6 U6=>?_⟩
  have E36:Ext V3 V6:=Ext.fresh A5 U6
  have E6:Ext W V6:=E3.trans E36
  refine⟨rfl,⟨E6.old _ (by omega) id,E6.old _ (by omega) id⟩,fun V15 hS hIt hL=>?_⟩
  have hS36:Stb w27.heap.size W V6:=(Stb.fresh A2 U3 (by omega)).trans (Stb.fresh A5 U6 (by have:=E3.size;omega))
  have X15:Ext w V15:=(hX.trans E6).stbE hS (by omega)
  have C1:=hS.keep _ _ (E36.at U3.new) rfl
  have C4:=hS.keep _ _ U6.new rfl
  have K1:=hS.keep _ _ (E6.at hB1) rfl
  have K3:=hS.keep _ _ (E6.at hB3) rfl
  have I15:=(hI.stb hS36).stb hS
  have zW:=E6.size;have zS:=hS.size
  have qn:∀ {V:World},Ext V15 V->V.cell? ⟨b1,0+1,none⟩=some (iv x.2.1):=fun e=>by rw[<-har];exact boxAt (cs:=clsC v) K1 1 e
  have bad:∀ {V:World},Ext V15 V->¬ClsOk x->#[Value.bool false].size=1/\StoreP V b3 0 [.bool false] fun V'=>(V'.1[w27.heap.size+1]? =V15.1[w27.heap.size+1]? /\V'.1[w27.heap.size]? =V15.1[w27.heap.size]?)/\(Code.ret=.ret/\¬ClsOk x/\V'.heap[b3]? =some (.cells #[.bool false] 4 (0,0))/\Ext w V'):=fun{V} e hn=>by
   refine⟨rfl,store_all (vs:=[.bool false]) (e.at K3) rfl (by intro v hv;rw[List.mem_singleton.1 hv];rfl) fun V' hu=>⟨⟨?_,?_⟩,rfl,hn,hu.new,(X15.trans e).chN hu.ch fun j h=>by omega⟩⟩
   ·exact(hu.old _ (by omega)).trans (e.old _ (by omega) id)
   ·exact(hu.old _ (by omega)).trans (e.old _ (by omega) id)
  have r15:=Ch.refl (fun _=>False) V15
  refine⟨_,boxAt (cs:=stC y1) C1 0 r15,_,qn r15,(c236 (hS1.ext X15).code _).use ?_⟩
  rintro _ V25 ⟨r1,rfl,hr1,E25⟩
  refine⟨r1,rfl,IfB.intro (fun h1=>bad E25 fun k=>?_) fun h1=>?_⟩
  ·have h1:r1=false:=by simpa using h1
   rw[hr1.2 (k.st _ hm1).1] at h1;cases h1
  have k1:=hr1.1 (by simpa using h1)
  refine⟨_,boxAt (cs:=stC y1) C1 1 E25,_,qn E25,(c237 (hS1.ext (X15.trans E25)).foot _).use ?_⟩
  rintro _ V39 ⟨r2,rfl,hr2,E39⟩
  have E1539:Ext V15 V39:=E25.trans E39
  refine⟨r2,rfl,IfB.intro (fun h2=>bad E1539 fun k=>?_) fun h2=>?_⟩
  ·have h2:r2=false:=by simpa using h2
   rw[hr2.2 (k.st _ hm1).2] at h2;cases h2
  have k2:=hr2.1 (by simpa using h2)
  refine⟨y2,boxAll (cs:=stC y2) C4 E1539,_,qn E1539,(c238 (hS2.ext (X15.trans E1539)) _).use ?_⟩
  rintro _ V53 ⟨r3,rfl,hr3,E53⟩
  have E1553:Ext V15 V53:=E1539.trans E53
  refine⟨r3,rfl,IfB.intro (fun h3=>bad E1553 fun k=>?_) fun h3=>?_⟩
  ·have h3:r3=false:=by simpa using h3
   rw[hr3.2 (k.co _ hm2)] at h3;cases h3
  have k3:=hr3.1 (by simpa using h3)
  refine⟨⟨E1553.old _ (by omega) id,E1553.old _ (by omega) id⟩,⟨fun i hi s c hs hc=>?_,I15.ext E1553,E1553.at K1,E1553.at K3,X15.trans E1553⟩,?_⟩
  ·rw[List.length_append,List.length_singleton] at hi
   rcases Nat.lt_or_ge i pre.length with h'|h'
   ·exact hOk i h' s c hs hc
   ·have:i=pre.length:=by omega
    subst this
    rw[hx1] at hs;rw[hx2] at hc
    cases hs;cases hc
    exact⟨k1,k2,k3⟩
  ·exact((Its.ext E6).trans hIt).trans (Its.ext E1553)
 ·rintro xs W hfin ⟨hOk,hI,hB1,hB3,hX⟩ hD
  have hcl:x.2.2.2.1.length=x.2.2.1.length:=by omega
  have hxl:xs.length=x.2.2.1.length:=by rw[hfin,hs1,hc1,hcl,Nat.min_self]
  rw[hxl] at hOk
  have hok:ClsOk x:=by
   refine⟨by rw[<-hnm];omega,by rw[<-hnm];omega,by rw[<-har];omega,by rw[<-har];omega,by omega,by omega,hcl,fun s hs=>?_,fun c hc=>?_⟩
   ·obtain⟨i,hi,rfl⟩:=List.getElem_of_mem hs
    have:=hOk i hi _ _ (List.getElem?_eq_getElem hi) (List.getElem?_eq_getElem (show i<x.2.2.2.1.length by omega))
    exact⟨this.1,this.2.1⟩
   ·obtain⟨i,hi,rfl⟩:=List.getElem_of_mem hc
    exact(hOk i (by omega) _ _ (List.getElem?_eq_getElem (by omega)) (List.getElem?_eq_getElem hi)).2.2
  have hDl:=heap_lt hD
  refine⟨rfl,store_all (vs:=[.bool true]) hB3 rfl (by intro v hv;rw[List.mem_singleton.1 hv];rfl) fun w32 hu=>marks_one (hu.at hD (by omega)) fun w33 hu2=>⟨true,by rw[cell_of (hu2.at hu.new (by omega))];rfl,true,rfl,⟨fun _=>hok,fun _=>rfl⟩,?_⟩⟩
  exact(hX.chN hu.ch fun j e=>by omega).chN hu2.ch fun j e=>by omega
 ·rintro c pre W ⟨rfl,hno,hB3,hX⟩ hD
  refine marks_one hD fun w37 hu=>⟨false,by rw[cell_of (hu.at hB3 (by omega))];rfl,false,rfl,⟨fun h=>(by cases h),fun h=>absurd h hno⟩,?_⟩
  exact hX.chN hu.ch fun j e=>by omega
theorem F219_ok(t0:Int×Int)(t1:Int)(w:World)(R:RV)(h:AllocP w (Obj.cells #[Qz t0.1,Qz t0.2] 93) fun b1 w2=>Qi w2 b1 (0+0) fun n3=>IfB (decide ((-1:Int)<=n3)) (Qi w2 b1 (0+0) fun n4=>IfB (decide (n4<t1)) (Qi w2 b1 (0+1) fun n5=>IfB (decide (0<=n5)) (Qi w2 b1 (0+1) fun n6=>R (Value.bool (decide (n6<=900))) w2) (R (Value.bool false) w2)) (R (Value.bool false) w2)) (R (Value.bool false) w2)):Cw 219 #[Value.agg #[Qz t0.1,Qz t0.2],Qz t1] w R:=
 ckF Tryz.func219 .nil h (by kernel_rfl) (by kernel_rfl)
def F218k4(n11:Int)(w23:World)(b1:Nat)(b7:Nat)(y26:Bool->World->Prop):Prop:=IfB (!n11 == 4) (∃(x107:Int×Int),CellsAt w23 b1 (0+6) [Qz x107.1,Qz x107.2]/\∃(x108:Int×Int),CellsAt w23 b7 0 [Qz x108.1,Qz x108.2]/\∃t109:Bool,EqAt Tryz.prog 93 (Value.agg #[Qz x107.1,Qz x107.2]) (Value.agg #[Qz x108.1,Qz x108.2]) t109/\([]:List Nat)=[]/\y26 (!t109) w23) (([]:List Nat)=[]/\y26 false w23)
def F218k3(n10:Int)(w23:World)(b1:Nat)(b7:Nat)(y26:Bool->World->Prop)(n11:Int):Prop:=IfB (!decide (n10<=4)) (∃(x101:Int×Int),CellsAt w23 b1 (0+4) [Qz x101.1,Qz x101.2]/\∃(x102:Int×Int),CellsAt w23 b7 0 [Qz x102.1,Qz x102.2]/\∃t103:Bool,EqAt Tryz.prog 93 (Value.agg #[Qz x101.1,Qz x101.2]) (Value.agg #[Qz x102.1,Qz x102.2]) t103/\IfB (!t103) (([]:List Nat)=[]/\y26 true w23) (F218k4 n11 w23 b1 b7 y26)) (F218k4 n11 w23 b1 b7 y26)
def F218k2(t15:Bool)(w23:World)(b1:Nat)(y26:Bool->World->Prop)(n10:Int)(b7:Nat)(n11:Int):Prop:=IfB (!t15) (Qi w23 b1 (0+2) fun n90=>IfB (n90 != 0) (([]:List Nat)=[]/\y26 true w23) (Qi w23 b1 (0+3) fun n91=>IfB (n91 != 0) (([]:List Nat)=[]/\y26 true w23) (F218k3 n10 w23 b1 b7 y26 n11))) (F218k3 n10 w23 b1 b7 y26 n11)
def F218k1(t22:Bool)(w23:World)(b1:Nat)(y26:Bool->World->Prop)(t15:Bool)(n10:Int)(b7:Nat)(n11:Int):Prop:=IfB (!t22) (Qi w23 b1 (0+8) fun n69=>IfB (n69 != 0) (([]:List Nat)=[]/\y26 true w23) (F218k2 t15 w23 b1 y26 n10 b7 n11)) (F218k2 t15 w23 b1 y26 n10 b7 n11)
def F218j4(t1:Int)(R:RV)(b1:Nat)(n10:Int)(n11:Int)(t119:Bool)(w120:World):Prop:=IfB t119 (R (Value.bool false) w120) (IfB (!decide (n10<=4)) (IfB (!n11 == 4) (R (Value.bool true) w120) (∃(x123:Int×Int),CellsAt w120 b1 (0+6) [Qz x123.1,Qz x123.2]/\Qv' 219 #[Value.agg #[Qz x123.1,Qz x123.2],Qz t1] w120 fun t126 w125=>R (Value.bool t126) w125)) (∃(x127:Int×Int),CellsAt w120 b1 (0+4) [Qz x127.1,Qz x127.2]/\Qv' 219 #[Value.agg #[Qz x127.1,Qz x127.2],Qz t1] w120 fun t130 w129=>IfB t130 (IfB (!n11 == 4) (R (Value.bool true) w129) (∃(x131:Int×Int),CellsAt w129 b1 (0+6) [Qz x131.1,Qz x131.2]/\Qv' 219 #[Value.agg #[Qz x131.1,Qz x131.2],Qz t1] w129 fun t134 w133=>R (Value.bool t134) w133)) (R (Value.bool false) w129)))
def F218j3(t1:Int)(R:RV)(b1:Nat)(n10:Int)(n11:Int)(t15:Bool)(t110:Bool)(w111:World):Prop:=IfB t110 (R (Value.bool false) w111) (∃(y114:Bool->World->Prop),IfB t15 (Qi w111 b1 (0+2) fun n115=>IfB (decide (n115<0)) (([]:List Nat)=[]/\y114 true w111) (Qi w111 b1 (0+2) fun n116=>IfB (decide (3<n116)) (([]:List Nat)=[]/\y114 true w111) (Qi w111 b1 (0+3) fun n117=>IfB (decide (n117<0)) (([]:List Nat)=[]/\y114 true w111) (Qi w111 b1 (0+3) fun n118=>([]:List Nat)=[]/\y114 (decide (3<n118)) w111)))) (([]:List Nat)=[]/\y114 false w111)/\∀(t119:Bool)(w120:World)(y121:Nat->Value),y114 t119 w120->(F218j4 t1 R b1 n10 n11 t119 w120))
def F218j2(t1:Int)(R:RV)(b1:Nat)(b7:Nat)(n9:Int)(n10:Int)(n11:Int)(t15:Bool)(t22:Bool)(w23:World):Prop:=∃(y26:Bool->World->Prop),IfB (!n9 != 3) (Qi w23 b1 (0+1) fun n27=>IfB (n27 != 0) (([]:List Nat)=[]/\y26 true w23) (F218k1 t22 w23 b1 y26 t15 n10 b7 n11)) (F218k1 t22 w23 b1 y26 t15 n10 b7 n11)/\∀(t110:Bool)(w111:World)(y112:Nat->Value),y26 t110 w111->(F218j3 t1 R b1 n10 n11 t15 t110 w111)
def F218j1(t1:Int)(R:RV)(b1:Nat)(b7:Nat)(n9:Int)(n10:Int)(n11:Int)(t15:Bool)(w16:World):Prop:=∃(y19:Bool->World->Prop),(Qi w16 b1 (0+0) fun n20=>IfB (n20 == 5) (([]:List Nat)=[]/\y19 true w16) (Qi w16 b1 (0+0) fun n21=>([]:List Nat)=[]/\y19 (n21 == 8) w16))/\∀(t22:Bool)(w23:World)(y24:Nat->Value),y19 t22 w23->(F218j2 t1 R b1 b7 n9 n10 n11 t15 t22 w23)
theorem F218_ok(t0:Int×Int×Int×Int×Int×Int×Int×Int×Int)(t1:Int)(w:World)(R:RV)(h:AllocP w (Obj.cells (lC95 t0).toArray 95) fun b1 w2=>Qi w2 b1 (0+0) fun n3=>IfB (decide (n3<1)) (R (Value.bool false) w2) (Qi w2 b1 (0+0) fun n4=>IfB (decide (8<n4)) (R (Value.bool false) w2) (Qi w2 b1 (0+1) fun n5=>IfB (decide (n5<0)) (R (Value.bool false) w2) (Qi w2 b1 (0+1) fun n6=>IfB (decide (3<n6)) (R (Value.bool false) w2) (AllocP w2 (Obj.cells #[Qz 0,Qz 0] 93) fun b7 w8=>Qi w8 b1 (0+0) fun n9=>Qi w8 b1 (0+0) fun n10=>Qi w8 b1 (0+0) fun n11=>∃(y12:Bool->World->Prop),(Qi w8 b1 (0+0) fun n13=>IfB (n13 == 6) (([]:List Nat)=[]/\y12 true w8) (Qi w8 b1 (0+0) fun n14=>([]:List Nat)=[]/\y12 (n14 == 7) w8))/\∀(t15:Bool)(w16:World)(y17:Nat->Value),y12 t15 w16->(F218j1 t1 R b1 b7 n9 n10 n11 t15 w16)))))):Cw 218 #[(.agg (lC95 t0).toArray),Qz t1] w R:=
 ckF Tryz.func218 (nd (nd (nd (nd (nd (nd (.join [(9,ob)] (rg [9,9,38,45]) .nil (.join [(10,ob)] (rg [10,10,46,53]) .nil (.node (.join [(103,ob)] (rg [54,103]) .nil .nil) (.node (.join [(124,ob)] (rg [104,124]) .nil .nil) .nil)))))))))) h (by kernel_rfl) (by kernel_rfl)
def F172j1(t0:Sl)(t1:Int)(R:RV)(y1:Nat->Int->World->Prop)(b3:Nat)(n4:Int)(w5:World):Prop:=IfB (decide (n4<(t0.n:Int))) (Qx t0.1 n4 (t0.2:Int) fun b8 b9=>∃(x10:Int×Int×Int×Int×Int×Int×Int×Int×Int),CellsAt w5 b8 (b9+n4.toNat*9) (lC95 x10)/\Qv' 218 #[Value.agg (lC95 x10).toArray,Qz t1] w5 fun t13 w12=>IfB (!t13) (R (Value.bool false) w12) (Qn y1 b3 (IntKind.i64.wrap (n4+1)) w12)) (R (Value.bool true) w5)
theorem F172_ok(t0:Sl)(t1:Int)(w:World)(R:RV)(h:IfB (decide (t1<0)) (R (Value.bool false) w) (IfB (decide (3<t1)) (R (Value.bool false) w) (IfB (decide ((t0.n:Int)<1)) (R (Value.bool false) w) (IfB (decide (8<(t0.n:Int))) (R (Value.bool false) w) (Ql (α:=Int) 0 w fun y1 b3 n4 w5=>(F172j1 t0 t1 R y1 b3 n4 w5)))))):Cw 172 #[Qy t0,Qz t1] w R:=
 ckF Tryz.func172 (nd (nd (.node (nd (.loop [(5,oi)] (rg [4,5,22,34]) .nil)) .nil))) h (by kernel_rfl) (by kernel_rfl)
def F173j1(t0:Sl)(t1:Int)(R:RV)(y1:Nat->Int->World->Prop)(b3:Nat)(n4:Int)(w5:World):Prop:=IfB (decide (n4<(t0.n:Int))) (Qx t0.1 n4 (t0.2:Int) fun b8 b9=>∃(x10:Int×Int),CellsAt w5 b8 (b9+n4.toNat*5+0) [Qz x10.1,Qz x10.2]/\Qv' 219 #[Value.agg #[Qz x10.1,Qz x10.2],Qz t1] w5 fun t13 w12=>IfB (!t13) (R (Value.bool false) w12) (Qx t0.1 n4 (t0.2:Int) fun b14 b15=>∃(x16:Int×Int),CellsAt w12 b14 (b15+n4.toNat*5+2) [Qz x16.1,Qz x16.2]/\Qv' 219 #[Value.agg #[Qz x16.1,Qz x16.2],Qz t1] w12 fun t19 w18=>IfB (!t19) (R (Value.bool false) w18) (Qn y1 b3 (IntKind.i64.wrap (n4+1)) w18))) (R (Value.bool true) w5)
theorem F173_ok(t0:Sl)(t1:Int)(w:World)(R:RV)(h:IfB (decide (t1<0)) (R (Value.bool false) w) (IfB (decide (3<t1)) (R (Value.bool false) w) (IfB (decide (4<(t0.n:Int))) (R (Value.bool false) w) (Ql (α:=Int) 0 w fun y1 b3 n4 w5=>(F173j1 t0 t1 R y1 b3 n4 w5))))):Cw 173 #[Qy t0,Qz t1] w R:=
 ckF Tryz.func173 (nd (nd (.node (nd (.loop [(5,oi)] (rg [4,5,17,40]) .nil)) .nil))) h (by kernel_rfl) (by kernel_rfl)
def F115j2(R:RV)(y9:Nat->Int->World->Prop)(b11:Nat)(n12:Int)(s43:Sl)(y48:Nat->Int->World->Prop)(b50:Nat)(n51:Int)(w52:World):Prop:=IfB (decide (n51<(s43.n:Int))) (Qx s43.1 n51 (s43.2:Int) fun b55 b56=>Qi w52 b55 (b56+n51.toNat*9+0) fun n57=>IfB (decide (6<=n57)) (R (Value.bool false) w52) (Qn y48 b50 (IntKind.i64.wrap (n51+1)) w52)) (Qn y9 b11 (IntKind.i64.wrap (n12+1)) w52)
def F115j3(R:RV)(y9:Nat->Int->World->Prop)(b11:Nat)(n12:Int)(s43:Sl)(y60:Nat->Int->World->Prop)(b62:Nat)(n63:Int)(w64:World):Prop:=IfB (decide (n63<(s43.n:Int))) (Qx s43.1 n63 (s43.2:Int) fun b67 b68=>Qi w64 b67 (b68+n63.toNat*9+0) fun n69=>IfB (decide (6<=n69)) (R (Value.bool false) w64) (Qn y60 b62 (IntKind.i64.wrap (n63+1)) w64)) (Qn y9 b11 (IntKind.i64.wrap (n12+1)) w64)
def F115k1(w13:World)(b1:Nat)(n12:Int)(R:RV)(y9:Nat->Int->World->Prop)(b11:Nat):Prop:=Qs w13.drew b1 (0+2) fun s16=>Qx s16.1 n12 (s16.2:Int) fun b17 b18=>Qs w13.drew b17 (b18+n12.toNat*2+0) fun s19=>Qi w13.drew b1 (0+1) fun n20=>Qv' 172 #[Qy s19,Qz n20] w13.drew fun t23 w22=>IfB (!t23) (R (Value.bool false) w22) (Qs w22 b1 (0+2) fun s24=>Qx s24.1 n12 (s24.2:Int) fun b25 b26=>Qs w22 b25 (b26+n12.toNat*2+1) fun s27=>Qi w22 b1 (0+1) fun n28=>Qv' 173 #[Qy s27,Qz n28] w22 fun t31 w30=>IfB (!t31) (R (Value.bool false) w30) (Qs w30 b1 (0+3) fun s32=>Qx s32.1 n12 (s32.2:Int) fun b33 b34=>Qs w30 b33 (b34+n12.toNat*2+1) fun s35=>Qi w30 b1 (0+1) fun n36=>Qv' 173 #[Qy s35,Qz n36] w30 fun t39 w38=>IfB (!t39) (R (Value.bool false) w38) (Qs w38 b1 (0+3) fun s40=>Qx s40.1 n12 (s40.2:Int) fun b41 b42=>Qs w38 b41 (b42+n12.toNat*2+0) fun s43=>IfB (decide (0<(s43.n:Int))) (Qi w38 b1 (0+1) fun n44=>Qv' 172 #[Qy s43,Qz n44] w38 fun t47 w46=>IfB (!t47) (R (Value.bool false) w46) (Ql (α:=Int) 0 w46 fun y48 b50 n51 w52=>(F115j2 R y9 b11 n12 s43 y48 b50 n51 w52))) (Ql (α:=Int) 0 w38 fun y60 b62 n63 w64=>(F115j3 R y9 b11 n12 s43 y60 b62 n63 w64)))))
def F115j1(R:RV)(b1:Nat)(s3:Sl)(y9:Nat->Int->World->Prop)(b11:Nat)(n12:Int)(w13:World):Prop:=IfB (decide (n12<(s3.n:Int))) (F115k1 w13 b1 n12 R y9 b11) (R (Value.bool true) w13)
theorem F115_ok(t0:ByteArray×Int×Sl×Sl×Bool)(w:World)(R:RV)(h:AllocP w (Obj.cells (lC49 t0).toArray 49) fun b1 w2=>Qs w2 b1 (0+2) fun s3=>∃z4:ByteArray,w2.cell? ⟨b1,0+0,none⟩=some (Value.string z4)/\IfB (decide ((z4.size:Int)<1)) (R (Value.bool false) w2) (∃z5:ByteArray,w2.cell? ⟨b1,0+0,none⟩=some (Value.string z5)/\IfB (decide (16<(z5.size:Int))) (R (Value.bool false) w2) (Qi w2 b1 (0+1) fun n6=>IfB (decide (n6<0)) (R (Value.bool false) w2) (Qi w2 b1 (0+1) fun n7=>IfB (decide (3<n7)) (R (Value.bool false) w2) (IfB (decide ((s3.n:Int)<1)) (R (Value.bool false) w2) (IfB (decide (4<(s3.n:Int))) (R (Value.bool false) w2) (Qs w2 b1 (0+3) fun s8=>IfB ((s8.2:Int) != (s3.2:Int)) (R (Value.bool false) w2) (Ql (α:=Int) 0 w2 fun y9 b11 n12 w13=>(F115j1 R b1 s3 y9 b11 n12 w13))))))))):Cw 115 #[(.agg (lC49 t0).toArray)] w R:=
 ckF Tryz.func115 (nd (nd (nd (.node (nd (.loop [(4,oi)] (rg [2,2,4,6,45,111]) (nd (.node (.node (.node (.draw (sts [0,1,2,3,4,5,6,7] (.ac 8 [] (sts [9,10,11,12,13,14,15,16,17,18] (.ac 19 [] (sts [20,21,22,23,24,25,26,27,28,29,30] (.ac 31 [] (sts [32,33] .fin) .non)) .non)) .non))) .nil) (nd (nd (nd (.loop [(6,oi)] (rg [2,2,6,6,100,111]) .nil))))) .nil)))) .nil)))) h (by kernel_rfl) (by kernel_rfl)
theorem F240_ok(t0:Int)(t1:Int)(w:World)(R:RV)(h:Ql (α:=Int×Int) (t0,0) w fun y1 b3 x4 w5=>IfB (decide (x4.snd<t1)) (¬(2:Int)=0/\Qn y1 b3 (IntKind.i64.wrap (x4.1.tdiv 2),IntKind.i64.wrap (x4.2+1)) w5) (¬(2:Int)=0/\R (Value.bool (x4.1.tmod (2:Int) == 1)) w5)):Cw 240 #[Qz t0,Qz t1] w R:=
 ckF Tryz.func240 (nd (.node (nd (.loop [(0,oi),(5,oi)] (rg [0,0,5,12]) .nil)) .nil)) h (by kernel_rfl) (by kernel_rfl)
theorem F194_ok(t0:Sl×List Value)(t1:Int)(t2:Int)(t3:Int)(w:World)(R:RV)(h:AllocP w (Obj.cells { toList:=Qy t0.fst::t0.2 } 26) fun b1 w2=>Qs w2 b1 (0+0) fun s3=>IfB (decide (0<=t1)) (IfB (decide (t1<(s3.n:Int))) (IfB (decide (t1<4)) (IfB (decide (0<=t2)) (IfB (decide (t2<(s3.n:Int))) (IfB (decide (t2<4)) (IfB (decide (0<=t3)) (Qs w2 b1 (0+0) fun s4=>Qx s4.1 t1 (s4.2:Int) fun b5 b6=>Qs w2 b5 (b6+t1.toNat*5+2) fun s7=>IfB (decide (IntKind.i64.wrap (t3+1)<(s7.n:Int))) ((0<=t1/\t1<((4:Nat):Int))/\(0<=t2/\t2<((4:Nat):Int))/\Qi w2 b1 (0+1+t1.toNat*4+t2.toNat) fun n8=>Qv' 240 #[Qz n8,Qz t3] w2 fun t11 w10=>R (Value.bool t11) w10) (R (Value.bool false) w2)) (R (Value.bool false) w2)) (R (Value.bool false) w2)) (R (Value.bool false) w2)) (R (Value.bool false) w2)) (R (Value.bool false) w2)) (R (Value.bool false) w2)) (R (Value.bool false) w2)):Cw 194 #[Value.agg { toList:=Qy t0.fst::t0.2 },Qz t1,Qz t2,Qz t3] w R:=
 ckF Tryz.func194 .nil h (by kernel_rfl) (by kernel_rfl)
def F53j2(R:RV)(b1:Nat)(y4:Nat->Int->World->Prop)(b6:Nat)(n7:Int)(y18:Nat->Int->World->Prop)(b20:Nat)(n21:Int)(w22:World):Prop:=IfB (decide (n21<n7)) (Qs w22.drew b1 (0+0) fun s25=>Qx s25.1 n21 (s25.2:Int) fun b26 b27=>∃z28:ByteArray,w22.drew.cell? ⟨b26,b27+n21.toNat*5+0,none⟩=some (Value.string z28)/\Qs w22.drew b1 (0+0) fun s29=>Qx s29.1 n7 (s29.2:Int) fun b30 b31=>∃z32:ByteArray,w22.drew.cell? ⟨b30,b31+n7.toNat*5+0,none⟩=some (Value.string z32)/\IfB (z28.toList == z32.toList) (R (Value.bool false) w22.drew) (Qn y18 b20 (IntKind.i64.wrap (n21+1)) w22.drew)) (Qn y4 b6 (IntKind.i64.wrap (n7+1)) w22)
def F53j5(R:RV)(b1:Nat)(n38:Int)(y42:Nat->Int->World->Prop)(b44:Nat)(n45:Int)(y49:Nat->Int×Int->World->Prop)(b51:Nat)(x52:Int×Int)(w53:World):Prop:=Qs w53 b1 (0+0) fun s56=>Qx s56.1 n38 (s56.2:Int) fun b57 b58=>Qs w53 b57 (b58+n38.toNat*5+2) fun s59=>IfB (decide (x52.snd<(s59.n:Int))) (Qn y49 b51 (IntKind.i64.wrap (2*x52.1),IntKind.i64.wrap (x52.2+1)) w53) ((0<=n38/\n38<((4:Nat):Int))/\(0<=n45/\n45<((4:Nat):Int))/\Qi w53 b1 (0+1+n38.toNat*4+n45.toNat) fun n61=>IfB (decide (n61<0)) (R (Value.bool false) w53) ((0<=n38/\n38<((4:Nat):Int))/\(0<=n45/\n45<((4:Nat):Int))/\Qi w53 b1 (0+1+n38.toNat*4+n45.toNat) fun n62=>IfB (decide (x52.fst<=n62)) (R (Value.bool false) w53) (Qn y42 b44 (IntKind.i64.wrap (n45+1)) w53)))
def F53k1(n38:Int)(n45:Int)(w46:World)(b1:Nat)(R:RV)(b44:Nat)(y42:Nat->Int->World->Prop):Prop:=(0<=n38/\n38<((4:Nat):Int))/\(0<=n45/\n45<((4:Nat):Int))/\Qi w46 b1 (0+1+n38.toNat*4+n45.toNat) fun n67=>IfB (decide (n67<0)) (R (Value.bool false) w46) ((0<=n38/\n38<((4:Nat):Int))/\(0<=n45/\n45<((4:Nat):Int))/\Qi w46 b1 (0+1+n38.toNat*4+n45.toNat) fun n68=>IfB (decide (1<=n68)) (R (Value.bool false) w46) (Qn y42 b44 (IntKind.i64.wrap (n45+1)) w46))
def F53j4(R:RV)(b1:Nat)(s3:Sl)(y35:Nat->Int->World->Prop)(b37:Nat)(n38:Int)(y42:Nat->Int->World->Prop)(b44:Nat)(n45:Int)(w46:World):Prop:=IfB (decide (n45<4)) (IfB (decide (n38<(s3.n:Int))) (IfB (decide (n45<(s3.n:Int))) (Ql (α:=Int×Int) (1,1) w46 fun y49 b51 x52 w53=>(F53j5 R b1 n38 y42 b44 n45 y49 b51 x52 w53)) (F53k1 n38 n45 w46 b1 R b44 y42)) (F53k1 n38 n45 w46 b1 R b44 y42)) (Qn y35 b37 (IntKind.i64.wrap (n38+1)) w46)
def F53j1(R:RV)(b1:Nat)(s3:Sl)(y4:Nat->Int->World->Prop)(b6:Nat)(n7:Int)(w8:World):Prop:=IfB (decide (n7<(s3.n:Int))) (Qs w8 b1 (0+0) fun s11=>Qx s11.1 n7 (s11.2:Int) fun b12 b13=>∃(x14:ByteArray×Int×Sl×Sl×Bool),CellsAt w8 b12 (b13+n7.toNat*5) (lC49 x14)/\Qv' 115 #[Value.agg (lC49 x14).toArray] w8 fun t17 w16=>IfB (!t17) (R (Value.bool false) w16) (Ql (α:=Int) 0 w16 fun y18 b20 n21 w22=>(F53j2 R b1 y4 b6 n7 y18 b20 n21 w22))) (Ql (α:=Int) 0 w8 fun y35 b37 n38 w39=>IfB (decide (n38<4)) (Ql (α:=Int) 0 w39 fun y42 b44 n45 w46=>(F53j4 R b1 s3 y35 b37 n38 y42 b44 n45 w46)) (R (Value.bool true) w39))
theorem F53_ok(t0:Sl×List Value)(w:World)(R:RV)(h:AllocP w (Obj.cells { toList:=Qy t0.fst::t0.2 } 26) fun b1 w2=>Qs w2 b1 (0+0) fun s3=>IfB (decide ((s3.n:Int)<1)) (R (Value.bool false) w2) (IfB (decide (4<(s3.n:Int))) (R (Value.bool false) w2) (Ql (α:=Int) 0 w2 fun y4 b6 n7 w8=>(F53j1 R b1 s3 y4 b6 n7 w8)))):Cw 53 #[Value.agg { toList:=Qy t0.fst::t0.2 }] w R:=
 ckF Tryz.func53 (nd (nd (nd (.node (nd (.loop [(4,oi)] (rg [2,2,4,5,19,48]) (nd (.node (nd (nd (.loop [(5,oi)] (rg [2,2,5,5,31,48]) (nd (.node (.node (.draw (sts [0,1,2,3,4,5,6,7,8,9,10,11,12] .fin)) .nil) .nil))))) .nil)))) (.node (nd (.loop [(6,oi)] (rg [2,2,6,9,49,94]) (nd (.node (nd (.loop [(7,oi)] (rg [2,2,7,9,53,94]) (nd (.node (nd (.node (nd (.node (nd (.loop [(8,oi),(9,oi)] (rg [8,9,65,77]) .nil)) .nil)) .nil)) .nil)))) .nil)))) .nil))))) h (by kernel_rfl) (by kernel_rfl)
theorem eqKey(x y:KeyD):EqAt Tryz.prog 93 (.agg #[.int .i64 x.1,.int .i64 x.2]) (.agg #[.int .i64 y.1,.int .i64 y.2]) (x == y):=by
 have h:=eqAt_struct tbOk (d:=2) (by decide) (t:=93) (xs:=#[.int .i64 x.1,.int .i64 x.2]) (ys:=#[.int .i64 y.1,.int .i64 y.2]) (b:=(x.1 == y.1)&&((x.2 == y.2)&&true)) (by kernel_rfl) (by kernel_rfl)
 have e:(x == y)=((x.1 == y.1)&&((x.2 == y.2)&&true)):=by rw[Bool.and_true];rfl
 rw[e];exact h
theorem c219(k:KeyD)(n:Int)(w:World):Cw 219 #[keyV k,iv n] w fun v w'=>∃r,v=.bool r/\(r=true↔KeyOk k n)/\Ext w w':=by
 refine F219_ok k n w _ fun b1 w2 a2=>?_
 have e2:Ext w w2:=a2.ch _
 have q:=fun(o:Nat)=>boxAt (cs:=keyC k) a2.new o (Ch.refl _ _)
 refine⟨_,q 0,IfB.dec (fun h1=>⟨_,q 0,IfB.dec (fun h2=>⟨_,q 1,IfB.dec (fun h3=>⟨_,q 1,_,rfl,?_,e2⟩) fun h3=>⟨false,rfl,⟨fun h=>(by cases h),fun h=>absurd h.2.2.1 h3⟩,e2⟩⟩) fun h2=>⟨false,rfl,⟨fun h=>(by cases h),fun h=>absurd h.2.1 h2⟩,e2⟩⟩) fun h1=>⟨false,rfl,⟨fun h=>(by cases h),fun h=>absurd h.1 h1⟩,e2⟩⟩
 rw[decide_eq_true_eq]
 exact⟨fun h=>⟨h1,h2,h3,h⟩,fun h=>h.2.2.2⟩
def badI(x:InsD):Prop:=(x.1=3/\x.2.1≠0)\/(¬(x.1=5\/x.1=8)/\x.2.2.2.2.2.2≠0)\/(¬(x.1=6\/x.1=7)/\(x.2.2.1≠0\/x.2.2.2.1≠0))\/(¬x.1<=4/\x.2.2.2.2.1≠(0,0))\/(x.1≠4/\x.2.2.2.2.2.1≠(0,0))
theorem insOk_of{x:InsD}{n:Int}(h1:1<=x.1)(h2:x.1<=8)(h3:0<=x.2.1)(h4:x.2.1<=3)(h5:¬badI x)(h6:¬((x.1=6\/x.1=7)/\(x.2.2.1<0\/3<x.2.2.1\/x.2.2.2.1<0\/3<x.2.2.2.1))):
  InsOk x n↔(x.1<=4->KeyOk x.2.2.2.2.1 n)/\(x.1=4->KeyOk x.2.2.2.2.2.1 n):=by
 unfold badI at h5
 refine⟨fun h=>⟨h.ko,h.lo⟩,fun⟨k1,k2⟩=>⟨h1,h2,h3,h4,fun h=>?_,fun h h'=>?_,fun h h'=>?_,fun h=>?_,fun h=>?_,fun h=>by omega,k1,k2⟩⟩
 ·exact Classical.byContradiction fun h'=>h5 (.inl ⟨h,h'⟩)
 ·exact Classical.byContradiction fun h''=>h5 (.inr (.inl ⟨by omega,h''⟩))
 ·exact Classical.byContradiction fun h''=>h5 (.inr (.inr (.inl ⟨by omega,by omega⟩)))
 ·have:x.2.2.2.2.1=(0,0):=Classical.byContradiction fun h'=>h5 (.inr (.inr (.inr (.inl ⟨by omega,h'⟩))))
  rw[this];exact⟨rfl,rfl⟩
 ·have:x.2.2.2.2.2.1=(0,0):=Classical.byContradiction fun h'=>h5 (.inr (.inr (.inr (.inr ⟨h,h'⟩))))
  rw[this];exact⟨rfl,rfl⟩
theorem insOk_bad{x:InsD}{n:Int}(h:InsOk x n):¬badI x:=by
 rintro(⟨h1,h2⟩|⟨h1,h2⟩|⟨h1,h2⟩|⟨h1,h2⟩|⟨h1,h2⟩)
 ·exact h2 (h.da h1)
 ·exact h2 (h.xx (by omega) (by omega))
 ·have:=h.bc (by omega) (by omega);omega
 ·have:=h.kk (by omega);exact h2 (Prod.ext this.1 this.2)
 ·have:=h.ll h1;exact h2 (Prod.ext this.1 this.2)
theorem c218(x:InsD)(n:Int)(w:World):Cw 218 #[insV x,iv n] w fun v w'=>∃r,v=.bool r/\(r=true↔InsOk x n)/\Ext w w':=by
 refine F218_ok (insX x) n w _ fun b1 w2 a2=>?_
 have e2:Ext w w2:=a2.ch _
 have q:=fun{W:World} (o:Nat) (e:Ext w2 W)=>boxAt (cs:=insC x) a2.new o e
 have r2:=Ch.refl (fun _=>False) w2
 have no:∀ {V:World},¬InsOk x n->Ext w V->∃b,Value.bool false=.bool b/\(b=true↔InsOk x n)/\Ext w V:=fun h e=>⟨false,rfl,⟨fun h=>(by cases h),fun h'=>absurd h' h⟩,e⟩
 refine⟨_,q 0 r2,IfB.dec (fun h1=>no (fun k=>by have:=k.o1;omega) e2) fun h1=>⟨_,q 0 r2,IfB.dec (fun h2=>no (fun k=>by have:=k.o8;omega) e2) fun h2=>⟨_,q 1 r2,IfB.dec (fun h3=>no (fun k=>by have:=k.a0;omega) e2) fun h3=>⟨_,q 1 r2,IfB.dec (fun h4=>no (fun k=>by have:=k.a3;omega) e2) fun h4 b7 w8 a8=>?_⟩⟩⟩⟩
 have e8:Ext w2 w8:=a8.ch _
 have X8:Ext w w8:=e2.trans e8
 have K:=fun{W:World} (e:Ext w8 W)=>cellsAt_of (l:=keyC x.2.2.2.2.1) (o:=0+4) (Ext.at (e8.trans e) a2.new) fun i v hv=>by
  match i,hv with
  | 0,hv=>exact hv
  | 1,hv=>exact hv
 have L:=fun{W:World} (e:Ext w8 W)=>cellsAt_of (l:=keyC x.2.2.2.2.2.1) (o:=0+6) (Ext.at (e8.trans e) a2.new) fun i v hv=>by
  match i,hv with
  | 0,hv=>exact hv
  | 1,hv=>exact hv
 have Z:=boxAll (cs:=keyC (0,0)) a8.new (Ch.refl _ _)
 have r8:=Ch.refl (fun _=>False) w8
 refine⟨_,q 0 e8,_,q 0 e8,_,q 0 e8,fun t W=>w8=W/\(t=true↔x.1=6\/x.1=7),⟨_,q 0 e8,IfB.intro (fun h=>⟨rfl,rfl,⟨fun _=>.inl (by simpa using h),fun _=>rfl⟩⟩) fun h=>⟨_,q 0 e8,rfl,rfl,?_⟩⟩,?_⟩
 ·have h:¬x.1=6:=by simpa using h
  rw[beq_iff_eq];exact⟨.inr,fun h'=>h'.resolve_left h⟩
 rintro hbc _ g ⟨rfl,hbc'⟩
 refine⟨fun t W=>w8=W/\(t=true↔x.1=5\/x.1=8),⟨_,q 0 e8,IfB.intro (fun h=>⟨rfl,rfl,⟨fun _=>.inl (by simpa using h),fun _=>rfl⟩⟩) fun h=>⟨_,q 0 e8,rfl,rfl,?_⟩⟩,?_⟩
 ·have h:¬x.1=5:=by simpa using h
  rw[beq_iff_eq];exact⟨.inr,fun h'=>h'.resolve_left h⟩
 rintro hx _ g ⟨rfl,hx'⟩
 have yes:∀ {P:Prop},P->([]:List Nat)=[]/\w8=w8/\(true=true↔P):=fun h=>⟨rfl,rfl,fun _=>h,fun _=>rfl⟩
 refine⟨fun t W=>w8=W/\(t=true↔badI x),?_,?_⟩
 ·have k4:¬(x.1=3/\x.2.1≠0)->¬(¬(x.1=5\/x.1=8)/\x.2.2.2.2.2.2≠0)->¬(¬(x.1=6\/x.1=7)/\(x.2.2.1≠0\/x.2.2.2.1≠0))->¬(¬x.1<=4/\x.2.2.2.2.1≠(0,0))->F218k4 x.1 w8 b1 b7 (fun t W=>w8=W/\(t=true↔badI x)):=fun g1 g2 g3 g4=>by
   refine IfB.intro (fun h=>⟨_,L r8,(0,0),Z,_,eqKey _ _,rfl,rfl,?_⟩) fun h=>⟨rfl,rfl,fun h'=>(by cases h'),fun h'=>?_⟩
   ·have h:¬x.1=4:=by simpa using h
    rw[Bool.not_eq_true',beq_eq_false_iff_ne]
    exact⟨fun h'=>.inr (.inr (.inr (.inr ⟨h,h'⟩))),fun h'=>by
     rcases h' with h'|h'|h'|h'|h'
     ·exact absurd h' g1
     ·exact absurd h' g2
     ·exact absurd h' g3
     ·exact absurd h' g4
     ·exact h'.2⟩
   ·have h:x.1=4:=by simpa using h
    rcases h' with h'|h'|h'|h'|h'
    ·exact absurd h' g1
    ·exact absurd h' g2
    ·exact absurd h' g3
    ·exact absurd h' g4
    ·exact absurd h h'.1
  have k3:¬(x.1=3/\x.2.1≠0)->¬(¬(x.1=5\/x.1=8)/\x.2.2.2.2.2.2≠0)->¬(¬(x.1=6\/x.1=7)/\(x.2.2.1≠0\/x.2.2.2.1≠0))->F218k3 x.1 w8 b1 b7 (fun t W=>w8=W/\(t=true↔badI x)) x.1:=fun g1 g2 g3=>by
   refine IfB.intro (fun h=>⟨_,K r8,(0,0),Z,_,eqKey _ _,IfB.intro (fun h'=>yes ?_) fun h'=>k4 g1 g2 g3 fun h''=>?_⟩) fun h=>k4 g1 g2 g3 fun h''=>?_
   ·have h:¬x.1<=4:=by simpa using h
    exact .inr (.inr (.inr (.inl ⟨h,by simpa using h'⟩)))
   ·have h':x.2.2.2.2.1=(0,0):=by simpa using h'
    exact h''.2 h'
   ·have h:x.1<=4:=by simpa using h
    exact h''.1 h
  have k2:¬(x.1=3/\x.2.1≠0)->¬(¬(x.1=5\/x.1=8)/\x.2.2.2.2.2.2≠0)->F218k2 hbc w8 b1 (fun t W=>w8=W/\(t=true↔badI x)) x.1 b7 x.1:=fun g1 g2=>by
   refine IfB.intro (fun h=>?_) fun h=>k3 g1 g2 fun h'=>h'.1 (hbc'.1 (by simpa using h))
   have h:¬(x.1=6\/x.1=7):=fun h'=>by rw[hbc'.2 h'] at h;cases h
   refine⟨_,q 2 e8,IfB.intro (fun h1=>yes (.inr (.inr (.inl ⟨h,.inl (by simpa using h1)⟩)))) fun h1=>⟨_,q 3 e8,IfB.intro (fun h2=>yes (.inr (.inr (.inl ⟨h,.inr (by simpa using h2)⟩)))) fun h2=>k3 g1 g2 fun h'=>?_⟩⟩
   have h1:x.2.2.1=0:=by simpa using h1
   have h2:x.2.2.2.1=0:=by simpa using h2
   have:=h'.2;omega
  have k1:¬(x.1=3/\x.2.1≠0)->F218k1 hx w8 b1 (fun t W=>w8=W/\(t=true↔badI x)) hbc x.1 b7 x.1:=fun g1=>by
   refine IfB.intro (fun h=>?_) fun h=>k2 g1 fun h'=>h'.1 (hx'.1 (by simpa using h))
   have h:¬(x.1=5\/x.1=8):=fun h'=>by rw[hx'.2 h'] at h;cases h
   refine⟨_,q 8 e8,IfB.intro (fun h1=>yes (.inr (.inl ⟨h,by simpa using h1⟩))) fun h1=>k2 g1 fun h'=>?_⟩
   have h1:x.2.2.2.2.2.2=0:=by simpa using h1
   exact h'.2 h1
  refine IfB.intro (fun h=>?_) fun h=>k1 fun h'=>?_
  ·have h:x.1=3:=by simpa using h
   refine⟨_,q 1 e8,IfB.intro (fun h1=>yes (.inl ⟨h,by simpa using h1⟩)) fun h1=>k1 fun h'=>?_⟩
   have h1:x.2.1=0:=by simpa using h1
   exact h'.2 h1
  ·have h:¬x.1=3:=by simpa using h
   exact h h'.1
 rintro t1 _ g ⟨rfl,ht1⟩
 refine IfB.intro (fun h=>no (fun k=>insOk_bad k (ht1.1 h)) X8) fun h=>?_
 have hbad:¬badI x:=fun h'=>by rw[ht1.2 h'] at h;cases h
 refine⟨fun t W=>w8=W/\(t=true↔(x.1=6\/x.1=7)/\(x.2.2.1<0\/3<x.2.2.1\/x.2.2.2.1<0\/3<x.2.2.2.1)),IfB.intro (fun hb=>?_) fun hb=>⟨rfl,rfl,fun h'=>(by cases h'),fun h'=>?_⟩,?_⟩
 ·have hb:=hbc'.1 hb
  refine⟨_,q 2 e8,IfB.dec (fun g1=>yes ⟨hb,.inl g1⟩) fun g1=>⟨_,q 2 e8,IfB.dec (fun g2=>yes ⟨hb,.inr (.inl g2)⟩) fun g2=>⟨_,q 3 e8,IfB.dec (fun g3=>yes ⟨hb,.inr (.inr (.inl g3))⟩) fun g3=>⟨_,q 3 e8,rfl,rfl,?_⟩⟩⟩⟩
  rw[decide_eq_true_eq]
  exact⟨fun h=>⟨hb,.inr (.inr (.inr h))⟩,fun h=>by omega⟩
 ·have hb:hbc=false:=hb
  rw[hbc'.2 h'.1] at hb;cases hb
 rintro t2 _ g ⟨rfl,ht2⟩
 unfold F218j4
 refine IfB.intro (fun h=>no (fun k=>?_) X8) fun h=>?_
 ·obtain⟨g1,g2⟩:=ht2.1 h
  have:=k.b3 g1;omega
 have hok:=insOk_of (n:=n) (by omega) (by omega) (by omega) (by omega) hbad fun h'=>by rw[ht2.2 h'] at h;cases h
 refine IfB.intro (fun h4'=>?_) fun h4'=>⟨_,K r8,(c219 x.2.2.2.2.1 n w8).use ?_⟩
 ·have h4':¬x.1<=4:=by simpa using h4'
  refine IfB.intro (fun h5=>⟨true,rfl,⟨fun _=>hok.2 ⟨fun h=>absurd h h4',fun h=>absurd (show x.1<=4 by omega) h4'⟩,fun _=>rfl⟩,X8⟩) fun h5=>?_
  have h5:x.1=4:=by simpa using h5
  omega
 ·have h4':x.1<=4:=by simpa using h4'
  rintro _ w129 ⟨r,rfl,hr,e129⟩
  refine⟨r,rfl,IfB.intro (fun h6=>IfB.intro (fun h5=>⟨true,rfl,⟨fun _=>hok.2 ⟨fun _=>hr.1 h6,fun h=>?_⟩,fun _=>rfl⟩,X8.trans e129⟩) fun h5=>⟨_,L e129,(c219 x.2.2.2.2.2.1 n w129).use ?_⟩) fun h6=>no (fun k=>?_) (X8.trans e129)⟩
  ·have h5:¬x.1=4:=by simpa using h5
   exact absurd h h5
  ·rintro _ w133 ⟨r',rfl,hr',e133⟩
   have h5:x.1=4:=by simpa using h5
   exact⟨r',rfl,r',rfl,hr'.trans ⟨fun h=>hok.2 ⟨fun _=>hr.1 h6,fun _=>h⟩,fun h=>h.lo h5⟩,(X8.trans e129).trans e133⟩
  ·have h6:r=false:=h6
   rw[hr.2 (k.ko h4')] at h6;cases h6
def GxOEby0:ByteArray:=(ByteArray.mk (Array.mk ([] )))
set_option linter.unusedVariables false
set_option maxRecDepth 100000
theorem F81_ok(t0:ByteArray×Int×Sl×Sl×Bool)(w:World)(R:RV)(h:AllocP w (Obj.cells (lC49 t0).toArray 49) fun b1 w2=>Qs w2 b1 (0+2) fun s3=>(0<=if IntKind.i64.wrap ((s3.n:Int)-1)<0 then 0 else IntKind.i64.wrap ((s3.2:Int)-1))/\R (Qz (IntKind.i64.wrap (IntKind.i64.wrap (1*2^min (if IntKind.i64.wrap ((s3.n:Int)-1)<0 then 0 else IntKind.i64.wrap ((s3.2:Int)-1)).toNat IntKind.i64.bits)-1))) w2):Cw 81 #[(.agg (lC49 t0).toArray)] w R:=
 ckF Tryz.func81 .nil h (by kernel_rfl) (by kernel_rfl)
theorem F148_ok(t0:Sl×List Value)(w:World)(R:RV)(h:AllocP w (Obj.cells { toList:=Qy t0.fst::t0.2 } 26) fun b1 w2=>R (Value.func (Fn.func 198) #[] #[Value.pointer (some ⟨b1,0,none⟩)]) w2):Cw 148 #[Value.agg { toList:=Qy t0.fst::t0.2 }] w R:=
 ckF Tryz.func148 .nil h (by kernel_rfl) (by kernel_rfl)
def F198j2(t0:Nat)(R:RV)(s1:Sl)(y2:Nat->Int->World->Prop)(b4:Nat)(n5:Int)(y9:Nat->Int->World->Prop)(b11:Nat)(n12:Int)(w13:World):Prop:=IfB (decide (n12<if 4<(s1.n:Int) then 4 else (s1.n:Int))) (YW Tryz.prog t0 #[Qz n5,Qz n12] w13 fun(t16:Bool) (w17:World)=>IfB (!t16) (R (Value.tuple #[]) w17) (Qn y9 b11 (IntKind.i64.wrap (n12+1)) w17)) (Qn y2 b4 (IntKind.i64.wrap (n5+1)) w13)
theorem F198_ok(t0:Nat)(t1:Nat)(w:World)(R:RV)(h:∃s1:Sl,w.cell? ⟨t1,0+0,none⟩=some (Qy s1)/\Ql (α:=Int) 0 w fun y2 b4 n5 w6=>IfB (decide (n5<if 4<(s1.n:Int) then 4 else (s1.n:Int))) (Ql (α:=Int) 0 w6 fun y9 b11 n12 w13=>(F198j2 t0 R s1 y2 b4 n5 y9 b11 n12 w13)) (R (Value.tuple #[]) w6)):Cw 198 #[Value.func (Fn.yield t0) #[] #[],Value.pointer (some ⟨t1,0,none⟩)] w R:=
 ckF Tryz.func198 (nd (nd (.loop [(11,oi)] (rg [4,5,11,24]) (nd (nd (.node (nd (nd (.loop [(15,oi)] (rg [5,5,15,23]) .nil))) .nil)))))) h (by kernel_rfl) (by kernel_rfl)
noncomputable def R79_0:Code:=codeAt [1,1,0,1,0] (bodyOf Tryz.f79)
def R79_0a:An:=.draw (sts [0,1,2,3,4,6] (.ac 5 [6,1,0] (.st 7 (.ac 8 [] .fin .non)) .non))
theorem R79_0ok1:okC tb Tryz.f79.ntmps (rA R79_0) .nil=true:=by kernel_rfl
theorem R79_0ok2:okC tb Tryz.f79.ntmps (rB R79_0) R79_0a=true:=by kernel_rfl
theorem R79_0okp:(rP R79_0).toList.all (fun p=>Nat.blt p Tryz.f79.ntmps)=true:=by kernel_rfl
theorem F79_ok(t0:Sl×List Value)(t1:Nat×Array Value)(w:World)(R:RV)(h:AllocP w (Obj.cells { toList:=Qy t0.fst::t0.2 } 26) fun b1 w2=>AllocP w2 (Obj.cells #[Value.func (Fn.func t1.1) #[] t1.2] 91) fun b3 w4=>AllocP w4 (Obj.cells #[Qz 0,Qz 0,Qz 0,Qz 0,Qz 0,Qz 0,Qz 0,Qz 0,Qz 0,Qz 0,Qz 0,Qz 0,Qz 0,Qz 0,Qz 0,Qz 0] 24) fun b5 w6=>AllocP w6 (Obj.cells #[Qz 0,Qz 0,Qz 0,Qz 0,Qz 0,Qz 0,Qz 0,Qz 0,Qz 0,Qz 0,Qz 0,Qz 0,Qz 0,Qz 0,Qz 0,Qz 0] 24) fun b7 w8=>∃(x9:Sl×List Value),CellsN w8 b1 0 17 (Qy x9.fst::x9.2)/\Cx 148 #[Value.agg { toList:=Qy x9.fst::x9.2 }] w8 fun v12 w13=>∃(x14:Nat×Array Value),v12=Value.func (Fn.func x14.1) #[] x14.2/\∀(y15:Nat->Value),RangeP Tryz.prog tb (nat_lit 21) none R79_0a (rG R79_0) (rP R79_0) (rA R79_0) (rB R79_0) (frC y15 [(3,Value.pointer (some ⟨b3,0,none⟩)),(4,Value.pointer (some ⟨b5,0,none⟩)),(5,Value.pointer (some ⟨b7,0,none⟩)),(9,Value.func (Fn.func x14.1) #[] x14.2)]) [] w13 (fun(l16:List Nat) (w17:World)=>∃(l18:List Value),CellsN w17 b7 0 16 l18/\(Array.mk (l18 )).size=16/\StoreP w17 b5 0 l18 fun w21=>marksP w21 l16 fun w22=>∃(l23:List Value),CellsN w22 b5 0 16 l23/\R (Value.agg { toList:=l23 }) w22) (fun(l26:List Nat) (w27:World)=>marksP w27 l26 fun w28=>∃(l29:List Value),CellsN w28 b5 0 16 l29/\R (Value.agg { toList:=l29 }) w28) fun(b32:Nat) (l33:List Nat) (w34:World)=>match b32.beq 0 with|true=>∃(l36:List Value),CellsN w34 b7 0 16 l36/\(Array.mk (l36 )).size=16/\StoreP w34 b5 0 l36 fun w39=>marksP w39 l33 fun w40=>∃(l41:List Value),CellsN w40 b5 0 16 l41/\R (Value.agg { toList:=l41 }) w40|false=>False):Cw 79 #[Value.agg { toList:=Qy t0.fst::t0.2 },Value.func (Fn.func t1.1) #[] t1.2] w R:=
 ckF Tryz.func79 (nd (nd (.node (nd (.rng [(3,.one (.box)),(4,.one (.box)),(5,.one (.box)),(9,.one (.clo))] (.draw (sts [0,1,2,3,4,6] (.ac 5 [6,1,0] (.st 7 (.ac 8 [] .fin .non)) .non))))) .nil))) h (by kernel_rfl) (by kernel_rfl)
theorem F79b0_ok(t3:Nat)(t4:Nat)(t5:Nat)(t9:Nat×Array Value)(x10:Int)(x11:Int)(l D n₀:Nat)(Jn:World->Prop)(Jx:Code->World->Prop)(W:World){g:Nat->Value}(h:([]:List Nat)=[]/\(W.1[l]? =W.1[l]? /\W.1[D]? =W.1[D]?)/\∀(w9:World),Stb n₀ W w9->Its W w9->(∃y12:Loop,w9.1[l]? =some (Obj.loop y12))->∃(x16:Nat×Array Value),w9.drew.cell? ⟨t3,0,none⟩=some (Value.func (Fn.func x16.1) #[] x16.2)/\(0<=x10/\x10<((4:Nat):Int))/\Cx x16.1 { toList:=Qz x10::Qz x11::x16.snd.1 } w9.drew fun v17 w18=>∃n19:Int,v17=Qz n19/\(0<=x11/\x11<((4:Nat):Int))/\#[Qz n19].size=1/\StoreP w18 t5 (0+x10.toNat*4+x11.toNat) [Qz n19] fun w20=>(w20.1[l]? =w9.1[l]? /\w20.1[D]? =w9.1[D]?)/\Jn w20):
  BodyP Tryz.prog tb Tryz.f79.ntmps l D n₀ R79_0a (rP R79_0) (rA R79_0) (rB R79_0) (frC g [(3,Value.pointer (some ⟨t3,0,none⟩)),(4,Value.pointer (some ⟨t4,0,none⟩)),(5,Value.pointer (some ⟨t5,0,none⟩)),(9,Value.func (Fn.func t9.1) #[] t9.2)]) Jn Jx [Value.int IntKind.i64 x10,Value.int IntKind.i64 x11] W:=
 Eq.mp (by kernel_rfl) h
def F140j1(t0:Sl)(R:RV)(y1:Nat->Int->World->Prop)(b3:Nat)(n4:Int)(w5:World):Prop:=IfB (decide (n4<(t0.n:Int))) (Qx t0.1 n4 (t0.2:Int) fun b8 b9=>∃(x10:ByteArray×Int×Sl×Sl×Bool),CellsAt w5 b8 (b9+n4.toNat*5) (lC49 x10)/\AllocP w5 (Obj.cells #[Value.string GxOEby0,Qz 0,Value.slice none 0 0,Value.slice none 0 0,Value.bool false] 49) fun b11 w12=>(lC49 x10).toArray.size=5/\StoreP w12 b11 0 (lC49 x10) fun w13=>∃(x14:ByteArray×Int×Sl×Sl×Bool),CellsAt w13 b11 0 (lC49 x14)/\Qv' 190 #[Value.agg (lC49 x14).toArray] w13 fun t17 w16=>IfB (!t17) (R (Value.bool false) w16) ((0<=n4/\n4<=(t0.3:Int))/\Qv' 191 #[Value.slice (slAddr t0.1 t0.3 0 5) n4.toNat t0.3,Value.func (Fn.func 192) #[] #[Value.pointer (some ⟨b11,0,none⟩)]] w16 fun t20 w19=>IfB t20 (R (Value.bool false) w19) (Qn y1 b3 (IntKind.i64.wrap (n4+1)) w19))) (R (Value.bool true) w5)
theorem F140_ok(t0:Sl)(w:World)(R:RV)(h:Ql (α:=Int) 0 w fun y1 b3 n4 w5=>(F140j1 t0 R y1 b3 n4 w5)):Cw 140 #[Qy t0] w R:=
 ckF Tryz.func140 (nd (.node (nd (.loop [(7,oi)] (rg [2,4,7,22]) .nil)) .nil)) h (by kernel_rfl) (by kernel_rfl)
theorem F192_ok(t0:ByteArray×Int×Sl×Sl×Bool)(t1:Nat)(w:World)(R:RV)(h:AllocP w (Obj.cells (lC49 t0).toArray 49) fun b1 w2=>∃z3:ByteArray,w2.cell? ⟨b1,0+0,none⟩=some (Value.string z3)/\∃z4:ByteArray,w2.cell? ⟨t1,0+0,none⟩=some (Value.string z4)/\R (Value.bool (z3.toList == z4.toList)) w2):Cw 192 #[(.agg (lC49 t0).toArray),Value.pointer (some ⟨t1,0,none⟩)] w R:=
 ckF Tryz.func192 .nil h (by kernel_rfl) (by kernel_rfl)
theorem F75_ok(t0:Sl×List Value)(w:World)(R:RV)(h:AllocP w (Obj.cells { toList:=Qy t0.fst::t0.2 } 26) fun b1 w2=>Qs w2 b1 (0+0) fun s3=>IfB (decide ((s3.n:Int)<1)) (R (Value.bool false) w2) (IfB (decide (4<(s3.n:Int))) (R (Value.bool false) w2) (Qs w2 b1 (0+0) fun s4=>Qv' 140 #[Qy s4] w2 fun t7 w6=>IfB (!t7) (R (Value.bool false) w6) (∃(l8:List Value),CellsN w6.drew b1 (0+1) 16 l8/\∃(x11:Sl×List Value),CellsN w6.drew b1 0 17 (Qy x11.fst::x11.2)/\Cx 79 #[Value.agg { toList:=Qy x11.fst::x11.2 },Value.func (Fn.func 141) #[] #[Value.pointer (some ⟨b1,0,none⟩)]] w6.drew fun v14 w15=>∃(l16:List Value),v14=Value.agg { toList:=l16 }/\CellsN w15 b1 (0+1) 16 l8/\∃t19:Bool,EqAt Tryz.prog 24 (Value.agg { toList:=l8 }) (Value.agg { toList:=l16 }) t19/\R (Value.bool t19) w15)))):Cw 75 #[Value.agg { toList:=Qy t0.fst::t0.2 }] w R:=
 ckF Tryz.func75 (nd (nd (nd (.node (.draw (sts [0,1,2,3] (.ac 4 [1,0] (sts [5,6] .fin) .non))) .nil)))) h (by kernel_rfl) (by kernel_rfl)
theorem F141_ok(t0:Int)(t1:Int)(t2:Nat)(w:World)(R:RV)(h:(0<=t0/\t0<((4:Nat):Int))/\(0<=t1/\t1<((4:Nat):Int))/\∃n1:Int,w.drew.cell? ⟨t2,0+1+t0.toNat*4+t1.toNat,none⟩=some (Qz n1)/\∃s2:Sl,w.drew.cell? ⟨t2,0+0,none⟩=some (Qy s2)/\Qx s2.1 t0 (s2.2:Int) fun b3 b4=>∃(x5:ByteArray×Int×Sl×Sl×Bool),CellsAt w.drew b3 (b4+t0.toNat*5) (lC49 x5)/\Cx 81 #[Value.agg (lC49 x5).toArray] w.drew fun v6 w7=>∃n8:Int,v6=Qz n8/\w7.cell? ⟨t2,0+1+t0.toNat*4+t1.toNat,none⟩=some (Qz n1)/\R (Qz (bitsI BinOp.and IntKind.i64 n1 n8)) w7):Cw 141 #[Qz t0,Qz t1,Value.pointer (some ⟨t2,0,none⟩)] w R:=
 ckF Tryz.func141 (nd (.node (.draw (sts [0,1,2,3,4,5,6,7,8,9,10] (.ac 11 (rg [0,5]) (sts [12,13] .fin) .non))) .nil)) h (by kernel_rfl) (by kernel_rfl)
theorem F185_ok(t0:Sl×List Value)(t1:Int)(t2:Int)(t3:Int)(w:World)(R:RV)(h:AllocP w (Obj.cells { toList:=Qy t0.fst::t0.2 } 26) fun b1 w2=>Qv' 224 #[Qz t1,Value.pointer (some ⟨b1,0,none⟩)] w2 fun t5 w4=>IfB (!t5) (R (Value.bool false) w4) (Qv' 224 #[Qz t2,Value.pointer (some ⟨b1,0,none⟩)] w4 fun t8 w7=>IfB (!t8) (R (Value.bool false) w7) (IfB (decide (t3<0)) (R (Value.bool false) w7) (Qs w7 b1 (0+0) fun s9=>Qx s9.1 t1 (s9.2:Int) fun b10 b11=>Qs w7 b10 (b11+t1.toNat*5+2) fun s12=>IfB (decide (IntKind.i64.wrap ((s12.n:Int)-1)<=t3)) (R (Value.bool false) w7) ((0<=t1/\t1<((4:Nat):Int))/\(0<=t2/\t2<((4:Nat):Int))/\Qi w7 b1 (0+1+t1.toNat*4+t2.toNat) fun n13=>0<=t3/\R (Value.bool (bitsI BinOp.and IntKind.i64 (n13.fdiv (2^min t3.toNat IntKind.i64.bits)) (1:Int) == 1)) w7))))):Cw 185 #[Value.agg { toList:=Qy t0.fst::t0.2 },Qz t1,Qz t2,Qz t3] w R:=
 ckF Tryz.func185 .nil h (by kernel_rfl) (by kernel_rfl)
theorem F224_ok(t0:Int)(t1:Nat)(w:World)(R:RV)(h:IfB (decide (0<=t0)) (∃s1:Sl,w.cell? ⟨t1,0+0,none⟩=some (Qy s1)/\R (Value.bool (decide (t0<if 4<(s1.n:Int) then 4 else (s1.n:Int)))) w) (R (Value.bool false) w)):Cw 224 #[Qz t0,Value.pointer (some ⟨t1,0,none⟩)] w R:=
 ckF Tryz.func224 .nil h (by kernel_rfl) (by kernel_rfl)
theorem F191_ok(t0:Sl)(t1:Nat×Array Value)(w:World)(R:RV)(h:Cx 239 #[Qy t0,Value.func (Fn.func t1.1) #[] t1.2] w fun v1 w2=>∃n3:Int,v1=Qz n3/\R (Value.bool (decide (0<=n3))) w2):Cw 191 #[Qy t0,Value.func (Fn.func t1.1) #[] t1.2] w R:=
 ckF Tryz.func191 .nil h (by kernel_rfl) (by kernel_rfl)
def F239j1(t0:Sl)(t1:Nat×Array Value)(R:RV)(y1:Nat->Int->World->Prop)(b3:Nat)(n4:Int)(w5:World):Prop:=IfB (decide (n4<(t0.n:Int))) (Qx t0.1 n4 (t0.2:Int) fun b8 b9=>∃(x10:ByteArray×Int×Sl×Sl×Bool),CellsAt w5 b8 (b9+n4.toNat*5) (lC49 x10)/\Cx t1.1 { toList:=(.agg (lC49 x10).toArray)::t1.snd.1 } w5 fun v11 w12=>∃t13:Bool,v11=Value.bool t13/\IfB t13 (R (Qz n4) w12) (Qn y1 b3 (IntKind.i64.wrap (n4+1)) w12)) (R (Qz (-1:Int)) w5)
def F239(t0:Sl)(t1:Nat×Array Value)(w:World)(R:RV):Prop:=Ql (α:=Int) 0 w fun y1 b3 n4 w5=>(F239j1 t0 t1 R y1 b3 n4 w5)
theorem F239_ok(t0:Sl)(t1:Nat×Array Value)(w:World)(R:RV)(h:F239 t0 t1 w R):Cw 239 #[Qy t0,Value.func (Fn.func t1.1) #[] t1.2] w R:=
 ckF Tryz.func239 (nd (.node (nd (.loop [(8,oi)] (rg [4,5,8,18]) .nil)) .nil)) h (by kernel_rfl) (by kernel_rfl)
section
variable {P:Program} {tb:Tab}
theorem cellsOf_size(hT:tb.Ok P){e:TypeId}{te:TI}(hte:tb e=some te)(w:World):P.cellsOf e=te.size:=by
 obtain⟨j,hj,hs,_⟩:=(hT _ _ hte).row
 have h1:=run_sizeOf w hj
 have h2:=run_sizeOf_of (hT _ _ hte) w
 rw[h1] at h2
 injection h2
theorem eqRow(hT:tb.Ok P){t e:TypeId}{ti te:TI}{n:Nat}(hti:tb t=some ti)(hkt:ti.kd=.array n e)(hte:tb e=some te){k:IntKind}(hk:te.kd=.int k)(hz:te.size=1){k':IntKind}{xs ys:List Int}(hx:xs.length=n)(hy:ys.length=n)(d:Nat)(w:World):
  (Op.equalIn (d+1+1) t (.agg (xs.map (Value.int k')).toArray) (.agg (ys.map (Value.int k')).toArray)).run P w=.ok (xs == ys) w:=by
 obtain⟨u,hu,hkd⟩:=(hT _ _ hti).desc
 rw[hkt] at hkd
 have:=kd_array hkd;subst this
 obtain⟨j,hj,_⟩:=(hT _ _ hte).row
 rw[run_equalIn_array w (d+1) _ _ hu hj,cellsOf_size hT hte w,hz,List.range_eq_range']
 have:=eqItems_ints hT hte hk hz d (k':=k') (hx.trans hy.symm) w n 0 (by omega)
 simpa using this
theorem beq_app{a b c d:List Int}(h:a.length=c.length):(a++b == c++d)=(a == c&&b == d):=by
 rw[Bool.eq_iff_iff,Bool.and_eq_true,beq_iff_eq,beq_iff_eq,beq_iff_eq]
 exact⟨fun e=>List.append_inj e h,fun⟨e,f⟩=>by rw[e,f]⟩
theorem eqItems_rows(hT:tb.Ok P){t e:TypeId}{ti te:TI}{m:Nat}(hti:tb t=some ti)(hkt:ti.kd=.array m e)(hsz:ti.size=m)(hte:tb e=some te){k:IntKind}(hk:te.kd=.int k)(hz:te.size=1){k':IntKind}{n:Nat}{xs ys:List Int}(hx:xs.length=n*m)(hy:ys.length=n*m)(d:Nat)(w:World):
  ∀(q i:Nat),i+q=n->(Op.eqItems (d+1+1) t m (xs.map (Value.int k')).toArray (ys.map (Value.int k')).toArray (List.range' i q)).run P w=.ok (xs.drop (i*m) == ys.drop (i*m)) w
 | 0,i,h=>by
  have:i=n:=by omega
  subst this
  rw[List.drop_of_length_le (by omega),List.drop_of_length_le (by omega)];simp[Op.eqItems]
 | q+1,i,h=>by
  have hp:∀l:List Int,partV ti (l.map (Value.int k')).toArray (i*m)=some (.agg (((l.drop (i*m)).take m).map (Value.int k')).toArray):=fun l=>by
   unfold partV
   rw[hkt,hsz]
   simp only[Kd.isAgg,takeL_eq,dropL_eq]
   rw[List.map_take,List.map_drop]
  have hle:(i+1)*m<=n*m:=Nat.mul_le_mul_right _ (by omega)
  rw[Nat.succ_mul] at hle
  have ih:=eqItems_rows hT hti hkt hsz hte hk hz (k':=k') hx hy d w q (i+1) (by omega)
  have hr:=eqRow hT hti hkt hte hk hz (k':=k') (xs:=(xs.drop (i*m)).take m) (ys:=(ys.drop (i*m)).take m) (by rw[List.length_take,List.length_drop];omega) (by rw[List.length_take,List.length_drop];omega) d w
  rw[List.range'_succ]
  simp only[Op.eqItems,Sem.run_bind,partV_run hT hti (hp xs),partV_run hT hti (hp ys),Result.andThen_ok,hr]
  have e1:∀l:List Int,l.drop (i*m)=(l.drop (i*m)).take m++l.drop ((i+1)*m):=fun l=>by
   rw[Nat.succ_mul,<-List.drop_drop,List.take_append_drop]
  rw[e1 xs,e1 ys,beq_app (by rw[List.length_take,List.length_take,List.length_drop,List.length_drop];omega),<-e1 xs,<-e1 ys]
  cases hb:(xs.drop (i*m)).take m == (ys.drop (i*m)).take m
  ·simp
  ·simpa using ih
theorem eqAt_rows(hT:tb.Ok P){T t e:TypeId}{tT ti te:TI}{n m:Nat}(hTt:tb T=some tT)(hkT:tT.kd=.array n t)(hti:tb t=some ti)(hkt:ti.kd=.array m e)(hsz:ti.size=m)(hte:tb e=some te){k:IntKind}(hk:te.kd=.int k)(hz:te.size=1){k':IntKind}{xs ys:List Int}(hx:xs.length=n*m)(hy:ys.length=n*m)
  (hg:P.eqGuardType P.depth T=false):EqAt P T (.agg (xs.map (Value.int k')).toArray) (.agg (ys.map (Value.int k')).toArray) (xs == ys):=by
 intro xo yo w
 obtain⟨u,hu,hkd⟩:=(hT _ _ hTt).desc
 rw[hkT] at hkd
 have:=kd_array hkd;subst this
 obtain⟨j,hj,_⟩:=(hT _ _ hti).row
 have h1:(Op.equalIn 10000 T (.agg (xs.map (Value.int k')).toArray) (.agg (ys.map (Value.int k')).toArray)).run P w=.ok (xs == ys) w:=by
  rw[show 10000=9997+1+1+1 from rfl,run_equalIn_array w (9997+1+1) _ _ hu hj,cellsOf_size hT hti w,hsz,List.range_eq_range']
  have:=eqItems_rows hT hti hkt hsz hte hk hz (k':=k') hx hy 9997 w n 0 (by omega)
  simpa using this
 constructor
 ·simp only[Sem.run_bind,run_eqGuard_agg w _ T xo yo _ _ hg,Result.andThen_ok,run_eql_struct,h1]
 ·simp only[Sem.run_bind,run_eqGuard_agg w _ T xo yo _ _ hg,Result.andThen_ok,run_neq_struct,h1]
end
theorem clsC_len(v:ClsV):(clsC v).length=5:=rfl
theorem clsC_one(v:ClsV):One (clsC v):=by intro x hx;simp at hx;rcases hx with rfl|rfl|rfl|rfl|rfl<;>rfl
theorem ClsR.list{w:World}{s:Sl}{l:List ClsD}(h:ClsR w s l):∃vs:List ClsV,vs.length=l.length/\Rd w s 5 (vs.flatMap clsC)/\∀(i:Nat) y x,vs[i]? =some y->l[i]? =some x->ClsM w y x:=by
 obtain⟨t,ns,ht,h1,h2,h3,h4,h5,h6⟩:=rep_list (f:=clsC) (Q:=fun x n=>ClsM w n x) h fun x _ c hc=>rep_cls hc
 have:=slEq ht;subst this
 exact⟨ns,h2,h1,fun i y x hy hx=>h6 i x y hx hy⟩
theorem pow_range{k m:Nat}(h:k<=m):(1:Int)<=2^k/\(2:Int)^k<=2^m:=by
 have h1:1<=2^k:=Nat.one_le_two_pow
 have h2:2^k<=2^m:=Nat.pow_le_pow_right (by omega) h
 exact⟨by exact_mod_cast h1,by exact_mod_cast h2⟩
theorem c81(v:ClsV)(w:World)(hl:v.2.2.1.n<=20):Cw 81 #[clV v] w fun r w'=>r=iv (2^(v.2.2.1.n-1)-1)/\Ext w w':=by
 refine F81_ok v w _ fun b1 w2 a2=>⟨_,boxAt (cs:=clsC v) a2.new 2 (Ch.refl _ _),?_,?_,a2.ch _⟩
 ·split<;>omega
 ·have hm:(if IntKind.i64.wrap ((v.2.2.1.n:Int)-1)<0 then 0 else IntKind.i64.wrap ((v.2.2.1.n:Int)-1))=((v.2.2.1.n-1:Nat):Int):=maxOne (by omega)
  rw[hm,Int.toNat_natCast]
  have hk:v.2.2.1.n-1<=19:=by omega
  generalize v.2.2.1.n-1=k at hk
  rw[Nat.min_eq_left (by show k<=64;omega)]
  obtain⟨h1,h2⟩:=pow_range hk
  rw[Int.one_mul,wrap_of (n:=2^k) (by omega) (by omega),wrap_of (by omega) (by omega)]
abbrev cxC(v:CatV):List Value:=slV v.1::v.2
abbrev cxV(v:CatV):Value:=.agg (cxC v).toArray
abbrev prA(y:Int×Int):Array Value:=#[iv y.1,iv y.2]
def nCl(v:CatV):Nat:=min v.1.n 4
theorem itP(b:Nat)(v:CatV):Iter Tryz.prog 198 #[.pointer (some ⟨b,0,none⟩)] prA false (fun pre y=>∃c d:Nat,pre.length=c*nCl v+d/\c<nCl v/\d<nCl v/\y=((c:Int),(d:Int))) (fun xs=>xs.length=nCl v*nCl v) (fun W=>∃T,W.heap[b]? =some (.cells (cxC v).toArray T (0,0))):=by
 refine⟨en198,fun l J Jx W hJ hJx hInv hSz _ hstep h0=>?_⟩
 obtain⟨T1,hT1⟩:=hInv _ _ h0
 obtain⟨n,hn⟩:∃n,n=nCl v:=⟨_,rfl⟩
 rw[<-hn] at hstep ⊢
 have hmi:(if (4:Int)<(v.1.n:Int) then (4:Int) else (v.1.n:Int))=(n:Int):=by
  rw[hn];unfold nCl;split<;>omega
 have hn4:n<=4:=by rw[hn];unfold nCl;omega
 refine F198_ok l b W _ ⟨v.1,boxAt (cs:=cxC v) hT1 0 (Ch.refl _ _),fun m x W'=>∃(c:Nat)(pre:List (Int×Int)),c<=n/\m+c=n/\x=(c:Int)/\pre.length=c*n/\J pre W',⟨n,0,[],Nat.zero_le _,rfl,rfl,by simp,h0⟩,?_⟩
 rintro m _ W6 g ⟨c,pre,hc,hmc,rfl,hpl,hj⟩
 rw[hmi]
 refine IfB.dec (fun hlt=>?_) fun hge=>.inl ⟨pre,show pre.length=n*n by rw[hpl,show c=n by omega],hj⟩
 have hc':c<n:=by omega
 refine⟨fun m x W'=>∃(d:Nat)(pre:List (Int×Int)),d<=n/\m+d=n/\x=(d:Int)/\pre.length=c*n+d/\J pre W',⟨n,0,pre,Nat.zero_le _,rfl,rfl,by omega,hj⟩,?_⟩
 rintro m2 _ W13 g ⟨d,pre2,hd,hmd,rfl,hpl2,hj2⟩
 unfold F198j2
 rw[hmi]
 refine IfB.dec (fun hlt2=>?_) fun hge2=>⟨rfl,m-1,by omega,c+1,pre2,hc',by omega,by rw[wrap_of (by omega) (by omega)];rfl,by rw[hpl2,Nat.succ_mul,show d=n by omega],hj2⟩
 refine(hstep pre2 ((c:Int),(d:Int)) _ hj2 ⟨c,d,hpl2,hc',by omega,rfl⟩).mono fun r w' hr=>?_
 cases r with
 | false=>exact IfB.yes rfl (.inr ⟨_,hr⟩)
 | true=>exact IfB.no rfl ⟨rfl,m2-1,by omega,d+1,pre2++[((c:Int),(d:Int))],by omega,by omega,by rw[wrap_of (by omega) (by omega)];rfl,by simp;omega,hr.1⟩
theorem c148(v:CatV)(w:World):Cw 148 #[cxV v] w fun r w'=>∃b T,r=.func (.func 198) #[] #[.pointer (some ⟨b,0,none⟩)]/\IsAlloc w (.cells (cxC v).toArray T (0,0)) b w':=
 F148_ok v w _ fun b w' a=>⟨b,_,rfl,a⟩
def tblK(n:Nat)(f:Nat->Nat->Int)(k:Nat):List Int:=(List.range 16).map fun i=>if i/4<n/\i%4<n/\i/4*n+i%4<k then f (i/4) (i%4) else 0
def tblF(n:Nat)(f:Nat->Nat->Int):List Int:=(List.range 16).map fun i=>if i/4<n/\i%4<n then f (i/4) (i%4) else 0
theorem tblK_len(n:Nat)(f:Nat->Nat->Int)(k:Nat):(tblK n f k).length=16:=by simp[tblK]
theorem tblF_len(n:Nat)(f:Nat->Nat->Int):(tblF n f).length=16:=by simp[tblF]
theorem tblK_zero(n:Nat)(f:Nat->Nat->Int):tblK n f 0=List.replicate 16 0:=by
 unfold tblK
 rw[List.eq_replicate_iff]
 exact⟨by simp,fun x hx=>by obtain⟨i,_,rfl⟩:=List.mem_map.1 hx;rw[if_neg (by omega)]⟩
theorem radix{a b c d n:Nat}(hb:b<n)(hd:d<n):a*n+b=c*n+d↔a=c/\b=d:=by
 constructor
 ·intro h
  have h1:(a*n+b)/n=a:=by rw[Nat.mul_comm,Nat.mul_add_div (by omega),Nat.div_eq_of_lt hb];rfl
  have h2:(c*n+d)/n=c:=by rw[Nat.mul_comm,Nat.mul_add_div (by omega),Nat.div_eq_of_lt hd];rfl
  have:a=c:=by rw[<-h1,h,h2]
  subst this
  exact⟨rfl,by omega⟩
 ·rintro⟨rfl,rfl⟩;rfl
theorem radix_lt{a b n:Nat}(ha:a<n)(hb:b<n):a*n+b<n*n:=by
 have:(a+1)*n<=n*n:=Nat.mul_le_mul_right _ ha
 rw[Nat.succ_mul] at this
 omega
theorem tblK_all(n:Nat)(f:Nat->Nat->Int):tblK n f (n*n)=tblF n f:=by
 unfold tblK tblF
 apply List.map_congr_left
 intro i _
 by_cases h:i/4<n/\i%4<n
 ·rw[if_pos ⟨h.1,h.2,radix_lt h.1 h.2⟩,if_pos h]
 ·rw[if_neg fun h'=>h ⟨h'.1,h'.2.1⟩,if_neg h]
theorem tblK_succ{n c d k:Nat}{f:Nat->Nat->Int}(hn:n<=4)(hc:c<n)(hd:d<n)(hk:k=c*n+d):tblK n f (k+1)=(tblK n f k).set (c*4+d) (f c d):=by
 apply List.ext_getElem (by simp[tblK])
 intro i h1 h2
 have hi:i<16:=by simpa [tblK] using h1
 rw[List.getElem_set]
 simp only[tblK,List.getElem_map,List.getElem_range]
 by_cases he:c*4+d=i
 ·rw[if_pos he]
  have e1:i/4=c:=by omega
  have e2:i%4=d:=by omega
  rw[e1,e2,if_pos ⟨hc,hd,by omega⟩]
 ·rw[if_neg he]
  by_cases h:i/4<n/\i%4<n
  ·have hne:i/4*n+i%4≠k:=fun e=>by
    rw[hk] at e
    obtain⟨e1,e2⟩:=(radix h.2 hd).1 e
    omega
   by_cases hl:i/4*n+i%4<k
   ·rw[if_pos ⟨h.1,h.2,by omega⟩,if_pos ⟨h.1,h.2,hl⟩]
   ·rw[if_neg (by omega),if_neg (by omega)]
  ·rw[if_neg fun h'=>h ⟨h'.1,h'.2.1⟩,if_neg fun h'=>h ⟨h'.1,h'.2.1⟩]
theorem one_ints(l:List Int):One (l.map iv):=by intro v hv;obtain⟨x,_,rfl⟩:=List.mem_map.1 hv;rfl
theorem c79{w:World}{v:CatV}(hb:v.2.length=16){t1:Nat×Array Value}{f:Nat->Nat->Int}
  (hq:∀(c d:Nat)(W:World),c<nCl v->d<nCl v->Ext w W->∀R':RV,(∀w',Ext W w'->R' (iv (f c d)) w')->Cx t1.1 { toList:=iv (c:Int)::iv (d:Int)::t1.2.toList } W R'):
  Cw 79 #[cxV v,.func (.func t1.1) #[] t1.2] w fun r w'=>r=.agg ((tblF (nCl v) f).map iv).toArray/\Ext w w':=by
 refine F79_ok v t1 w _ fun b1 w2 a2 b3 w4 a4 b5 w6 a6 b7 w8 a8=>?_
 have p2:=a2.here;have z2:=a2.size;have p4:=a4.here;have z4:=a4.size;have p6:=a6.here;have z6:=a6.size;have p8:=a8.here;have z8:=a8.size
 have e8:Ext w w8:=(((a2.ch _).trans (a4.ch _)).trans (a6.ch _)).trans (a8.ch _)
 have B1:w8.heap[b1]? =some (.cells (cxC v).toArray 26 (0,0)):=a8.at (a6.at (a4.at a2.new))
 have B3:=a8.at (a6.at a4.new)
 have B5:=a8.at a6.new
 refine⟨v,CellsN.mk (by simp[hb]) (boxAll (cs:=cxC v) B1 (Ch.refl _ _)),(c148 v w8).use ?_⟩
 rintro _ w13 ⟨pb,T,rfl,a13⟩
 have p13:=a13.here;have z13:=a13.size
 have e13:Ext w w13:=e8.trans (a13.ch _)
 refine⟨(198,#[.pointer (some ⟨pb,0,none⟩)]),rfl,fun g=>?_⟩
 have hn4:nCl v<=4:=by unfold nCl;omega
 refine range_none tbOk mixed (gf:=198) (lb:=#[.pointer (some ⟨pb,0,none⟩)]) rfl (itP pb v) R79_0ok1 R79_0ok2 R79_0okp (fun _=>rfl)
  (fun pre W=>(∃T,W.heap[pb]? =some (.cells (cxC v).toArray T (0,0)))/\W.heap[b3]? =some (.cells #[.func (.func t1.1) #[] t1.2] 91 (0,0))/\(∃z,W.heap[b5]? =some (.cells z 24 (0,0))/\z.size=16)/\W.heap[b7]? =some (.cells ((tblK (nCl v) f pre.length).map iv).toArray 24 (0,0))/\Ext w W)
  (fun _ _ _=>False) ?_ (fun _ _ _ _ h=>h.elim) (fun _ _ h=>h.1) (fun h=>by cases h) ?_ ?_ ?_ (fun _ _ _ h=>h.elim)
 ·rintro pre A B ⟨⟨T,h1⟩,h2,⟨z,h3,h3'⟩,h4,h5⟩ hS
  exact⟨⟨T,hS.keep _ _ h1 rfl⟩,hS.keep _ _ h2 rfl,⟨z,hS.keep _ _ h3 rfl,h3'⟩,hS.keep _ _ h4 rfl,h5.stbE hS (by omega)⟩
 ·refine⟨⟨_,a13.new⟩,a13.at B3,⟨_,a13.at B5,rfl⟩,?_,e13⟩
  rw[List.length_nil,tblK_zero]
  exact a13.at a8.new
 ·rintro pre _ W ⟨⟨T',hpb⟩,h3,⟨z,h5,hz⟩,h7,hX⟩ ⟨c,d,hk,hc,hd,rfl⟩ hW
  refine F79b0_ok b3 b5 b7 (198,#[.pointer (some ⟨pb,0,none⟩)]) (c:Int) (d:Int) _ _ _ _ _ W ?_
  refine⟨rfl,⟨rfl,rfl⟩,fun W9 hS hIt hL=>?_⟩
  have ed:=extDrew W9
  have zS:=hS.size
  have X9:Ext w W9.drew:=Ch.trans (hX.stbE hS (by omega)) ed
  have k3:=ed.at (hS.keep _ _ h3 rfl)
  have k5:=ed.at (hS.keep _ _ h5 rfl)
  have k7:=ed.at (hS.keep _ _ h7 rfl)
  have kp:=ed.at (hS.keep _ _ hpb rfl)
  refine⟨t1,by rw[cell_of k3];rfl,⟨by omega,by omega⟩,hq c d _ hc hd X9 _ fun W18 e18=>⟨f c d,rfl,⟨by omega,by omega⟩,rfl,?_⟩⟩
  refine storeC (e18.at k7) (by simp) (by simp[tblK_len];omega) (oneIv _) fun W20 h20 c20=>⟨⟨?_,?_⟩,⟨⟨T',c20.at (e18.at kp) (by omega)⟩,c20.at (e18.at k3) (by omega),⟨z,c20.at (e18.at k5) (by omega),hz⟩,?_,(X9.trans e18).chN c20 fun j e=>by omega⟩,?_⟩
  ·exact(c20.old _ (by show _<W18.heap.size;have:=e18.size;have:W9.drew.heap.size=W9.heap.size:=rfl;omega) (by omega)).trans ((e18.old _ (by have:W9.drew.heap.size=W9.heap.size:=rfl;omega) id).trans rfl)
  ·exact(c20.old _ (by show _<W18.heap.size;have:=e18.size;have:W9.drew.heap.size=W9.heap.size:=rfl;omega) (by omega)).trans ((e18.old _ (by have:W9.drew.heap.size=W9.heap.size:=rfl;omega) id).trans rfl)
  ·rw[h20,List.length_append,List.length_singleton,tblK_succ hn4 hc hd hk,List.map_set]
   congr 4
   rw[Int.toNat_natCast,Int.toNat_natCast,Nat.zero_add]
   unfold spliceL
   rw[List.set_eq_take_append_cons_drop,if_pos (by simp[tblK_len];omega)]
   simp
  ·have q1:Its W9 W18:=Its.ext (ed.trans e18)
   exact(hIt.trans q1).trans (Its.ch c20 fun i hi=>by subst hi;exact notIt (e18.at k7))
 ·rintro xs W hfin ⟨⟨T',hpb⟩,h3,⟨z,h5,hz⟩,h7,hX⟩ hD
  rw[hfin,tblK_all] at h7
  have hDl:=heap_lt hD
  refine⟨(tblF (nCl v) f).map iv,CellsN.mk (by simp[tblF_len]) (boxAll h7 (Ch.refl _ _)),by simp[tblF_len],store_all (vs:=(tblF (nCl v) f).map iv) h5 (by simp[tblF_len,hz]) (one_ints _) fun w21 u21=>marks_one (u21.at hD (by omega)) fun w22 u22=>⟨(tblF (nCl v) f).map iv,CellsN.mk (by simp[tblF_len]) ?_,rfl,?_⟩⟩
  ·exact boxAll (u22.at u21.new (by omega)) (Ch.refl _ _)
  ·exact(hX.chN u21.ch fun j e=>by omega).chN u22.ch fun j e=>by omega
theorem c239{w:World}{t:Sl}{xs:List ClsV}{t1:Nat×Array Value}{q:ClsV->Bool}(h:Rd w t 5 (xs.flatMap clsC))(hl:xs.length<=1000000)
  (hq:∀(x:ClsV)(W:World),x∈xs->Ext w W->∀R':RV,(∀w',Ext W w'->R' (.bool (q x)) w')->Cx t1.1 { toList:=clV x::t1.2.toList } W R'):
  Cw 239 #[slV t,.func (.func t1.1) #[] t1.2] w fun v w'=>v=iv (idxV (xs.findIdx? q))/\Ext w w':=by
 refine F239_ok t t1 w _ ?_
 have hn:=rdN clsC_len (by omega) h
 have e:∀R,F239 t t1 w R=IndexF Tryz.prog (fun W b o i (x:ClsV)=>CellsAt W b (o+i*5) (clsC x)) clV t t1 w R:=fun _=>rfl
 rw[e]
 refine IndexF_of xs id q hn (by omega) (fun i x W hx e=>?_) (fun i x W hx e R' hR=>hq x W (List.mem_of_getElem? hx) e R' hR) fun w' e=>⟨rfl,e⟩
 obtain⟨hi,_⟩:=List.getElem?_eq_some_iff.1 hx
 exact(h.ext e).elem (i:=i) (by omega) (by omega) (flatGet clsC_len hx)
theorem c191{w:World}{t:Sl}{xs:List ClsV}{t1:Nat×Array Value}{q:ClsV->Bool}(h:Rd w t 5 (xs.flatMap clsC))(hl:xs.length<=1000000)
  (hq:∀(x:ClsV)(W:World),x∈xs->Ext w W->∀R':RV,(∀w',Ext W w'->R' (.bool (q x)) w')->Cx t1.1 { toList:=clV x::t1.2.toList } W R'):
  Cw 191 #[slV t,.func (.func t1.1) #[] t1.2] w fun v w'=>v=.bool (xs.any q)/\Ext w w':=
 F191_ok t t1 w _ ((c239 h hl hq).use fun v w' ⟨hv,e⟩=>⟨_,hv,by rw[any_idx],e⟩)
theorem c192(x:ClsV){b:Nat}{y:ClsV}{w:World}(hb:∃T,w.heap[b]? =some (.cells (clsC y).toArray T (0,0))):
  Cw 192 #[clV x,.pointer (some ⟨b,0,none⟩)] w fun v w'=>v=.bool (x.1.toList == y.1.toList)/\Ext w w':=by
 obtain⟨T,hb⟩:=hb
 exact F192_ok x b w _ fun b1 w2 a2=>⟨_,boxAt (cs:=clsC x) a2.new 0 (Ch.refl _ _),_,boxAt (cs:=clsC y) hb 0 (a2.ch _),rfl,a2.ch _⟩
structure NamedP(l:List ClsD):Prop where
 ok:∀c∈l,ClsOk c
 ne:∀(i k:Nat)(a b:ClsD),k<i->l[i]? =some a->l[k]? =some b->a.1.toList≠b.1.toList
theorem c140{w:World}{t:Sl}{l:List ClsD}(h:ClsR w t l)(hl:l.length<=1000):Cw 140 #[slV t] w fun v w'=>∃r,v=.bool r/\(r=true↔NamedP l)/\Ext w w':=by
 obtain⟨vs,hvl,hrd,hvm⟩:=h.list
 have hn:=h.n
 have hcap:=h.cap
 refine F140_ok t w _ ⟨fun m x W=>∃i:Nat,i<=l.length/\m+i=l.length/\x=(i:Int)/\NamedP (l.take i)/\Ext w W,⟨l.length,0,Nat.zero_le _,rfl,rfl,⟨by simp,fun i k a b _ h=>by simp at h⟩,Ch.refl _ _⟩,?_⟩
 rintro m _ W g ⟨i,hi,hmi,rfl,hN,hE⟩
 unfold F140j1
 refine IfB.dec (fun hlt=>?_) fun hge=>?_
 ·have hi':i<l.length:=by omega
  have hx:l[i]? =some l[i]:=List.getElem?_eq_getElem hi'
  have hxm:l[i]∈l:=List.getElem_mem hi'
  have htk:=take_succ_get hx
  have hv:vs[i]? =some (vs[i]'(by omega)):=List.getElem?_eq_getElem (by omega)
  generalize l[i]=x at hx hxm htk
  generalize vs[i]'_=v at hv
  have hM:=hvm _ _ _ hv hx
  obtain⟨b,o,hp,hc⟩:=(hrd.ext hE).elem (i:=i) (by omega) (by omega) (flatGet clsC_len hv)
  refine⟨b,o,hp,⟨by omega,hlt⟩,v,by rw[Int.toNat_natCast];exact hc,fun b11 w12 a12=>⟨rfl,store_all (vs:=clsC v) a12.new rfl (clsC_one v) fun w13 u13=>?_⟩⟩
  have e13:Ext W w13:=Ext.fresh a12 u13
  have no:∀ {V:World},¬NamedP l->Ext w V->∃r,Value.bool false=.bool r/\(r=true↔NamedP l)/\Ext w V:=fun h e=>⟨false,rfl,⟨fun h=>(by cases h),fun h'=>absurd h' h⟩,e⟩
  refine⟨v,boxAll (cs:=clsC v) u13.new (Ch.refl _ _),(c190 (hM.ext (hE.trans e13))).use ?_⟩
  rintro _ w16 ⟨r,rfl,hr,e16⟩
  have E16:=(hE.trans e13).trans e16
  refine⟨r,rfl,IfB.intro (fun h1=>no (fun k=>?_) E16) fun h1=>?_⟩
  ·have h1:r=false:=by simpa using h1
   rw[hr.2 (k.ok _ hxm)] at h1;cases h1
  have hok:=hr.1 (by simpa using h1)
  refine⟨⟨by omega,by omega⟩,?_⟩
  show CX _ _ #[slV ⟨slAddr t.p t.c 0 5,((i:Int)).toNat,t.c⟩,_] _ _
  rw[slAddr_zero,Int.toNat_natCast]
  have hcut:=(hrd.ext E16).cut (k:=i) (by omega)
  rw[flatTake clsC_len] at hcut
  refine(c191 (t1:=(192,#[.pointer (some ⟨b11,0,none⟩)])) (q:=fun y=>y.1.toList == v.1.toList) hcut (by rw[List.length_take];omega) fun y V _ e R' hR=>(c192 (y:=v) y ⟨_,Ext.at (e16.trans e) u13.new⟩).use fun v w' ⟨hv,e'⟩=>hv ▸ hR w' e').use ?_
  rintro _ w19 ⟨rfl,e19⟩
  have key:(vs.take i).any (fun y=>y.1.toList == v.1.toList)=true↔∃k a,k<i/\l[k]? =some a/\x.1.toList=a.1.toList:=by
   rw[List.any_eq_true]
   constructor
   ·rintro⟨y,hy,he⟩
    obtain⟨k,hk,rfl⟩:=List.getElem_of_mem hy
    rw[List.length_take] at hk
    have hy':vs[k]? =some (vs.take i)[k]:=by rw[List.getElem_take];exact List.getElem?_eq_getElem _
    have hk':k<l.length:=by omega
    have hm:=hvm _ _ _ hy' (List.getElem?_eq_getElem hk')
    refine⟨k,_,by omega,List.getElem?_eq_getElem hk',?_⟩
    rw[<-hM.nm,<-hm.nm]
    exact(by simpa using he:_=_).symm
   ·rintro⟨k,a,hk,ha,he⟩
    have hy':vs[k]? =some (vs[k]'(by omega)):=List.getElem?_eq_getElem (by omega)
    have hm:=hvm _ _ _ hy' ha
    refine⟨_,List.mem_of_getElem? (show (vs.take i)[k]? =some _ by rw[List.getElem?_take_of_lt hk];exact hy'),?_⟩
    rw[<-hM.nm,<-hm.nm] at he
    simpa using he.symm
  refine⟨_,rfl,IfB.intro (fun h2=>no (fun k=>?_) (E16.trans e19)) fun h2=>⟨rfl,m-1,by omega,i+1,hi',by omega,by rw[wrap_of (by omega) (by omega)];rfl,⟨fun c hc=>?_,fun j k a b hkj ha hb=>?_⟩,E16.trans e19⟩⟩
  ·obtain⟨q,a,hq,ha,he⟩:=key.1 h2
   exact k.ne i q _ _ hq hx ha he
  ·rw[htk] at hc
   rcases List.mem_append.1 hc with h|h
   ·exact hN.ok c h
   ·rw[List.mem_singleton.1 h];exact hok
  ·have hj:j<i+1:=by have:=(List.getElem?_eq_some_iff.1 ha).1;rw[List.length_take] at this;omega
   rw[List.getElem?_take_of_lt hj] at ha
   rw[List.getElem?_take_of_lt (by omega)] at hb
   rcases Nat.lt_or_ge j i with h'|h'
   ·exact hN.ne j k a b hkj (by rw[List.getElem?_take_of_lt h'];exact ha) (by rw[List.getElem?_take_of_lt (by omega)];exact hb)
   ·have:j=i:=by omega
    subst this
    rw[hx] at ha;cases ha
    intro he
    rw[key.2 ⟨k,b,hkj,hb,he⟩] at h2;cases h2
 ·have hi':i=l.length:=by omega
  subst hi'
  rw[List.take_length] at hN
  exact⟨true,rfl,⟨fun _=>hN,fun _=>rfl⟩,hE⟩
theorem andMask(a:Int){k:Nat}(hk:k<=19):bitsI .and .i64 a (2^k-1)=a%2^k:=by
 obtain⟨h1,h2⟩:=pow_range hk
 show IntKind.i64.wrap (((BitVec.ofInt 64 a &&& BitVec.ofInt 64 (2^k-1)).toNat:Nat):Int)=_
 rw[BitVec.toNat_and,BitVec.toNat_ofInt,BitVec.toNat_ofInt]
 have e1:((2^k-1:Int)%((2^64:Nat):Int)).toNat=2^k-1:=by
  rw[Int.emod_eq_of_lt (by omega) (by have:((2^64:Nat):Int)=18446744073709551616:=rfl;omega)]
  have:(2:Int)^k=((2^k:Nat):Int):=by rw[Int.natCast_pow];rfl
  omega
 rw[e1,Nat.and_two_pow_sub_one_eq_mod]
 have e2:(((a%((2^64:Nat):Int)).toNat%2^k:Nat):Int)=a%2^k:=by
  rw[Int.natCast_emod,Int.toNat_of_nonneg (Int.emod_nonneg _ (by decide)),Int.natCast_pow]
  refine Int.emod_emod_of_dvd _ ?_
  have hk':k<=64:=by omega
  obtain⟨m,hm⟩:=Nat.exists_eq_add_of_le hk'
  refine⟨2^m,?_⟩
  rw[Int.natCast_pow,hm,Int.pow_add];rfl
 rw[e2]
 have h3:=Int.emod_nonneg a (b:=2^k) (by omega)
 have h4:=Int.emod_lt_of_pos a (b:=2^k) (by omega)
 exact wrap_of (by omega) (by omega)
theorem mod_self_iff{a:Int}{m:Int}(hm:0<m):a=a%m↔0<=a/\a<m:=
 ⟨fun h=>by rw[h];exact⟨Int.emod_nonneg _ (by omega),Int.emod_lt_of_pos _ hm⟩,fun h=>(Int.emod_eq_of_lt h.1 h.2).symm⟩
theorem bitAt{a:Int}{i:Nat}(h0:0<=a)(hi:i<=60):(bitsI .and .i64 (a.fdiv (2^min i 64)) 1 == 1)=a.toNat.testBit i:=by
 have:=andMask (a.fdiv (2^min i 64)) (k:=1) (by decide)
 rw[show (2:Int)^1-1=1 from rfl] at this
 rw[this,Nat.testBit_eq_decide_div_mod_eq]
 obtain⟨n,rfl⟩:=Int.eq_ofNat_of_zero_le h0
 rw[Nat.min_eq_left (by omega)]
 have e:Int.fdiv (n:Int) (2^i)=((n/2^i:Nat):Int):=by
  rw[Int.fdiv_eq_ediv_of_nonneg _ (by have:=(pow_range (Nat.le_refl i)).1;omega),Int.natCast_ediv,Int.natCast_pow];rfl
 rw[e,Int.toNat_natCast,Bool.eq_iff_iff,beq_iff_eq,decide_eq_true_eq]
 omega
theorem cat_cl{w:World}{v:CatV}{x:CatD}(h:CatM w v x):v.1.n=x.1.length:=h.cl.n
theorem nSt_of{x:CatD}{c:Nat}{y:ClsD}(h:x.1[c]? =some y):nSt x c=y.2.2.1.length:=by unfold nSt;rw[h]
theorem brk_get{v:CatV}{x:CatD}{w:World}(h:CatM w v x){c d:Nat}(hc:c<4)(hd:d<4):v.2[c*4+d]? =some (iv (brk x c d)):=by
 have hi:c*4+d<x.2.length:=by rw[h.b16];omega
 rw[h.br,List.getElem?_map,List.getElem?_eq_getElem hi]
 unfold brk
 rw[List.getD_eq_getElem?_getD,List.getElem?_eq_getElem hi];rfl
theorem brk_box{v:CatV}{x:CatD}{w W W':World}{b:Nat}{T:TypeId}(h:CatM w v x)(hb:W.heap[b]? =some (.cells (cxC v).toArray T (0,0)))(e:Ext W W'){c d:Nat}(hc:c<4)(hd:d<4):W'.cell? ⟨b,0+1+c*4+d,none⟩=some (iv (brk x c d)):=by
 rw[cell_of (e.at hb),List.getElem?_toArray,show 0+1+c*4+d=(c*4+d)+1 by omega,List.getElem?_cons_succ]
 exact brk_get h hc hd
theorem c141{w:World}{v:CatV}{x:CatD}{b c d:Nat}(h:CatM w v x)(hs:∀y∈x.1,y.2.2.1.length<=4)(hb:∃T,w.heap[b]? =some (.cells (cxC v).toArray T (0,0)))(hc:c<x.1.length)(hc4:c<4)(hd:d<4):
  Cw 141 #[iv (c:Int),iv (d:Int),.pointer (some ⟨b,0,none⟩)] w fun r w'=>r=iv (brk x c d%2^(nSt x c-1))/\Ext w w':=by
 obtain⟨T,hb⟩:=hb
 have ed:=extDrew w
 have hn:=cat_cl h
 have hx:x.1[c]? =some x.1[c]:=List.getElem?_eq_getElem hc
 have hxm:x.1[c]∈x.1:=List.getElem_mem hc
 generalize x.1[c]=y at hx hxm
 obtain⟨b1,o1,cv,hp,hcc,hM⟩:=ClsR.at (SlR.ext h.cl ed) hx
 have hsn:=hM.st.n
 have hy4:=hs y hxm
 refine F141_ok (c:Int) (d:Int) b w _ ⟨⟨by omega,by omega⟩,⟨by omega,by omega⟩,brk x c d,?_,v.1,boxAt (cs:=cxC v) hb 0 ed,b1,o1,hp,⟨by omega,by omega⟩,cv,by rw[Int.toNat_natCast];exact hcc,(c81 cv _ (by omega)).use ?_⟩
 ·rw[Int.toNat_natCast,Int.toNat_natCast];exact brk_box h hb ed hc4 hd
 rintro _ w7 ⟨rfl,e7⟩
 refine⟨_,rfl,?_,?_,ed.trans e7⟩
 ·rw[Int.toNat_natCast,Int.toNat_natCast];exact brk_box h hb (ed.trans e7) hc4 hd
 ·rw[nSt_of hx,<-hsn,andMask _ (by omega)]
theorem c75{w:World}{v:CatV}{x:CatD}(h:CatM w v x):Cw 75 #[cxV v] w fun r w'=>∃b,r=.bool b/\(b=true↔CatOk x)/\Ext w w':=by
 have hn:=cat_cl h
 have hb16:v.2.length=16:=by rw[h.br,List.length_map,h.b16]
 refine F75_ok v w _ fun b1 w2 a2=>?_
 have e2:Ext w w2:=a2.ch _
 have q0:=boxAt (cs:=cxC v) a2.new 0 (Ch.refl _ _)
 have no:∀ {V:World},¬CatOk x->Ext w V->∃r,Value.bool false=.bool r/\(r=true↔CatOk x)/\Ext w V:=fun h e=>⟨false,rfl,⟨fun h=>(by cases h),fun h'=>absurd h' h⟩,e⟩
 refine⟨_,q0,IfB.dec (fun h1=>no (fun k=>by have:=k.n1;omega) e2) fun h1=>IfB.dec (fun h2=>no (fun k=>by have:=k.n4;omega) e2) fun h2=>⟨_,q0,(c140 (h.cl.ext e2) (by omega)).use ?_⟩⟩
 rintro _ w6 ⟨r,rfl,hr,e6⟩
 have e26:=e2.trans e6
 refine⟨r,rfl,IfB.intro (fun h3=>no (fun k=>?_) e26) fun h3=>?_⟩
 ·have h3:r=false:=by simpa using h3
  rw[hr.2 ⟨k.cls,k.names⟩] at h3;cases h3
 have hN:=hr.1 (by simpa using h3)
 have ed:=extDrew w6
 have x6:Ext w2 w6.drew:=e6.trans ed
 have X6:Ext w w6.drew:=e26.trans ed
 have hbr:∀ {W:World},Ext w2 W->CellsAt W b1 (0+1) v.2:=fun e=>cellsAt_of (e.at a2.new) fun i y hy=>by
  rw[show 0+1+i=i+1 by omega,List.getElem?_toArray,List.getElem?_cons_succ];exact hy
 refine⟨v.2,CellsN.mk hb16 (hbr x6),v,CellsN.mk (by simp[hb16]) (boxAll (cs:=cxC v) a2.new x6),?_⟩
 have hs4:∀y∈x.1,y.2.2.1.length<=4:=fun y hy=>(hN.ok y hy).l4
 have hnc:nCl v=x.1.length:=by unfold nCl;omega
 refine(c79 hb16 (t1:=(141,#[.pointer (some ⟨b1,0,none⟩)])) (f:=fun c d=>brk x c d%2^(nSt x c-1)) fun c d V hc hd e R' hR=>(c141 (h.ext (X6.trans e)) hs4 ⟨_,Ext.at (x6.trans e) a2.new⟩ (by omega) (by omega) (by omega)).use fun v w' ⟨hv,e'⟩=>hv ▸ hR w' e').use ?_
 rintro _ w15 ⟨rfl,e15⟩
 rw[hnc]
 have E15:=X6.trans e15
 refine⟨_,rfl,CellsN.mk hb16 (hbr (x6.trans e15)),x.2 == tblF x.1.length fun c d=>brk x c d%2^(nSt x c-1),?_,_,rfl,?_,E15⟩
 ·rw[h.br]
  exact eqAt_rows tbOk (tT:=tt24) (t:=23) (ti:=tt23) (e:=3) (te:=tt3) (n:=4) (m:=4) (k:=.i64) (k':=.i64) (xs:=x.2) (ys:=tblF x.1.length fun c d=>brk x c d%2^(nSt x c-1)) rfl rfl rfl rfl rfl rfl rfl rfl h.b16 (tblF_len _ _) (by kernel_rfl)
 ·rw[beq_iff_eq]
  have hget:∀c d,c<4->d<4->(x.2[c*4+d]? =some (brk x c d)/\(tblF x.1.length fun c d=>brk x c d%2^(nSt x c-1))[c*4+d]? =some (if c<x.1.length/\d<x.1.length then brk x c d%2^(nSt x c-1) else 0)):=fun c d hc hd=>by
   have hi:c*4+d<x.2.length:=by rw[h.b16];omega
   refine⟨?_,?_⟩
   ·unfold brk;rw[List.getElem?_eq_getElem hi,List.getD_eq_getElem?_getD,List.getElem?_eq_getElem hi];rfl
   ·unfold tblF
    rw[List.getElem?_map,List.getElem?_range (by omega),Option.map_some]
    rw[show (c*4+d)/4=c by omega,show (c*4+d)%4=d by omega]
  have htop:∀c d,c<4->d<4->(brk x c d=(if c<x.1.length/\d<x.1.length then brk x c d%2^(nSt x c-1) else 0)↔0<=brk x c d/\brk x c d<topB x c d):=fun c d hc hd=>by
   unfold topB
   split
   ·rename_i hcd
    have hx:x.1[c]? =some x.1[c]:=List.getElem?_eq_getElem hcd.1
    exact mod_self_iff (by have:=(pow_range (Nat.le_refl (nSt x c-1))).1;omega)
   ·omega
  constructor
  ·intro he
   refine⟨by omega,by omega,hN.ok,hN.ne,fun c d hc hd=>(htop c d hc hd).1 ?_⟩
   obtain⟨g1,g2⟩:=hget c d hc hd
   rw[<-he] at g2
   exact Option.some.inj (g1.symm.trans g2)
  ·intro k
   apply List.ext_getElem?
   intro i
   by_cases hi:i<16
   ·obtain⟨g1,g2⟩:=hget (i/4) (i%4) (by omega) (by omega)
    rw[show i/4*4+i%4=i by omega] at g1 g2
    rw[g1,g2,<- (htop (i/4) (i%4) (by omega) (by omega)).2 (k.br _ _ (by omega) (by omega))]
   ·rw[List.getElem?_eq_none (by rw[h.b16];omega),List.getElem?_eq_none (by rw[tblF_len];omega)]
theorem c224(n:Int){b:Nat}{v:CatV}{w:World}(hb:∃T,w.heap[b]? =some (.cells (cxC v).toArray T (0,0))):
  Cw 224 #[iv n,.pointer (some ⟨b,0,none⟩)] w fun r w'=>r=.bool (decide (0<=n/\n<(nCl v:Int)))/\w=w':=by
 obtain⟨T,hb⟩:=hb
 have hmi:(if (4:Int)<(v.1.n:Int) then (4:Int) else (v.1.n:Int))=(nCl v:Int):=by unfold nCl;split<;>omega
 refine F224_ok n b w _ (IfB.dec (fun h1=>⟨v.1,boxAt (cs:=cxC v) hb 0 (Ch.refl _ _),?_,rfl⟩) fun h1=>⟨by simp[h1],rfl⟩)
 rw[hmi];simp[h1]
theorem c185{w:World}{v:CatV}{x:CatD}(h:CatM w v x)(hk:CatOk x){c d:Nat}(hc:c<x.1.length)(hd:d<x.1.length)(i:Int):
  Cw 185 #[cxV v,iv (c:Int),iv (d:Int),iv i] w fun r w'=>r=.bool (decide (0<=i)&&brkB x c d i.toNat)/\Ext w w':=by
 have hn:=cat_cl h
 have h4:=hk.n4
 have hnc:nCl v=x.1.length:=by unfold nCl;omega
 refine F185_ok v (c:Int) (d:Int) i w _ fun b1 w2 a2=>?_
 have e2:Ext w w2:=a2.ch _
 refine(c224 (v:=v) (c:Int) ⟨_,a2.new⟩).use ?_
 rintro _ _ ⟨rfl,rfl⟩
 refine⟨_,rfl,IfB.no (by rw[hnc];simp;omega) ((c224 (v:=v) (d:Int) ⟨_,a2.new⟩).use ?_)⟩
 rintro _ _ ⟨rfl,rfl⟩
 refine⟨_,rfl,IfB.no (by rw[hnc];simp;omega) (IfB.dec (fun h1=>⟨by rw[decide_eq_false (by omega)];rfl,e2⟩) fun h1=>?_)⟩
 have hx:x.1[c]? =some x.1[c]:=List.getElem?_eq_getElem hc
 have hxm:x.1[c]∈x.1:=List.getElem_mem hc
 generalize x.1[c]=y at hx hxm
 obtain⟨b2,o2,cv,hp,hcc,hM⟩:=ClsR.at (SlR.ext h.cl e2) hx
 have hsn:=hM.st.n
 have hns:=nSt_of hx
 have hy:=hk.cls y hxm
 have hy1:=hy.l1;have hy4:=hy.l4
 have hbr:=hk.br c d (by omega) (by omega)
 have htp:topB x c d<=8:=by
  unfold topB
  split
  ·have:=(pow_range (show nSt x c-1<=3 by omega)).2;omega
  ·omega
 refine⟨v.1,boxAt (cs:=cxC v) a2.new 0 (Ch.refl _ _),b2,o2,hp,⟨by omega,by omega⟩,cv.2.2.1,?_,IfB.dec (fun h2=>⟨?_,e2⟩) fun h2=>⟨⟨by omega,by omega⟩,⟨by omega,by omega⟩,brk x c d,?_,by omega,?_,e2⟩⟩
 ·rw[Int.toNat_natCast];exact hcc 2 _ rfl
 ·rw[wrap_of (by omega) (by omega)] at h2
  unfold brkB
  rw[decide_eq_false (p:=i.toNat+1<nSt x c) (by omega)];simp
 ·rw[Int.toNat_natCast,Int.toNat_natCast];exact brk_box h a2.new (Ch.refl _ _) (by omega) (by omega)
 ·rw[wrap_of (by omega) (by omega)] at h2
  rw[show (IntKind.i64.bits)=64 from rfl,bitAt hbr.1 (by omega)]
  unfold brkB
  rw[decide_eq_true (p:=0<=i) (by omega),decide_eq_true hc,decide_eq_true hd,decide_eq_true (p:=i.toNat+1<nSt x c) (by omega)];simp
end Go.Proofs.YtlpgdngcgbeegaaGreat.Gx
